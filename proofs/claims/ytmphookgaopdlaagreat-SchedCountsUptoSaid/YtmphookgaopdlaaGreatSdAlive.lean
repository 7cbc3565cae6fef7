/- The example of chapter 21 holds. -/
import Derived.Test.YtmphookgaopdlaaGreatSdNx
import Derived.Test.YtmphookgaopdlaaGreatSdNew
namespace Go.Proofs.YtmphookgaopdlaaGreat
open Go.RowKit Go.Sort
set_option linter.unusedVariables false

def exS (B : Nat) : Cfg := ⟨10, ⟨[⟨3, ⟨#[97]⟩, 0, 0⟩], some ⟨B, 0, none⟩, 1⟩, ⟨[⟨2, 4, 3⟩], some ⟨B + 1, 0, none⟩, 1⟩, ⟨[], none, 0⟩, ⟨[], none, 0⟩, ⟨[], none, 0⟩⟩
theorem exS_check (B : Nat) : checkR (exS B) = (0, 0, 0) := by rfl
theorem exS_ok (B : Nat) : (exS B).Ok := by
  refine ⟨by simp [exS], ?_, ?_, ?_, ?_, ?_⟩
  · intro x hx; simp [exS] at hx; subst hx; exact ⟨by decide, by decide, by decide, by decide⟩
  · intro x hx; simp [exS] at hx; subst hx; exact ⟨by decide, by decide, by decide⟩
  · intro x hx; simp [exS] at hx
  · intro x hx; simp [exS] at hx
  · intro x hx; simp [exS] at hx
theorem exS_small (B : Nat) : (exS B).Small := by unfold Cfg.Small; simp [exS, linksN]
theorem exS_sch : Sch 10 [⟨2, 4, 3⟩] := ⟨by decide, by decide, fun x hx => by rw [List.mem_singleton] at hx; subst hx; decide, List.pairwise_singleton _ _⟩
theorem exS_next : nextK 10 [⟨2, 4, 3⟩] 3 8 17 = some 22 := by decide +kernel
theorem exS_until : untilS 10 [⟨2, 4, 3⟩] 13 = 3 := by decide +kernel
theorem exS_win : winD [⟨2, 4, 3⟩] 5 = ⟨2, 4, 3⟩ ∧ winB [⟨2, 4, 3⟩] 5 = true := by decide +kernel
/-- The example in memory. -/
def ExSm (w W : World) : Prop := Below w.heap.size w W ∧ CfgAt W.heap.size (exS w.heap.size) W
theorem nil_rowS {α : Type} {enc : α → List Value} {k B : Nat} {w : World} : RowAt enc k B ⟨[], none, 0⟩ w := ⟨⟨by simp, fun h => absurd h (by simp)⟩, Nat.le_refl _, Nat.zero_le _⟩
theorem reads_blkS {w : World} {g B size n : Nat} {t : TypeId} {cs : Array Value} {xs : List Value} (h : Blk w g t cs) (hB : g < B) (hx : cs.toList = xs) (hl : xs.length = n * size) : Reads w B size (some ⟨g, 0, none⟩) n xs :=
  ⟨hl, fun _ => ⟨_, rfl, hB, fun j u hu => by rw [addr_plain, Nat.zero_add, h.cell, ← Array.getElem?_toList, hx]; exact hu⟩⟩
theorem ExSm.start (w : World) : ExSm w ((w.alloc (.cells #[.int .u16 3, .string ⟨#[97]⟩, .int .u64 0, .int .u64 0] 53)).alloc (.cells #[.int .u64 2, .int .u64 4, .int .u16 3] 38)) := by
  have h1 := ((Blk.new w 53 #[.int .u16 3, .string ⟨#[97]⟩, .int .u64 0, .int .u64 0]).alloc (.cells #[.int .u64 2, .int .u64 4, .int .u16 3] 38))
  have h2 := (Blk.new (w.alloc (.cells #[.int .u16 3, .string ⟨#[97]⟩, .int .u64 0, .int .u64 0] 53)) 38 #[.int .u64 2, .int .u64 4, .int .u16 3])
  simp only [World.size_alloc] at h2
  refine ⟨((Below.refl _ w).alloc (Nat.le_refl _) _).alloc (by simp) _, ?_⟩
  exact ⟨⟨reads_blkS h1 h1.lt rfl rfl, by simp [exS], by simp [exS]⟩, ⟨reads_blkS h2 h2.lt rfl rfl, by simp [exS], by simp [exS]⟩, nil_rowS, nil_rowS, nil_rowS, fun x hx => by simp [exS] at hx⟩
set_option maxRecDepth 100000 in
set_option maxHeartbeats 4000000 in
theorem alive_sd (w : World) : Calls Tryz.prog 10 #[] w fun e w' => e = .returned (.bool true) ∧ Below w.heap.size w w' := by
  have hN : ∀ W, ExSm w W → Calls Tryz.prog 11 #[.agg #[.int .u64 10, .slice (some ⟨w.heap.size, 0, none⟩) 1 1, .slice (some ⟨w.heap.size + 1, 0, none⟩) 1 1, .slice none 0 0, .slice none 0 0, .slice none 0 0]] W fun e w' => ∃ a cap g, e = .returned (.pointer (some ⟨g, 0, none⟩)) ∧ SdAt 10 [⟨2, 4, 3⟩] a cap g w' ∧ Below W.heap.size W w' := fun W h => by
    have := New_yes (exS w.heap.size) W h.2 (exS_ok _) (exS_small _) (by simp [exS]) (exS_check _)
    refine Calls.mono this ?_
    rintro e w' ⟨l, a, cap, g, he, hg, hsd, hp, _, hb⟩
    have hl : l = [⟨2, 4, 3⟩] := List.perm_singleton.1 hp
    subst hl
    exact ⟨a, cap, g, he, hsd, hb⟩
  have HNW := hide (hN _ (ExSm.start w))
  have HB0 := hide (ExSm.start w).1
  have HLK := hide (fun a cap g W (hW : SdAt 10 [⟨2, 4, 3⟩] a cap g W) => Lookup_calls 10 [⟨2, 4, 3⟩] a cap g 15 W hW exS_sch (by decide) (by decide))
  have HUN := hide (fun a cap g W (hW : SdAt 10 [⟨2, 4, 3⟩] a cap g W) => Until_calls 10 [⟨2, 4, 3⟩] a cap g 13 W hW exS_sch (by decide) (by decide))
  have HNX := hide (fun a cap g W (hW : SdAt 10 [⟨2, 4, 3⟩] a cap g W) => Next_calls 10 [⟨2, 4, 3⟩] a cap g 3 17 W hW exS_sch (by decide) (by decide))
  have HLE := hide (fun a cap g W (hW : SdAt 10 [⟨2, 4, 3⟩] a cap g W) => SLen_calls 10 [⟨2, 4, 3⟩] a cap g W hW)
  rw [show 15 % 10 = 5 from rfl, exS_win.1, exS_win.2] at HLK
  rw [exS_until] at HUN
  rw [show 4 * [(⟨2, 4, 3⟩ : WinR)].length + 4 = 8 from rfl, exS_next] at HNX
  clear hN
  go_enter Tryz.func10, Tryz.ntmps10
  go_wp2_with (first
    | (go_at_call 11; refine HNW.out.mono ?_; rintro e w1 ⟨a, cap, g, rfl, hsd, hb⟩; have HS1 := hide hsd; have HB1 := hide (HB0.out.trans (hb.mono HB0.out.size)); clear hsd hb)
    | (go_at_call 13; refine (HLK.out _ _ _ _ HS1.out).mono ?_; rintro e w2 ⟨rfl, hb⟩; have HS2 := hide (HS1.out.below hb); have HB2 := hide (HB1.out.trans (hb.mono HB1.out.size)); clear hb)
    | (go_at_call 21; refine (HNX.out _ _ _ _ HS2.out).mono ?_; rintro e w3 ⟨rfl, hb⟩; have HS3 := hide (HS2.out.below hb); have HB3 := hide (HB2.out.trans (hb.mono HB2.out.size)); clear hb)
    | (go_at_call 19; refine (HUN.out _ _ _ _ HS3.out).mono ?_; rintro e w4 ⟨rfl, hb⟩; have HS4 := hide (HS3.out.below hb); have HB4 := hide (HB3.out.trans (hb.mono HB3.out.size)); clear hb)
    | (go_at_call 17; refine (HLE.out _ _ _ _ HS4.out).mono ?_; rintro e w5 ⟨rfl, rfl⟩))
  go_ret
  exact ⟨rfl, HB4.out⟩
end Go.Proofs.YtmphookgaopdlaaGreat
