/- The example of chapter 08 holds. -/
import Derived.Test.YtcnihmlmaigkdaaGreatDoorMShRef
import Derived.Stop.BytesEq
namespace Go.Proofs.YtcnihmlmaigkdaaGreatDoor
open Go.RowKit Go.Lib Go.Sort
set_option linter.unusedVariables false

def exS (B : Nat) : Cfg := ⟨0, ⟨[], none, 0⟩, ⟨[], none, 0⟩, ⟨[⟨4096, 8, 1, 3, true⟩], some ⟨B, 0, none⟩, 1⟩, ⟨[], none, 0⟩, ⟨[⟨1, 2, [], none, 0⟩], some ⟨B + 1, 0, none⟩, 1⟩⟩
def exT : ByteArray := ⟨([114, 101, 103, 105, 111, 110, 32, 49, 32, 123, 32, 98, 97, 115, 101, 32, 48, 120, 49, 48, 48, 48, 59, 32, 115, 105, 122, 101, 32, 56, 59, 32, 114, 105, 103, 104, 116, 115, 32, 114].append [119, 59, 32, 115, 104, 97, 114, 101, 100, 59, 32, 125, 10, 99, 104, 97, 110, 110, 101, 108, 32, 49, 32, 123, 32, 115, 111, 117, 114, 99, 101, 32, 50, 59, 32, 116, 111, 59, 32, 125, 10]).toArray⟩
theorem exS_text (B : Nat) : ofL (recordsL (exS B)) = exT := by
  have h1 : numB 1 = [49] := by unfold numB; rw [digL_small (by omega)]; decide
  have h2 : numB 2 = [50] := by unfold numB; rw [digL_small (by omega)]; decide
  have h8 : numB 8 = [56] := by unfold numB; rw [digL_small (by omega)]; decide
  have hx : hexL 4096 = [48, 120, 49, 48, 48, 48] := by
    unfold hexL
    rw [digL_big (by omega) (by omega), digL_big (by omega) (by omega), digL_big (by omega) (by omega), digL_small (by omega)]
    decide
  have e : recordsL (exS B) = textB [] [regLn ⟨4096, 8, 1, 3, true⟩, chanLn ⟨1, 2, [], none, 0⟩] := rfl
  rw [e]
  simp only [regLn, chanLn, regF, h1, h2, h8, hx]
  decide +kernel
theorem exS_ok (B : Nat) : (exS B).Ok := by
  refine ⟨by simp [exS], ?_, ?_, ?_, ?_, ?_⟩
  · intro x hx; simp [exS] at hx
  · intro x hx; simp [exS] at hx
  · intro x hx; simp [exS] at hx; subst hx; exact ⟨by decide, by decide, by decide, by decide⟩
  · intro x hx; simp [exS] at hx
  · intro x hx; simp [exS] at hx; subst hx; exact ⟨by decide, by decide, by simp⟩
theorem exS_few (B : Nat) : FewC (exS B) := by
  refine ⟨by simp [exS], by simp [exS], by simp [exS], by simp [exS], by simp [exS], ?_, ?_, ?_, ?_⟩
  · intro x hx; simp [exS] at hx; subst hx; simp
  · intro x hx; simp [exS] at hx
  · intro x hx; simp [exS] at hx
  · intro x hx; simp [exS] at hx; subst hx; simp
theorem exS_small (B : Nat) : (exS B).Small := by unfold Cfg.Small; simp [exS, linksN]
theorem exS_line (B : Nat) : 3 + 0 + sumC (exS B) 5 = 4 := by rfl
/-- The example in memory. -/
def ExS (w W : World) : Prop := Below w.heap.size w W ∧ CfgAt W.heap.size (exS w.heap.size) W ∧ Blk W (w.heap.size + 2) 29 #[.int .u64 0, .slice none 0 0, .slice none 0 0, .slice (some ⟨w.heap.size, 0, none⟩) 1 1, .slice none 0 0, .slice (some ⟨w.heap.size + 1, 0, none⟩) 1 1]
theorem ExS.below {w W W' : World} (h : ExS w W) (hb : Below W.heap.size W W') : ExS w W' := ⟨h.1.trans (hb.mono h.1.size), CfgAt.more (h.2.1.below hb) hb.size, h.2.2.below hb h.2.2.lt⟩
theorem nil_rowS {α : Type} {enc : α → List Value} {k B : Nat} {w : World} : RowAt enc k B ⟨[], none, 0⟩ w := ⟨⟨by simp, fun h => absurd h (by simp)⟩, Nat.le_refl _, Nat.zero_le _⟩
theorem reads_blkS {w : World} {g B size n : Nat} {t : TypeId} {cs : Array Value} {xs : List Value} (h : Blk w g t cs) (hB : g < B) (hx : cs.toList = xs) (hl : xs.length = n * size) : Reads w B size (some ⟨g, 0, none⟩) n xs :=
  ⟨hl, fun _ => ⟨_, rfl, hB, fun j u hu => by rw [addr_plain, Nat.zero_add, h.cell, ← Array.getElem?_toList, hx]; exact hu⟩⟩
theorem ExS.start (w : World) : ExS w (((w.alloc (.cells #[.int .u64 4096, .int .u64 8, .int .u16 1, .int .u8 3, .bool true] 54)).alloc (.cells #[.int .u16 1, .int .u16 2, .slice none 0 0] 57)).alloc (.cells #[.int .u64 0, .slice none 0 0, .slice none 0 0, .slice (some ⟨w.heap.size, 0, none⟩) 1 1, .slice none 0 0, .slice (some ⟨w.heap.size + 1, 0, none⟩) 1 1] 29)) := by
  have h1 := ((Blk.new w 54 #[.int .u64 4096, .int .u64 8, .int .u16 1, .int .u8 3, .bool true]).alloc (.cells #[.int .u16 1, .int .u16 2, .slice none 0 0] 57)).alloc (.cells #[.int .u64 0, .slice none 0 0, .slice none 0 0, .slice (some ⟨w.heap.size, 0, none⟩) 1 1, .slice none 0 0, .slice (some ⟨w.heap.size + 1, 0, none⟩) 1 1] 29)
  have h2 := (Blk.new (w.alloc (.cells #[.int .u64 4096, .int .u64 8, .int .u16 1, .int .u8 3, .bool true] 54)) 57 #[.int .u16 1, .int .u16 2, .slice none 0 0]).alloc (.cells #[.int .u64 0, .slice none 0 0, .slice none 0 0, .slice (some ⟨w.heap.size, 0, none⟩) 1 1, .slice none 0 0, .slice (some ⟨w.heap.size + 1, 0, none⟩) 1 1] 29)
  have h3 := Blk.new ((w.alloc (.cells #[.int .u64 4096, .int .u64 8, .int .u16 1, .int .u8 3, .bool true] 54)).alloc (.cells #[.int .u16 1, .int .u16 2, .slice none 0 0] 57)) 29 #[.int .u64 0, .slice none 0 0, .slice none 0 0, .slice (some ⟨w.heap.size, 0, none⟩) 1 1, .slice none 0 0, .slice (some ⟨w.heap.size + 1, 0, none⟩) 1 1]
  simp only [World.size_alloc, Nat.add_assoc, Nat.reduceAdd] at h2 h3
  refine ⟨(((Below.refl _ w).alloc (Nat.le_refl _) _).alloc (by simp) _).alloc (by simp; omega) _, ?_, h3⟩
  refine ⟨nil_rowS, nil_rowS, ⟨reads_blkS h1 h1.lt rfl rfl, by simp [exS], by simp [exS]⟩, nil_rowS, ⟨reads_blkS h2 h2.lt rfl rfl, by simp [exS], by simp [exS]⟩, fun x hx => ?_⟩
  simp [exS] at hx
  subst hx
  exact ⟨⟨by simp, fun h => absurd h (by simp)⟩, Nat.le_refl _, Nat.zero_le _⟩
set_option maxRecDepth 100000 in
set_option maxHeartbeats 4000000 in
theorem alive8_calls (w : World) (hv : VarT w) : Calls Tryz.prog 9 #[] w fun e w' => e = .returned (.bool true) ∧ Below w.heap.size w w' := by
  have HR : Hid (∀ W, ExS w W → Calls Tryz.prog 12 #[.agg #[.int .u64 0, .slice none 0 0, .slice none 0 0, .slice (some ⟨w.heap.size, 0, none⟩) 1 1, .slice none 0 0, .slice (some ⟨w.heap.size + 1, 0, none⟩) 1 1]] W fun e w' => e = .returned (.string exT) ∧ Below W.heap.size W w') := hide (fun W h => by
    have := SRecords_calls (exS w.heap.size) W h.2.1 (exS_ok _) (exS_few _) (hv.below h.1)
    rw [exS_text] at this
    exact this)
  have HL : Hid (∀ W, ExS w W → Calls Tryz.prog 18 #[.agg #[.int .u64 0, .slice none 0 0, .slice none 0 0, .slice (some ⟨w.heap.size, 0, none⟩) 1 1, .slice none 0 0, .slice (some ⟨w.heap.size + 1, 0, none⟩) 1 1], .int .i64 5, .int .i64 0] W fun e w' => e = .returned (.int .i64 4) ∧ Below W.heap.size W w') := hide (fun W h => by
    have := Line_in (exS w.heap.size) 5 0 W h.2.1 (exS_small _) (by omega) (by omega) (show 0 < 1 by omega)
    rw [exS_line] at this
    exact this)
  have HE0 := hide (ExS.start w)
  have HXC : Hid (∀ W, ExS w W → W.cell? ⟨w.heap.size + 2, 0, none⟩ = some (.int .u64 0) ∧ W.cell? ⟨w.heap.size + 2, 1, none⟩ = some (.slice none 0 0) ∧ W.cell? ⟨w.heap.size + 2, 2, none⟩ = some (.slice none 0 0) ∧ W.cell? ⟨w.heap.size + 2, 3, none⟩ = some (.slice (some ⟨w.heap.size, 0, none⟩) 1 1) ∧ W.cell? ⟨w.heap.size + 2, 4, none⟩ = some (.slice none 0 0) ∧ W.cell? ⟨w.heap.size + 2, 5, none⟩ = some (.slice (some ⟨w.heap.size + 1, 0, none⟩) 1 1)) := hide (fun W h => cfg_cells h.2.2)
  clear hv
  go_enter Tryz.func9, Tryz.ntmps9
  go_wp2_with (first
    | (go_at_call 12; refine (HR.out _ HE0.out).mono ?_; rintro e w1 ⟨rfl, hb⟩; have HE1 := hide (HE0.out.below hb); clear hb; obtain ⟨b0, b1, b2, b3, b4, b5⟩ := HXC.out _ HE1.out; unfold exT)
    | (go_at_call 18; refine (HL.out _ HE1.out).mono ?_; rintro e w2 ⟨rfl, hb⟩; have HE2 := hide (HE1.out.below hb); clear hb))
  go_ret
  exact ⟨by rfl, HE2.out.1⟩
end Go.Proofs.YtcnihmlmaigkdaaGreatDoor
