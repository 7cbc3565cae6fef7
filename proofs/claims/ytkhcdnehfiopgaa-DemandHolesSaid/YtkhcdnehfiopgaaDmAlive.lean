/- The example of chapter 16 holds; the law's fits and divides. -/
import Derived.Test.YtkhcdnehfiopgaaDmFew
import Derived.Test.YtkhcdnehfiopgaaFrB
namespace Go.Proofs.Ytkhcdnehfiopgaa
open Go.RowKit Go.Sort
set_option linter.unusedVariables false

def exD (B : Nat) : Cfg := ⟨100, ⟨[⟨1, ⟨#[97]⟩, 50, 8⟩], some ⟨B, 0, none⟩, 1⟩, ⟨[⟨50, 5, 1⟩, ⟨0, 10, 1⟩], some ⟨B + 1, 0, none⟩, 2⟩, ⟨[], none, 0⟩, ⟨[], none, 0⟩, ⟨[], none, 0⟩⟩
theorem exD_right (B : Nat) : rightB (exD B) = true := by rfl
theorem exD_ok (B : Nat) : (exD B).Ok := by
  refine ⟨by simp [exD], ?_, ?_, ?_, ?_, ?_⟩
  · intro x hx; simp [exD] at hx; subst hx; exact ⟨by decide, by decide, by decide, by decide⟩
  · intro x hx; simp [exD] at hx; rcases hx with rfl | rfl <;> exact ⟨by decide, by decide, by decide⟩
  · intro x hx; simp [exD] at hx
  · intro x hx; simp [exD] at hx
  · intro x hx; simp [exD] at hx
theorem exD_small (B : Nat) : (exD B).Small := by unfold Cfg.Small; simp [exD, linksN]
theorem exD_least (B : Nat) : leastR (exD B) ⟨1, ⟨#[97]⟩, 50, 8⟩ = 5 := by
  have : leastR (exD 0) ⟨1, ⟨#[97]⟩, 50, 8⟩ = 5 := by decide +kernel
  exact this
theorem exD_short (B : Nat) : shortR (exD B) ⟨1, ⟨#[97]⟩, 50, 8⟩ = some 1 := by
  have : shortR (exD 0) ⟨1, ⟨#[97]⟩, 50, 8⟩ = some 1 := by decide +kernel
  exact this
theorem exD_check (B : Nat) : dmCheck (exD B) = (23, 1, 0) := by
  have h1 : wpB (exD B).frame ⟨1, ⟨#[97]⟩, 50, 8⟩ = false := by show wpB 100 _ = false; decide +kernel
  have hc : dmCode (exD B) ⟨1, ⟨#[97]⟩, 50, 8⟩ = 23 := by unfold dmCode; rw [exD_short, h1]; rfl
  unfold dmCheck
  show (match badP (dmCode (exD B)) [⟨1, ⟨#[97]⟩, 50, 8⟩] 0 with | some (e, i) => (e, 1, i) | none => (0, 0, 0)) = _
  rw [badP, hc]; rfl
/-- The example in memory. -/
def ExDm (w W : World) : Prop := Below w.heap.size w W ∧ CfgAt W.heap.size (exD w.heap.size) W ∧ Blk W (w.heap.size + 2) 29 (cfgC (exD w.heap.size))
theorem ExDm.below {w W W' : World} (h : ExDm w W) (hb : Below W.heap.size W W') : ExDm w W' := ⟨h.1.trans (hb.mono h.1.size), CfgAt.more (h.2.1.below hb) hb.size, h.2.2.below hb h.2.2.lt⟩
theorem nil_rowD {α : Type} {enc : α → List Value} {k B : Nat} {w : World} : RowAt enc k B ⟨[], none, 0⟩ w := ⟨⟨by simp, fun h => absurd h (by simp)⟩, Nat.le_refl _, Nat.zero_le _⟩
theorem reads_blkD {w : World} {g B size n : Nat} {t : TypeId} {cs : Array Value} {xs : List Value} (h : Blk w g t cs) (hB : g < B) (hx : cs.toList = xs) (hl : xs.length = n * size) : Reads w B size (some ⟨g, 0, none⟩) n xs :=
  ⟨hl, fun _ => ⟨_, rfl, hB, fun j u hu => by rw [addr_plain, Nat.zero_add, h.cell, ← Array.getElem?_toList, hx]; exact hu⟩⟩
theorem ExDm.start (w : World) : ExDm w (((w.alloc (.cells #[.int .u16 1, .string ⟨#[97]⟩, .int .u64 50, .int .u64 8] 40)).alloc (.cells #[.int .u64 50, .int .u64 5, .int .u16 1, .int .u64 0, .int .u64 10, .int .u16 1] 49)).alloc (.cells (cfgC (exD w.heap.size)) 29)) := by
  have h1 := ((Blk.new w 40 #[.int .u16 1, .string ⟨#[97]⟩, .int .u64 50, .int .u64 8]).alloc (.cells #[.int .u64 50, .int .u64 5, .int .u16 1, .int .u64 0, .int .u64 10, .int .u16 1] 49)).alloc (.cells (cfgC (exD w.heap.size)) 29)
  have h2 := (Blk.new (w.alloc (.cells #[.int .u16 1, .string ⟨#[97]⟩, .int .u64 50, .int .u64 8] 40)) 49 #[.int .u64 50, .int .u64 5, .int .u16 1, .int .u64 0, .int .u64 10, .int .u16 1]).alloc (.cells (cfgC (exD w.heap.size)) 29)
  have h3 := Blk.new ((w.alloc (.cells #[.int .u16 1, .string ⟨#[97]⟩, .int .u64 50, .int .u64 8] 40)).alloc (.cells #[.int .u64 50, .int .u64 5, .int .u16 1, .int .u64 0, .int .u64 10, .int .u16 1] 49)) 29 (cfgC (exD w.heap.size))
  simp only [World.size_alloc] at h2 h3
  refine ⟨(((Below.refl _ w).alloc (Nat.le_refl _) _).alloc (by simp) _).alloc (by simp; omega) _, ?_, h3⟩
  exact ⟨⟨reads_blkD h1 h1.lt rfl rfl, by simp [exD], by simp [exD]⟩, ⟨reads_blkD h2 h2.lt rfl rfl, by simp [exD], by simp [exD]⟩, nil_rowD, nil_rowD, nil_rowD, fun x hx => by simp [exD] at hx⟩
set_option maxRecDepth 100000 in
set_option maxHeartbeats 4000000 in
theorem alive_dm (w : World) : Calls Try.prog 10 #[] w fun e w' => e = .returned (.bool true) ∧ Below w.heap.size w w' := by
  have HB0 := hide (ExDm.start w)
  have HSH := hide (fun W (hW : ExDm w W) => DShort_calls (exD w.heap.size) 0 W hW.2.1 (exD_ok _) (exD_small _) (exD_right _) (by show 0 < 1; decide) (by show divB 50 100 = true; decide +kernel))
  have HLE := hide (fun W (hW : ExDm w W) => DLeast_calls (exD w.heap.size) 0 W hW.2.1 (exD_ok _) (exD_small _) (exD_right _) (by show 0 < 1; decide) (by show divB 50 100 = true; decide +kernel))
  have HCK := hide (fun W (hW : ExDm w W) => DCheck_calls (exD w.heap.size) W hW.2.1 (exD_ok _) (exD_small _) (exD_right _))
  have HSH2 : Hid (∀ W, ExDm w W → Calls Try.prog 14 #[.agg #[.int .u64 100, .slice (some ⟨w.heap.size, 0, none⟩) 1 1, .slice (some ⟨w.heap.size + 1, 0, none⟩) 2 2, .slice none 0 0, .slice none 0 0, .slice none 0 0], .int .i64 0] W fun e w' => e = .returned (.tuple #[.int .u64 1, .bool true]) ∧ Below W.heap.size W w') := hide (fun W hW => by
    have := HSH.out W hW
    rw [show shortR (exD w.heap.size) ((exD w.heap.size).parts.l[0]'(by show 0 < 1; decide)) = some 1 from exD_short _] at this
    exact this)
  have HLE2 : Hid (∀ W, ExDm w W → Calls Try.prog 16 #[.agg #[.int .u64 100, .slice (some ⟨w.heap.size, 0, none⟩) 1 1, .slice (some ⟨w.heap.size + 1, 0, none⟩) 2 2, .slice none 0 0, .slice none 0 0, .slice none 0 0], .int .i64 0] W fun e w' => e = .returned (.int .u64 5) ∧ Below W.heap.size W w') := hide (fun W hW => by
    have := HLE.out W hW
    rw [show leastR (exD w.heap.size) ((exD w.heap.size).parts.l[0]'(by show 0 < 1; decide)) = 5 from exD_least _] at this
    exact this)
  have HCK2 : Hid (∀ W, ExDm w W → Calls Try.prog 12 #[.agg #[.int .u64 100, .slice (some ⟨w.heap.size, 0, none⟩) 1 1, .slice (some ⟨w.heap.size + 1, 0, none⟩) 2 2, .slice none 0 0, .slice none 0 0, .slice none 0 0]] W fun e w' => e = .returned (.agg #[.int .i64 23, .int .i64 1, .int .i64 0]) ∧ Below W.heap.size W w') := hide (fun W hW => by
    have := HCK.out W hW
    rw [exD_check] at this
    exact this)
  have HBC : Hid (∀ W, ExDm w W → W.cell? ⟨w.heap.size + 2, 0, none⟩ = some (.int .u64 100) ∧ W.cell? ⟨w.heap.size + 2, 1, none⟩ = some (.slice (some ⟨w.heap.size, 0, none⟩) 1 1) ∧ W.cell? ⟨w.heap.size + 2, 2, none⟩ = some (.slice (some ⟨w.heap.size + 1, 0, none⟩) 2 2) ∧ W.cell? ⟨w.heap.size + 2, 3, none⟩ = some (.slice none 0 0) ∧ W.cell? ⟨w.heap.size + 2, 4, none⟩ = some (.slice none 0 0) ∧ W.cell? ⟨w.heap.size + 2, 5, none⟩ = some (.slice none 0 0)) := hide (fun W hW => ⟨hW.2.2.cell 0, hW.2.2.cell 1, hW.2.2.cell 2, hW.2.2.cell 3, hW.2.2.cell 4, hW.2.2.cell 5⟩)
  have fe := fun W => fault_eql 23 1 0 23 1 0 W
  have fg := fun o x y xs ys W => fault_guard o x y xs ys W
  have nb : ((23 : Int) == 23 && ((1 : Int) == 1 && (0 : Int) == 0)) = true := by rfl
  rw [nb] at fe
  clear HSH HLE HCK nb
  have hB := HB0.out
  unfold exD cfgC at HB0
  clear hB
  go_enter Try.func10, Try.ntmps10
  go_wp2_with (first
    | (go_at_call 14; refine (HSH2.out _ HB0.out).mono ?_; rintro e w1 ⟨rfl, hb⟩; have HX1 := hide (ExDm.below HB0.out hb); clear hb; obtain ⟨b0, b1, b2, b3, b4, b5⟩ := HBC.out w1 HX1.out; simp only [Nat.add_assoc, Nat.reduceAdd])
    | (go_at_call 16; refine (HLE2.out _ HX1.out).mono ?_; rintro e w2 ⟨rfl, hb⟩; have HX2 := hide (HX1.out.below hb); clear hb b0 b1 b2 b3 b4 b5; obtain ⟨b0, b1, b2, b3, b4, b5⟩ := HBC.out w2 HX2.out)
    | (go_at_call 12; refine (HCK2.out _ HX2.out).mono ?_; rintro e w3 ⟨rfl, hb⟩; have HX3 := hide (HX2.out.below hb); clear hb b0 b1 b2 b3 b4 b5))
  go_ret
  exact ⟨rfl, HX3.out.1⟩
/-! ### fits, divides -/
def fitsB (c : Cfg) : Bool := fewB c && few16B c && decide ((checkR c).1 = 0)
theorem fitsB_right {c : Cfg} (h : fitsB c = true) : rightB c = true ∧ few16B c = true := by
  unfold fitsB at h
  rw [Bool.and_eq_true, Bool.and_eq_true] at h
  exact ⟨by unfold rightB; rw [h.1.1, h.2]; rfl, h.1.2⟩
set_option maxHeartbeats 4000000 in
theorem Fits_calls (c : Cfg) (w : World) (h : CfgAt w.heap.size c w) (hok : c.Ok) (hsm : c.Small) :
    Calls Try.prog 9 #[cfgV c] w fun e w' => e = .returned (.bool (fitsB c)) ∧ Below w.heap.size w w' := by
  have hB0 := Boxed1.start w c
  have HF := hide (fun W (hW : Boxed1 w c W) => Few_calls c W (hW.cfg h) hok hsm)
  have HG := hide (fun W (hW : Boxed1 w c W) => RFew_calls c W (hW.cfg h) hok hsm)
  have HR := hide (fun W (hW : Boxed1 w c W) => Right_calls c W (hW.cfg h) hok hsm)
  have HBC := hide (fun W (hW : Boxed1 w c W) => hW.cells)
  have HFB : Hid (fitsB c = (fewB c && few16B c && decide ((checkR c).1 = 0))) := hide rfl
  generalize fitsB c = R at *
  generalize decide ((checkR c).1 = 0) = r3 at *
  generalize fewB c = r1 at *
  generalize few16B c = r2 at *
  unfold cfgV at HF HG HR ⊢
  unfold cfgC at hB0
  have HB0 := hide hB0
  clear h hok hsm hB0
  obtain ⟨b0, b1, b2, b3, b4, b5⟩ := HBC.out _ HB0.out
  cases r1 with
  | false =>
    have HE : Hid (R = false) := hide (by rw [HFB.out]; rfl)
    go_enter Try.func9, Try.ntmps9
    go_wp2_with (go_at_call 25; refine (HF.out _ HB0.out).mono ?_; rintro e w1 ⟨rfl, hb⟩; have HB1 := hide (HB0.out.below hb); clear hb b0 b1 b2 b3 b4 b5)
    go_ret
    exact ⟨by rw [HE.out]; rfl, HB1.out.1⟩
  | true =>
    cases r2 with
    | false =>
      have HE : Hid (R = false) := hide (by rw [HFB.out]; rfl)
      go_enter Try.func9, Try.ntmps9
      go_wp2_with (first
        | (go_at_call 25; refine (HF.out _ HB0.out).mono ?_; rintro e w1 ⟨rfl, hb⟩; have HB1 := hide (HB0.out.below hb); clear hb b0 b1 b2 b3 b4 b5; obtain ⟨b0, b1, b2, b3, b4, b5⟩ := HBC.out w1 HB1.out)
        | (go_at_call 26; refine (HG.out _ HB1.out).mono ?_; rintro e w2 ⟨rfl, hb⟩; have HB2 := hide (HB1.out.below hb); clear hb b0 b1 b2 b3 b4 b5))
      go_ret
      exact ⟨by rw [HE.out]; rfl, HB2.out.1⟩
    | true =>
      have HE : Hid (R = r3) := hide (by rw [HFB.out]; simp)
      go_enter Try.func9, Try.ntmps9
      go_wp2_with (first
        | (go_at_call 25; refine (HF.out _ HB0.out).mono ?_; rintro e w1 ⟨rfl, hb⟩; have HB1 := hide (HB0.out.below hb); clear hb b0 b1 b2 b3 b4 b5; obtain ⟨b0, b1, b2, b3, b4, b5⟩ := HBC.out w1 HB1.out)
        | (go_at_call 26; refine (HG.out _ HB1.out).mono ?_; rintro e w2 ⟨rfl, hb⟩; have HB2 := hide (HB1.out.below hb); clear hb b0 b1 b2 b3 b4 b5; obtain ⟨b0, b1, b2, b3, b4, b5⟩ := HBC.out w2 HB2.out)
        | (go_at_call 27; refine (HR.out _ HB2.out).mono ?_; rintro e w3 ⟨rfl, hb⟩; have HB3 := hide (HB2.out.below hb); clear hb b0 b1 b2 b3 b4 b5))
      go_ret
      exact ⟨by rw [HE.out]; rfl, HB3.out.1⟩
set_option maxRecDepth 100000 in
set_option maxHeartbeats 4000000 in
theorem LDivides_calls (c : Cfg) (i : Nat) (w : World) (h : CfgAt w.heap.size c w) (hi : i < c.parts.l.length) :
    Calls Try.prog 13 #[cfgV c, .int .i64 (i : Int)] w fun e w' => e = .returned (.bool (divB c.parts.l[i].per c.frame)) ∧ Below w.heap.size w w' := by
  have hB0 := Boxed1.start w c
  have hcap := h.parts.2
  have HD := hide (fun W => RefDivides_calls c.parts.l[i].per c.frame W)
  have HSY := hide (fun (b o : Nat) (ha : c.parts.a = some ⟨b, o, none⟩) W (hW : Boxed1 w c W) => And.intro hW.cells (part_cells h hW hi ha))
  obtain ⟨b, o, ha, hab, _⟩ := part_at h.parts i hi
  have HSX := hide (HSY.out b o ha)
  obtain ⟨n, hn⟩ : ∃ n, n = c.parts.l.length := ⟨_, rfl⟩
  have hiI : (i : Int) < (n : Int) := by omega
  have hi0 : (0 : Int) ≤ (i : Int) := by omega
  have hnI : (n : Int) ≤ 9223372036854775807 := by omega
  have hcI : (n : Int) ≤ (c.parts.c : Int) := by omega
  unfold cfgV
  unfold cfgC at hB0
  rw [ha, ← hn] at HSX hB0 ⊢
  generalize divB c.parts.l[i].per c.frame = R at *
  generalize c.parts.l[i] = x at *
  have HB0 := hide hB0
  clear h hB0 hcap ha hab hn HSY
  have HS2 : Hid (∀ W, Boxed1 w c W → (W.cell? ⟨w.heap.size, 0, none⟩ = some (.int .u64 (c.frame : Int)) ∧ W.cell? ⟨w.heap.size, 1, none⟩ = some (.slice (some ⟨b, o, none⟩) n c.parts.c) ∧ W.cell? ⟨b, o + i * 4 + 2, none⟩ = some (.int .u64 (x.per : Int)) ∧ Boxed1 w c W)) := hide (fun W hW => by
    obtain ⟨⟨a0, a1, a2, a3, a4, a5⟩, b0, b1, b2, b3⟩ := HSX.out W hW
    exact ⟨a0, a1, b2, hW⟩)
  go_enter Try.func13, Try.ntmps13
  go_wp2
  go_region_held3 (fun W => (W.cell? ⟨w.heap.size, 0, none⟩ = some (.int .u64 (c.frame : Int)) ∧ W.cell? ⟨w.heap.size, 1, none⟩ = some (.slice (some ⟨b, o, none⟩) n c.parts.c) ∧ W.cell? ⟨b, o + i * 4 + 2, none⟩ = some (.int .u64 (x.per : Int)) ∧ Boxed1 w c W))
    (first | assumption | exact HS2.out _ HB0.out.drewB)
    ((go_at_call 32; refine (HD.out _).mono ?_; rintro e w2 ⟨rfl, rfl⟩))
  go_wp2
  go_ret
  exact ⟨rfl, (And.right (And.right (And.right (by assumption : _ ∧ _ ∧ _ ∧ Boxed1 w c _)))).1⟩
end Go.Proofs.Ytkhcdnehfiopgaa
