/- The walk of the law DemandLarge (chapter 16). -/
import Derived.Test.YtkhcdnehfiopgaaDmLawF
import Derived.Test.YtkhcdnehfiopgaaDmRefL
namespace Go.Proofs.Ytkhcdnehfiopgaa
open Go.RowKit Go.Sort
set_option linter.unusedVariables false

/-- Two configs of the call's own in memory, in the blocks below g+6. -/
def Lg6 (w : World) (g : Nat) (F E : Cfg) (W : World) : Prop := Below w.heap.size w W ∧ w.heap.size ≤ g ∧ g + 6 ≤ W.heap.size ∧ CfgAt (g + 6) F W ∧ CfgAt (g + 6) E W ∧ Blk W (g + 3) 29 (cfgC F) ∧ Blk W (g + 5) 29 (cfgC E)
section
variable {w W W' : World} {g : Nat} {F E : Cfg}
theorem Lg6.below (h : Lg6 w g F E W) (hb : Below (g + 6) W W') : Lg6 w g F E W' :=
  ⟨h.1.trans (hb.mono (by have := h.2.1; omega)), h.2.1, Nat.le_trans h.2.2.1 hb.size, h.2.2.2.1.below hb, h.2.2.2.2.1.below hb, h.2.2.2.2.2.1.below hb (by omega), h.2.2.2.2.2.2.below hb (by omega)⟩
theorem Lg6.start (hb : Below w.heap.size w W) (n per dur : Nat) : Lg6 w W.heap.size (lgC n per dur [⟨0, n, 3⟩] (some ⟨W.heap.size + 1, 0, none⟩) (some ⟨W.heap.size + 2, 0, none⟩) 1) (lgC n per dur [] (some ⟨W.heap.size + 4, 0, none⟩) none 0)
    ((((((W.alloc (.cells (partC (lgX per dur)) 40)).alloc (.cells (partC (lgX per dur)) 40)).alloc (.cells #[.int .u64 0, .int .u64 (n : Int), .int .u16 3] 49)).alloc
      (.cells (cfgC (lgC n per dur [⟨0, n, 3⟩] (some ⟨W.heap.size + 1, 0, none⟩) (some ⟨W.heap.size + 2, 0, none⟩) 1)) 29)).alloc (.cells (partC (lgX per dur)) 40)).alloc (.cells (cfgC (lgC n per dur [] (some ⟨W.heap.size + 4, 0, none⟩) none 0)) 29)) := by
  generalize hF : cfgC (lgC n per dur [⟨0, n, 3⟩] (some ⟨W.heap.size + 1, 0, none⟩) (some ⟨W.heap.size + 2, 0, none⟩) 1) = fv
  generalize hE : cfgC (lgC n per dur [] (some ⟨W.heap.size + 4, 0, none⟩) none 0) = ev
  have h1 := ((((Blk.new (W.alloc (.cells (partC (lgX per dur)) 40)) 40 (partC (lgX per dur))).alloc (.cells #[.int .u64 0, .int .u64 (n : Int), .int .u16 3] 49)).alloc (.cells fv 29)).alloc (.cells (partC (lgX per dur)) 40)).alloc (.cells ev 29)
  have h2 := (((Blk.new ((W.alloc (.cells (partC (lgX per dur)) 40)).alloc (.cells (partC (lgX per dur)) 40)) 49 #[.int .u64 0, .int .u64 (n : Int), .int .u16 3]).alloc (.cells fv 29)).alloc (.cells (partC (lgX per dur)) 40)).alloc (.cells ev 29)
  have h3 := ((Blk.new (((W.alloc (.cells (partC (lgX per dur)) 40)).alloc (.cells (partC (lgX per dur)) 40)).alloc (.cells #[.int .u64 0, .int .u64 (n : Int), .int .u16 3] 49)) 29 fv).alloc (.cells (partC (lgX per dur)) 40)).alloc (.cells ev 29)
  have h4 := (Blk.new ((((W.alloc (.cells (partC (lgX per dur)) 40)).alloc (.cells (partC (lgX per dur)) 40)).alloc (.cells #[.int .u64 0, .int .u64 (n : Int), .int .u16 3] 49)).alloc (.cells fv 29)) 40 (partC (lgX per dur))).alloc (.cells ev 29)
  have h5 := Blk.new (((((W.alloc (.cells (partC (lgX per dur)) 40)).alloc (.cells (partC (lgX per dur)) 40)).alloc (.cells #[.int .u64 0, .int .u64 (n : Int), .int .u16 3] 49)).alloc (.cells fv 29)).alloc (.cells (partC (lgX per dur)) 40)) 29 ev
  have hsz := hb.size
  have hbb := (((((hb.alloc hsz (.cells (partC (lgX per dur)) 40)).alloc (by simp; omega) (.cells (partC (lgX per dur)) 40)).alloc (by simp; omega) (.cells #[.int .u64 0, .int .u64 (n : Int), .int .u16 3] 49)).alloc (by simp; omega) (.cells fv 29)).alloc (by simp; omega) (.cells (partC (lgX per dur)) 40)).alloc (by simp; omega) (.cells ev 29)
  simp only [World.size_alloc] at h1 h2 h3 h4 h5
  subst hF hE
  refine ⟨hbb, hsz, by simp, ?_, ?_, h3, h5⟩
  · exact ⟨⟨reads_blkD h1 (by omega) rfl rfl, by simp [lgC], by simp [lgC]⟩, ⟨reads_blkD h2 (by omega) rfl rfl, by simp [lgC], by simp [lgC]⟩, nil_rowD, nil_rowD, nil_rowD, fun x hx => by simp [lgC] at hx⟩
  · exact ⟨⟨reads_blkD h4 (by omega) rfl rfl, by simp [lgC], by simp [lgC]⟩, nil_rowD, nil_rowD, nil_rowD, nil_rowD, fun x hx => by simp [lgC] at hx⟩
/-- .. and the two faults that are wanted. -/
def LgW (w : World) (g : Nat) (F E : Cfg) (wt nt : Array Value) (W : World) : Prop := Lg6 w g F E W ∧ Blk W (g + 6) 36 wt ∧ Blk W (g + 7) 36 nt
variable {wt nt : Array Value}
theorem LgW.below (h : LgW w g F E wt nt W) (hb : Below W.heap.size W W') : LgW w g F E wt nt W' :=
  ⟨h.1.below (hb.mono h.1.2.2.1), h.2.1.below hb h.2.1.lt, h.2.2.below hb h.2.2.lt⟩
theorem LgW.start (hb : Below w.heap.size w W) (n per dur : Nat) (wt nt : Array Value) : LgW w W.heap.size (lgC n per dur [⟨0, n, 3⟩] (some ⟨W.heap.size + 1, 0, none⟩) (some ⟨W.heap.size + 2, 0, none⟩) 1) (lgC n per dur [] (some ⟨W.heap.size + 4, 0, none⟩) none 0) wt nt
    ((((((((W.alloc (.cells (partC (lgX per dur)) 40)).alloc (.cells (partC (lgX per dur)) 40)).alloc (.cells #[.int .u64 0, .int .u64 (n : Int), .int .u16 3] 49)).alloc
      (.cells (cfgC (lgC n per dur [⟨0, n, 3⟩] (some ⟨W.heap.size + 1, 0, none⟩) (some ⟨W.heap.size + 2, 0, none⟩) 1)) 29)).alloc (.cells (partC (lgX per dur)) 40)).alloc (.cells (cfgC (lgC n per dur [] (some ⟨W.heap.size + 4, 0, none⟩) none 0)) 29)).alloc (.cells wt 36)).alloc (.cells nt 36)) := by
  have h6 := Lg6.start hb n per dur
  obtain ⟨W6, hW6⟩ : ∃ W6, W6 = ((((((W.alloc (.cells (partC (lgX per dur)) 40)).alloc (.cells (partC (lgX per dur)) 40)).alloc (.cells #[.int .u64 0, .int .u64 (n : Int), .int .u16 3] 49)).alloc
      (.cells (cfgC (lgC n per dur [⟨0, n, 3⟩] (some ⟨W.heap.size + 1, 0, none⟩) (some ⟨W.heap.size + 2, 0, none⟩) 1)) 29)).alloc (.cells (partC (lgX per dur)) 40)).alloc (.cells (cfgC (lgC n per dur [] (some ⟨W.heap.size + 4, 0, none⟩) none 0)) 29)) := ⟨_, rfl⟩
  have hs : W6.heap.size = W.heap.size + 6 := by rw [hW6]; simp
  rw [← hW6] at h6 ⊢
  have h7 := (Blk.new W6 36 wt).alloc (.cells nt 36)
  have h8 := Blk.new (W6.alloc (.cells wt 36)) 36 nt
  simp only [World.size_alloc, hs] at h7 h8
  exact ⟨h6.below (((Below.refl _ _).alloc (by omega) _).alloc (by simp; omega) _), h7, h8⟩
theorem LgW.drewB (h : LgW w g F E wt nt W) : LgW w g F E wt nt W.drew := ⟨h.1.below (Below.drew (Below.refl _ _)), h.2.1.drew, h.2.2.drew⟩
end
theorem RMul_two2 (a b : Nat) (ha : a < top64) (hb : b < top64) (w : World) (t : TypeId) :
    Calls Try.prog 18 #[.slice (some ⟨w.heap.size, 0, none⟩) 2 2] (w.alloc (.cells #[.int .u64 (a : Int), .int .u64 (b : Int)] t)) fun e w' => e = .returned (optV (mulL [a, b])) ∧ Below w.heap.size w w' :=
  (RMul_blk a b ha hb w.heap.size t _ (Blk.new w t _)).mono fun e w' ⟨he, hb⟩ => ⟨he, ((Below.refl _ w).alloc (Nat.le_refl _) _).trans (hb.mono (by simp))⟩
def fv3 (a b : Nat) : Array Value := #[.int .i64 (a : Int), .int .i64 (b : Int), .int .i64 0]
theorem lg_small {n per dur : Nat} {lw : List WinR} {aP aW : Option Addr} {cw : Nat} (h : lw.length ≤ 2) : (lgC n per dur lw aP aW cw).Small := by unfold Cfg.Small; simp [lgC, linksN]; omega
set_option maxRecDepth 100000 in
set_option maxHeartbeats 8000000 in
theorem DemandLarge_calls (per k dur : Nat) (hp : per < 18446744073709551616) (hk : k < 4294967296) (hd : dur < 18446744073709551616) (w : World) :
    Calls Try.prog 5 #[.int .u64 (per : Int), .int .u32 (k : Int), .int .u64 (dur : Int)] w fun e w' => e = .returned (.bool true) ∧ Below w.heap.size w w' := by
  have HAL := hide (fun W => alive_dm W)
  have hM := fun W => RMul_two2 per k (by unfold top64; omega) (by unfold top64; omega) W 22
  have hkw : IntKind.u64.wrap (k : Int) = (k : Int) := wrapN k (by omega)
  by_cases hlt : per * k < 18446744073709551616
  · rw [mulL_two2 per k hlt hp] at hM
    obtain ⟨n, hn⟩ : ∃ n, n = per * k := ⟨_, rfl⟩
    rw [← hn] at hM hlt
    have HM := hide hM
    by_cases h0 : n = 0
    · have z0 : ((n : Int) == 0) = true := by rw [h0]; rfl
      clear hM hlt h0 hn
      go_enter Try.func5, Try.ntmps5
      go_wp2_with (first
        | (go_at_call 18; refine (HM.out _).mono ?_; rintro e w1 ⟨rfl, hb⟩; rw [optV]; have HB1 := hide hb; clear hb)
        | (go_at_call 10; refine (HAL.out _).mono ?_; rintro e w2 ⟨rfl, hb⟩; have HB2 := hide (HB1.out.trans (hb.mono HB1.out.size)); clear hb))
      go_ret
      exact ⟨rfl, HB2.out⟩
    · have z0 : ((n : Int) == 0) = false := by rw [beq_eq_false_iff_ne]; omega
      have HLF := hide (fun (aP aW : Option Addr) (W : World) (hC : CfgAt W.heap.size (lgC n per dur [⟨0, n, 3⟩] aP aW 1) W) => DLeast_calls _ 0 W hC (lg_ok hlt hp hd (by intro y hy; rw [List.mem_singleton] at hy; subst hy; exact ⟨by show 0 < _; decide, hlt, by show 3 < 65536; decide⟩)) (lg_small (by simp)) (lgFull_right (by omega)) (by show 0 < 1; decide) (by show divB per n = true; rw [hn]; exact divB_mul (by omega)))
      have HLE := hide (fun (aP aW : Option Addr) (W : World) (hC : CfgAt W.heap.size (lgC n per dur [] aP aW 0) W) => DLeast_calls _ 0 W hC (lg_ok hlt hp hd (by intro y hy; exact absurd hy (by simp))) (lg_small (by simp)) (lgNone_right (by omega)) (by show 0 < 1; decide) (by show divB per n = true; rw [hn]; exact divB_mul (by omega)))
      have HCF := hide (fun (aP aW : Option Addr) (W : World) (hC : CfgAt W.heap.size (lgC n per dur [⟨0, n, 3⟩] aP aW 1) W) => DCheck_calls _ W hC (lg_ok hlt hp hd (by intro y hy; rw [List.mem_singleton] at hy; subst hy; exact ⟨by show 0 < _; decide, hlt, by show 3 < 65536; decide⟩)) (lg_small (by simp)) (lgFull_right (by omega)))
      have HCE := hide (fun (aP aW : Option Addr) (W : World) (hC : CfgAt W.heap.size (lgC n per dur [] aP aW 0) W) => DCheck_calls _ W hC (lg_ok hlt hp hd (by intro y hy; exact absurd hy (by simp))) (lg_small (by simp)) (lgNone_right (by omega)))
      have hdv : divB per n = true := by rw [hn]; exact divB_mul (by omega)
      have HF : Hid (∀ aP aW, leastR (lgC n per dur [⟨0, n, 3⟩] aP aW 1) (lgX per dur) = per ∧ dmCheck (lgC n per dur [⟨0, n, 3⟩] aP aW 1) = if per < dur then (22, 1, 0) else (0, 0, 0)) := hide (fun aP aW => by
        have h1 := lgFull_nums (k := k) (aP := aP) (aW := aW) (cw := 1) (by omega) (by omega) hp hd
        rw [← hn] at h1
        refine ⟨h1.1, ?_⟩
        rw [lg_check hdv (by rw [h1.2])]
        by_cases h : per < dur
        · rw [if_pos h, if_pos h]
        · rw [if_neg h, if_neg h, if_neg h]; rfl)
      have HE : Hid (∀ aP aW, leastR (lgC n per dur [] aP aW 0) (lgX per dur) = 0 ∧ dmCheck (lgC n per dur [] aP aW 0) = if per < dur then (22, 1, 0) else if 0 < dur then (23, 1, 0) else (0, 0, 0)) := hide (fun aP aW => by
        have h1 := lgNone_nums (k := k) (aP := aP) (aW := aW) (cw := 0) (by omega) (by omega) hp hd
        rw [← hn] at h1
        refine ⟨h1.1, ?_⟩
        rw [lg_check hdv (by rw [h1.2])]
        by_cases h : per < dur
        · rw [if_pos h, if_pos h]
        · rw [if_neg h, if_neg h]
          by_cases h2 : 0 < dur
          · rw [if_pos h2, if_pos h2]; rfl
          · rw [if_neg h2, if_neg h2]; rfl)
      have HL1 : Hid (∀ (aP aW : Option Addr) W, CfgAt W.heap.size (lgC n per dur [⟨0, n, 3⟩] aP aW 1) W → Calls Try.prog 16 #[.agg #[.int .u64 (n : Int), .slice aP 1 1, .slice aW 1 1, .slice none 0 0, .slice none 0 0, .slice none 0 0], .int .i64 0] W fun e w' => e = .returned (.int .u64 (per : Int)) ∧ Below W.heap.size W w') := hide (fun aP aW W hW => by
        have := HLF.out aP aW W hW
        rw [show leastR (lgC n per dur [⟨0, n, 3⟩] aP aW 1) ((lgC n per dur [⟨0, n, 3⟩] aP aW 1).parts.l[0]'(by show 0 < 1; decide)) = per from (HF.out aP aW).1] at this
        exact this)
      have HL2 : Hid (∀ (aP aW : Option Addr) W, CfgAt W.heap.size (lgC n per dur [] aP aW 0) W → Calls Try.prog 16 #[.agg #[.int .u64 (n : Int), .slice aP 1 1, .slice aW 0 0, .slice none 0 0, .slice none 0 0, .slice none 0 0], .int .i64 0] W fun e w' => e = .returned (.int .u64 0) ∧ Below W.heap.size W w') := hide (fun aP aW W hW => by
        have := HLE.out aP aW W hW
        rw [show leastR (lgC n per dur [] aP aW 0) ((lgC n per dur [] aP aW 0).parts.l[0]'(by show 0 < 1; decide)) = 0 from (HE.out aP aW).1] at this
        exact this)
      have nn : ((per : Int) == (per : Int)) = true := by simp
      have fe1 : ∀ W, _ := fun W => fault_eql 22 1 0 22 1 0 W
      have fe2 : ∀ W, _ := fun W => fault_eql 0 0 0 0 0 0 W
      have fe3 : ∀ W, _ := fun W => fault_eql 23 1 0 23 1 0 W
      have fe4 : ∀ W, _ := fun W => fault_eql 22 1 0 0 0 0 W
      have fg := fun o x y xs ys W => fault_guard o x y xs ys W
      rw [show ((22 : Int) == 22 && ((1 : Int) == 1 && (0 : Int) == 0)) = true from rfl] at fe1
      rw [show ((0 : Int) == 0 && ((0 : Int) == 0 && (0 : Int) == 0)) = true from rfl] at fe2
      rw [show ((23 : Int) == 23 && ((1 : Int) == 1 && (0 : Int) == 0)) = true from rfl] at fe3
      rw [show ((22 : Int) == 0 && ((1 : Int) == 0 && (0 : Int) == 0)) = false from rfl] at fe4
      by_cases c1 : per < dur
      · -- the period is too short
        have HC1 : Hid (∀ (aP aW : Option Addr) W, CfgAt W.heap.size (lgC n per dur [⟨0, n, 3⟩] aP aW 1) W → Calls Try.prog 12 #[.agg #[.int .u64 (n : Int), .slice aP 1 1, .slice aW 1 1, .slice none 0 0, .slice none 0 0, .slice none 0 0]] W fun e w' => e = .returned (.agg #[.int .i64 22, .int .i64 1, .int .i64 0]) ∧ Below W.heap.size W w') := hide (fun aP aW W hW => by
          have := HCF.out aP aW W hW
          rw [(HF.out aP aW).2, if_pos c1] at this
          exact this)
        have HC2 : Hid (∀ (aP aW : Option Addr) W, CfgAt W.heap.size (lgC n per dur [] aP aW 0) W → Calls Try.prog 12 #[.agg #[.int .u64 (n : Int), .slice aP 1 1, .slice aW 0 0, .slice none 0 0, .slice none 0 0, .slice none 0 0]] W fun e w' => e = .returned (.agg #[.int .i64 22, .int .i64 1, .int .i64 0]) ∧ Below W.heap.size W w') := hide (fun aP aW W hW => by
          have := HCE.out aP aW W hW
          rw [(HE.out aP aW).2, if_pos c1] at this
          exact this)
        have c1I : (per : Int) < (dur : Int) := by omega
        clear hM hlt h0 hn HLF HLE HCF HCE HF HE hdv c1
        go_enter Try.func5, Try.ntmps5
        go_wp2_with (first
          | (go_at_call 18; refine (HM.out _).mono ?_; rintro e w1 ⟨rfl, hb⟩; rw [optV]; have HB1 := hide hb; clear hb))
        have HX := hide (LgW.start HB1.out n per dur #[.int .i64 22, .int .i64 1, .int .i64 0] #[.int .i64 22, .int .i64 1, .int .i64 0])
        simp only [Nat.add_assoc, Nat.reduceAdd]
        have HSX : Hid (∀ W, LgW w w1.heap.size (lgC n per dur [⟨0, n, 3⟩] (some ⟨w1.heap.size + 1, 0, none⟩) (some ⟨w1.heap.size + 2, 0, none⟩) 1) (lgC n per dur [] (some ⟨w1.heap.size + 4, 0, none⟩) none 0) #[.int .i64 22, .int .i64 1, .int .i64 0] #[.int .i64 22, .int .i64 1, .int .i64 0] W → (W.cell? ⟨w1.heap.size + 3, 0, none⟩ = some (.int .u64 (n : Int)) ∧ W.cell? ⟨w1.heap.size + 3, 1, none⟩ = some (.slice (some ⟨w1.heap.size + 1, 0, none⟩) 1 1) ∧ W.cell? ⟨w1.heap.size + 3, 2, none⟩ = some (.slice (some ⟨w1.heap.size + 2, 0, none⟩) 1 1) ∧ W.cell? ⟨w1.heap.size + 3, 3, none⟩ = some (.slice none 0 0) ∧ W.cell? ⟨w1.heap.size + 3, 4, none⟩ = some (.slice none 0 0) ∧ W.cell? ⟨w1.heap.size + 3, 5, none⟩ = some (.slice none 0 0) ∧ W.cell? ⟨w1.heap.size + 5, 0, none⟩ = some (.int .u64 (n : Int)) ∧ W.cell? ⟨w1.heap.size + 5, 1, none⟩ = some (.slice (some ⟨w1.heap.size + 4, 0, none⟩) 1 1) ∧ W.cell? ⟨w1.heap.size + 5, 2, none⟩ = some (.slice none 0 0) ∧ W.cell? ⟨w1.heap.size + 5, 3, none⟩ = some (.slice none 0 0) ∧ W.cell? ⟨w1.heap.size + 5, 4, none⟩ = some (.slice none 0 0) ∧ W.cell? ⟨w1.heap.size + 5, 5, none⟩ = some (.slice none 0 0) ∧ W.cell? ⟨w1.heap.size + 6, 0, none⟩ = some (.int .i64 22) ∧ W.cell? ⟨w1.heap.size + 6, 1, none⟩ = some (.int .i64 1) ∧ W.cell? ⟨w1.heap.size + 6, 2, none⟩ = some (.int .i64 0) ∧ W.cell? ⟨w1.heap.size + 7, 0, none⟩ = some (.int .i64 22) ∧ W.cell? ⟨w1.heap.size + 7, 1, none⟩ = some (.int .i64 1) ∧ W.cell? ⟨w1.heap.size + 7, 2, none⟩ = some (.int .i64 0) ∧ LgW w w1.heap.size (lgC n per dur [⟨0, n, 3⟩] (some ⟨w1.heap.size + 1, 0, none⟩) (some ⟨w1.heap.size + 2, 0, none⟩) 1) (lgC n per dur [] (some ⟨w1.heap.size + 4, 0, none⟩) none 0) #[.int .i64 22, .int .i64 1, .int .i64 0] #[.int .i64 22, .int .i64 1, .int .i64 0] W)) := hide (fun W hW => ⟨hW.1.2.2.2.2.2.1.cell 0, hW.1.2.2.2.2.2.1.cell 1, hW.1.2.2.2.2.2.1.cell 2, hW.1.2.2.2.2.2.1.cell 3, hW.1.2.2.2.2.2.1.cell 4, hW.1.2.2.2.2.2.1.cell 5, hW.1.2.2.2.2.2.2.cell 0, hW.1.2.2.2.2.2.2.cell 1, hW.1.2.2.2.2.2.2.cell 2, hW.1.2.2.2.2.2.2.cell 3, hW.1.2.2.2.2.2.2.cell 4, hW.1.2.2.2.2.2.2.cell 5, hW.2.1.cell 0, hW.2.1.cell 1, hW.2.1.cell 2, hW.2.2.cell 0, hW.2.2.cell 1, hW.2.2.cell 2, hW⟩)
        have HCA : Hid (∀ W, LgW w w1.heap.size (lgC n per dur [⟨0, n, 3⟩] (some ⟨w1.heap.size + 1, 0, none⟩) (some ⟨w1.heap.size + 2, 0, none⟩) 1) (lgC n per dur [] (some ⟨w1.heap.size + 4, 0, none⟩) none 0) #[.int .i64 22, .int .i64 1, .int .i64 0] #[.int .i64 22, .int .i64 1, .int .i64 0] W → CfgAt W.heap.size (lgC n per dur [⟨0, n, 3⟩] (some ⟨w1.heap.size + 1, 0, none⟩) (some ⟨w1.heap.size + 2, 0, none⟩) 1) W ∧ CfgAt W.heap.size (lgC n per dur [] (some ⟨w1.heap.size + 4, 0, none⟩) none 0) W) := hide (fun W hW => ⟨CfgAt.more hW.1.2.2.2.1 hW.1.2.2.1, CfgAt.more hW.1.2.2.2.2.1 hW.1.2.2.1⟩)
        go_region_held3 (fun W => (W.cell? ⟨w1.heap.size + 3, 0, none⟩ = some (.int .u64 (n : Int)) ∧ W.cell? ⟨w1.heap.size + 3, 1, none⟩ = some (.slice (some ⟨w1.heap.size + 1, 0, none⟩) 1 1) ∧ W.cell? ⟨w1.heap.size + 3, 2, none⟩ = some (.slice (some ⟨w1.heap.size + 2, 0, none⟩) 1 1) ∧ W.cell? ⟨w1.heap.size + 3, 3, none⟩ = some (.slice none 0 0) ∧ W.cell? ⟨w1.heap.size + 3, 4, none⟩ = some (.slice none 0 0) ∧ W.cell? ⟨w1.heap.size + 3, 5, none⟩ = some (.slice none 0 0) ∧ W.cell? ⟨w1.heap.size + 5, 0, none⟩ = some (.int .u64 (n : Int)) ∧ W.cell? ⟨w1.heap.size + 5, 1, none⟩ = some (.slice (some ⟨w1.heap.size + 4, 0, none⟩) 1 1) ∧ W.cell? ⟨w1.heap.size + 5, 2, none⟩ = some (.slice none 0 0) ∧ W.cell? ⟨w1.heap.size + 5, 3, none⟩ = some (.slice none 0 0) ∧ W.cell? ⟨w1.heap.size + 5, 4, none⟩ = some (.slice none 0 0) ∧ W.cell? ⟨w1.heap.size + 5, 5, none⟩ = some (.slice none 0 0) ∧ W.cell? ⟨w1.heap.size + 6, 0, none⟩ = some (.int .i64 22) ∧ W.cell? ⟨w1.heap.size + 6, 1, none⟩ = some (.int .i64 1) ∧ W.cell? ⟨w1.heap.size + 6, 2, none⟩ = some (.int .i64 0) ∧ W.cell? ⟨w1.heap.size + 7, 0, none⟩ = some (.int .i64 22) ∧ W.cell? ⟨w1.heap.size + 7, 1, none⟩ = some (.int .i64 1) ∧ W.cell? ⟨w1.heap.size + 7, 2, none⟩ = some (.int .i64 0) ∧ LgW w w1.heap.size (lgC n per dur [⟨0, n, 3⟩] (some ⟨w1.heap.size + 1, 0, none⟩) (some ⟨w1.heap.size + 2, 0, none⟩) 1) (lgC n per dur [] (some ⟨w1.heap.size + 4, 0, none⟩) none 0) #[.int .i64 22, .int .i64 1, .int .i64 0] #[.int .i64 22, .int .i64 1, .int .i64 0] W))
          (first | assumption | exact HSX.out _ (LgW.drewB HX.out) | exact HSX.out _ (LgW.below (And.right (And.right (And.right (And.right (And.right (And.right (And.right (And.right (And.right (And.right (And.right (And.right (And.right (And.right (And.right (And.right (And.right (And.right (by assumption))))))))))))))))))) (by assumption)))
          (first
            | (go_at_call 10; refine (HAL.out _).mono ?_; rintro e wa ⟨rfl, hb⟩)
            | (go_at_call 16; (with_reducible refine (HL1.out (some ⟨w1.heap.size + 1, 0, none⟩) (some ⟨w1.heap.size + 2, 0, none⟩) _ (HCA.out _ (And.right (And.right (And.right (And.right (And.right (And.right (And.right (And.right (And.right (And.right (And.right (And.right (And.right (And.right (And.right (And.right (And.right (And.right (by assumption)))))))))))))))))))).1).mono ?_); rintro e wb ⟨rfl, hb⟩)
            | (go_at_call 16; (with_reducible refine (HL2.out (some ⟨w1.heap.size + 4, 0, none⟩) none _ (HCA.out _ (And.right (And.right (And.right (And.right (And.right (And.right (And.right (And.right (And.right (And.right (And.right (And.right (And.right (And.right (And.right (And.right (And.right (And.right (by assumption)))))))))))))))))))).2).mono ?_); rintro e wc ⟨rfl, hb⟩)
            | (go_at_call 12; (with_reducible refine (HC1.out (some ⟨w1.heap.size + 1, 0, none⟩) (some ⟨w1.heap.size + 2, 0, none⟩) _ (HCA.out _ (And.right (And.right (And.right (And.right (And.right (And.right (And.right (And.right (And.right (And.right (And.right (And.right (And.right (And.right (And.right (And.right (And.right (And.right (by assumption)))))))))))))))))))).1).mono ?_); rintro e wd ⟨rfl, hb⟩)
            | (go_at_call 12; (with_reducible refine (HC2.out (some ⟨w1.heap.size + 4, 0, none⟩) none _ (HCA.out _ (And.right (And.right (And.right (And.right (And.right (And.right (And.right (And.right (And.right (And.right (And.right (And.right (And.right (And.right (And.right (And.right (And.right (And.right (by assumption)))))))))))))))))))).2).mono ?_); rintro e we ⟨rfl, hb⟩))
        have HZ : Hid (LgW w w1.heap.size (lgC n per dur [⟨0, n, 3⟩] (some ⟨w1.heap.size + 1, 0, none⟩) (some ⟨w1.heap.size + 2, 0, none⟩) 1) (lgC n per dur [] (some ⟨w1.heap.size + 4, 0, none⟩) none 0) #[.int .i64 22, .int .i64 1, .int .i64 0] #[.int .i64 22, .int .i64 1, .int .i64 0] we) := hide (And.right (And.right (And.right (And.right (And.right (And.right (And.right (And.right (And.right (And.right (And.right (And.right (And.right (And.right (And.right (And.right (And.right (And.right (by assumption)))))))))))))))))))
        go_wp2
        go_ret
        exact ⟨rfl, HZ.out.1.1⟩
      · by_cases c2 : 0 < dur
        · -- there is a demand
          have HC1 : Hid (∀ (aP aW : Option Addr) W, CfgAt W.heap.size (lgC n per dur [⟨0, n, 3⟩] aP aW 1) W → Calls Try.prog 12 #[.agg #[.int .u64 (n : Int), .slice aP 1 1, .slice aW 1 1, .slice none 0 0, .slice none 0 0, .slice none 0 0]] W fun e w' => e = .returned (.agg #[.int .i64 0, .int .i64 0, .int .i64 0]) ∧ Below W.heap.size W w') := hide (fun aP aW W hW => by
            have := HCF.out aP aW W hW
            rw [(HF.out aP aW).2, if_neg c1] at this
            exact this)
          have HC2 : Hid (∀ (aP aW : Option Addr) W, CfgAt W.heap.size (lgC n per dur [] aP aW 0) W → Calls Try.prog 12 #[.agg #[.int .u64 (n : Int), .slice aP 1 1, .slice aW 0 0, .slice none 0 0, .slice none 0 0, .slice none 0 0]] W fun e w' => e = .returned (.agg #[.int .i64 23, .int .i64 1, .int .i64 0]) ∧ Below W.heap.size W w') := hide (fun aP aW W hW => by
            have := HCE.out aP aW W hW
            rw [(HE.out aP aW).2, if_neg c1, if_pos c2] at this
            exact this)
          have c1I : ¬ (per : Int) < (dur : Int) := by omega
          have c2I : (0 : Int) < (dur : Int) := by omega
          clear hM hlt h0 hn HLF HLE HCF HCE HF HE hdv c1 c2
          go_enter Try.func5, Try.ntmps5
          go_wp2_with (first
            | (go_at_call 18; refine (HM.out _).mono ?_; rintro e w1 ⟨rfl, hb⟩; rw [optV]; have HB1 := hide hb; clear hb))
          have HX := hide (LgW.start HB1.out n per dur #[.int .i64 0, .int .i64 0, .int .i64 0] #[.int .i64 23, .int .i64 1, .int .i64 0])
          simp only [Nat.add_assoc, Nat.reduceAdd]
          have HSX : Hid (∀ W, LgW w w1.heap.size (lgC n per dur [⟨0, n, 3⟩] (some ⟨w1.heap.size + 1, 0, none⟩) (some ⟨w1.heap.size + 2, 0, none⟩) 1) (lgC n per dur [] (some ⟨w1.heap.size + 4, 0, none⟩) none 0) #[.int .i64 0, .int .i64 0, .int .i64 0] #[.int .i64 23, .int .i64 1, .int .i64 0] W → (W.cell? ⟨w1.heap.size + 3, 0, none⟩ = some (.int .u64 (n : Int)) ∧ W.cell? ⟨w1.heap.size + 3, 1, none⟩ = some (.slice (some ⟨w1.heap.size + 1, 0, none⟩) 1 1) ∧ W.cell? ⟨w1.heap.size + 3, 2, none⟩ = some (.slice (some ⟨w1.heap.size + 2, 0, none⟩) 1 1) ∧ W.cell? ⟨w1.heap.size + 3, 3, none⟩ = some (.slice none 0 0) ∧ W.cell? ⟨w1.heap.size + 3, 4, none⟩ = some (.slice none 0 0) ∧ W.cell? ⟨w1.heap.size + 3, 5, none⟩ = some (.slice none 0 0) ∧ W.cell? ⟨w1.heap.size + 5, 0, none⟩ = some (.int .u64 (n : Int)) ∧ W.cell? ⟨w1.heap.size + 5, 1, none⟩ = some (.slice (some ⟨w1.heap.size + 4, 0, none⟩) 1 1) ∧ W.cell? ⟨w1.heap.size + 5, 2, none⟩ = some (.slice none 0 0) ∧ W.cell? ⟨w1.heap.size + 5, 3, none⟩ = some (.slice none 0 0) ∧ W.cell? ⟨w1.heap.size + 5, 4, none⟩ = some (.slice none 0 0) ∧ W.cell? ⟨w1.heap.size + 5, 5, none⟩ = some (.slice none 0 0) ∧ W.cell? ⟨w1.heap.size + 6, 0, none⟩ = some (.int .i64 0) ∧ W.cell? ⟨w1.heap.size + 6, 1, none⟩ = some (.int .i64 0) ∧ W.cell? ⟨w1.heap.size + 6, 2, none⟩ = some (.int .i64 0) ∧ W.cell? ⟨w1.heap.size + 7, 0, none⟩ = some (.int .i64 23) ∧ W.cell? ⟨w1.heap.size + 7, 1, none⟩ = some (.int .i64 1) ∧ W.cell? ⟨w1.heap.size + 7, 2, none⟩ = some (.int .i64 0) ∧ LgW w w1.heap.size (lgC n per dur [⟨0, n, 3⟩] (some ⟨w1.heap.size + 1, 0, none⟩) (some ⟨w1.heap.size + 2, 0, none⟩) 1) (lgC n per dur [] (some ⟨w1.heap.size + 4, 0, none⟩) none 0) #[.int .i64 0, .int .i64 0, .int .i64 0] #[.int .i64 23, .int .i64 1, .int .i64 0] W)) := hide (fun W hW => ⟨hW.1.2.2.2.2.2.1.cell 0, hW.1.2.2.2.2.2.1.cell 1, hW.1.2.2.2.2.2.1.cell 2, hW.1.2.2.2.2.2.1.cell 3, hW.1.2.2.2.2.2.1.cell 4, hW.1.2.2.2.2.2.1.cell 5, hW.1.2.2.2.2.2.2.cell 0, hW.1.2.2.2.2.2.2.cell 1, hW.1.2.2.2.2.2.2.cell 2, hW.1.2.2.2.2.2.2.cell 3, hW.1.2.2.2.2.2.2.cell 4, hW.1.2.2.2.2.2.2.cell 5, hW.2.1.cell 0, hW.2.1.cell 1, hW.2.1.cell 2, hW.2.2.cell 0, hW.2.2.cell 1, hW.2.2.cell 2, hW⟩)
          have HCA : Hid (∀ W, LgW w w1.heap.size (lgC n per dur [⟨0, n, 3⟩] (some ⟨w1.heap.size + 1, 0, none⟩) (some ⟨w1.heap.size + 2, 0, none⟩) 1) (lgC n per dur [] (some ⟨w1.heap.size + 4, 0, none⟩) none 0) #[.int .i64 0, .int .i64 0, .int .i64 0] #[.int .i64 23, .int .i64 1, .int .i64 0] W → CfgAt W.heap.size (lgC n per dur [⟨0, n, 3⟩] (some ⟨w1.heap.size + 1, 0, none⟩) (some ⟨w1.heap.size + 2, 0, none⟩) 1) W ∧ CfgAt W.heap.size (lgC n per dur [] (some ⟨w1.heap.size + 4, 0, none⟩) none 0) W) := hide (fun W hW => ⟨CfgAt.more hW.1.2.2.2.1 hW.1.2.2.1, CfgAt.more hW.1.2.2.2.2.1 hW.1.2.2.1⟩)
          go_region_held3 (fun W => (W.cell? ⟨w1.heap.size + 3, 0, none⟩ = some (.int .u64 (n : Int)) ∧ W.cell? ⟨w1.heap.size + 3, 1, none⟩ = some (.slice (some ⟨w1.heap.size + 1, 0, none⟩) 1 1) ∧ W.cell? ⟨w1.heap.size + 3, 2, none⟩ = some (.slice (some ⟨w1.heap.size + 2, 0, none⟩) 1 1) ∧ W.cell? ⟨w1.heap.size + 3, 3, none⟩ = some (.slice none 0 0) ∧ W.cell? ⟨w1.heap.size + 3, 4, none⟩ = some (.slice none 0 0) ∧ W.cell? ⟨w1.heap.size + 3, 5, none⟩ = some (.slice none 0 0) ∧ W.cell? ⟨w1.heap.size + 5, 0, none⟩ = some (.int .u64 (n : Int)) ∧ W.cell? ⟨w1.heap.size + 5, 1, none⟩ = some (.slice (some ⟨w1.heap.size + 4, 0, none⟩) 1 1) ∧ W.cell? ⟨w1.heap.size + 5, 2, none⟩ = some (.slice none 0 0) ∧ W.cell? ⟨w1.heap.size + 5, 3, none⟩ = some (.slice none 0 0) ∧ W.cell? ⟨w1.heap.size + 5, 4, none⟩ = some (.slice none 0 0) ∧ W.cell? ⟨w1.heap.size + 5, 5, none⟩ = some (.slice none 0 0) ∧ W.cell? ⟨w1.heap.size + 6, 0, none⟩ = some (.int .i64 0) ∧ W.cell? ⟨w1.heap.size + 6, 1, none⟩ = some (.int .i64 0) ∧ W.cell? ⟨w1.heap.size + 6, 2, none⟩ = some (.int .i64 0) ∧ W.cell? ⟨w1.heap.size + 7, 0, none⟩ = some (.int .i64 23) ∧ W.cell? ⟨w1.heap.size + 7, 1, none⟩ = some (.int .i64 1) ∧ W.cell? ⟨w1.heap.size + 7, 2, none⟩ = some (.int .i64 0) ∧ LgW w w1.heap.size (lgC n per dur [⟨0, n, 3⟩] (some ⟨w1.heap.size + 1, 0, none⟩) (some ⟨w1.heap.size + 2, 0, none⟩) 1) (lgC n per dur [] (some ⟨w1.heap.size + 4, 0, none⟩) none 0) #[.int .i64 0, .int .i64 0, .int .i64 0] #[.int .i64 23, .int .i64 1, .int .i64 0] W))
            (first | assumption | exact HSX.out _ (LgW.drewB HX.out) | exact HSX.out _ (LgW.below (And.right (And.right (And.right (And.right (And.right (And.right (And.right (And.right (And.right (And.right (And.right (And.right (And.right (And.right (And.right (And.right (And.right (And.right (by assumption))))))))))))))))))) (by assumption)))
            (first
              | (go_at_call 10; refine (HAL.out _).mono ?_; rintro e wa ⟨rfl, hb⟩)
              | (go_at_call 16; (with_reducible refine (HL1.out (some ⟨w1.heap.size + 1, 0, none⟩) (some ⟨w1.heap.size + 2, 0, none⟩) _ (HCA.out _ (And.right (And.right (And.right (And.right (And.right (And.right (And.right (And.right (And.right (And.right (And.right (And.right (And.right (And.right (And.right (And.right (And.right (And.right (by assumption)))))))))))))))))))).1).mono ?_); rintro e wb ⟨rfl, hb⟩)
              | (go_at_call 16; (with_reducible refine (HL2.out (some ⟨w1.heap.size + 4, 0, none⟩) none _ (HCA.out _ (And.right (And.right (And.right (And.right (And.right (And.right (And.right (And.right (And.right (And.right (And.right (And.right (And.right (And.right (And.right (And.right (And.right (And.right (by assumption)))))))))))))))))))).2).mono ?_); rintro e wc ⟨rfl, hb⟩)
              | (go_at_call 12; (with_reducible refine (HC1.out (some ⟨w1.heap.size + 1, 0, none⟩) (some ⟨w1.heap.size + 2, 0, none⟩) _ (HCA.out _ (And.right (And.right (And.right (And.right (And.right (And.right (And.right (And.right (And.right (And.right (And.right (And.right (And.right (And.right (And.right (And.right (And.right (And.right (by assumption)))))))))))))))))))).1).mono ?_); rintro e wd ⟨rfl, hb⟩)
              | (go_at_call 12; (with_reducible refine (HC2.out (some ⟨w1.heap.size + 4, 0, none⟩) none _ (HCA.out _ (And.right (And.right (And.right (And.right (And.right (And.right (And.right (And.right (And.right (And.right (And.right (And.right (And.right (And.right (And.right (And.right (And.right (And.right (by assumption)))))))))))))))))))).2).mono ?_); rintro e we ⟨rfl, hb⟩))
          have HZ : Hid (LgW w w1.heap.size (lgC n per dur [⟨0, n, 3⟩] (some ⟨w1.heap.size + 1, 0, none⟩) (some ⟨w1.heap.size + 2, 0, none⟩) 1) (lgC n per dur [] (some ⟨w1.heap.size + 4, 0, none⟩) none 0) #[.int .i64 0, .int .i64 0, .int .i64 0] #[.int .i64 23, .int .i64 1, .int .i64 0] we) := hide (And.right (And.right (And.right (And.right (And.right (And.right (And.right (And.right (And.right (And.right (And.right (And.right (And.right (And.right (And.right (And.right (And.right (And.right (by assumption)))))))))))))))))))
          go_wp2
          go_ret
          exact ⟨rfl, HZ.out.1.1⟩
        · -- there is none
          have HC1 : Hid (∀ (aP aW : Option Addr) W, CfgAt W.heap.size (lgC n per dur [⟨0, n, 3⟩] aP aW 1) W → Calls Try.prog 12 #[.agg #[.int .u64 (n : Int), .slice aP 1 1, .slice aW 1 1, .slice none 0 0, .slice none 0 0, .slice none 0 0]] W fun e w' => e = .returned (.agg #[.int .i64 0, .int .i64 0, .int .i64 0]) ∧ Below W.heap.size W w') := hide (fun aP aW W hW => by
            have := HCF.out aP aW W hW
            rw [(HF.out aP aW).2, if_neg c1] at this
            exact this)
          have HC2 : Hid (∀ (aP aW : Option Addr) W, CfgAt W.heap.size (lgC n per dur [] aP aW 0) W → Calls Try.prog 12 #[.agg #[.int .u64 (n : Int), .slice aP 1 1, .slice aW 0 0, .slice none 0 0, .slice none 0 0, .slice none 0 0]] W fun e w' => e = .returned (.agg #[.int .i64 0, .int .i64 0, .int .i64 0]) ∧ Below W.heap.size W w') := hide (fun aP aW W hW => by
            have := HCE.out aP aW W hW
            rw [(HE.out aP aW).2, if_neg c1, if_neg c2] at this
            exact this)
          have c1I : ¬ (per : Int) < (dur : Int) := by omega
          have c2I : ¬ (0 : Int) < (dur : Int) := by omega
          clear hM hlt h0 hn HLF HLE HCF HCE HF HE hdv c1 c2
          go_enter Try.func5, Try.ntmps5
          go_wp2_with (first
            | (go_at_call 18; refine (HM.out _).mono ?_; rintro e w1 ⟨rfl, hb⟩; rw [optV]; have HB1 := hide hb; clear hb))
          have HX := hide (LgW.start HB1.out n per dur #[.int .i64 0, .int .i64 0, .int .i64 0] #[.int .i64 0, .int .i64 0, .int .i64 0])
          simp only [Nat.add_assoc, Nat.reduceAdd]
          have HSX : Hid (∀ W, LgW w w1.heap.size (lgC n per dur [⟨0, n, 3⟩] (some ⟨w1.heap.size + 1, 0, none⟩) (some ⟨w1.heap.size + 2, 0, none⟩) 1) (lgC n per dur [] (some ⟨w1.heap.size + 4, 0, none⟩) none 0) #[.int .i64 0, .int .i64 0, .int .i64 0] #[.int .i64 0, .int .i64 0, .int .i64 0] W → (W.cell? ⟨w1.heap.size + 3, 0, none⟩ = some (.int .u64 (n : Int)) ∧ W.cell? ⟨w1.heap.size + 3, 1, none⟩ = some (.slice (some ⟨w1.heap.size + 1, 0, none⟩) 1 1) ∧ W.cell? ⟨w1.heap.size + 3, 2, none⟩ = some (.slice (some ⟨w1.heap.size + 2, 0, none⟩) 1 1) ∧ W.cell? ⟨w1.heap.size + 3, 3, none⟩ = some (.slice none 0 0) ∧ W.cell? ⟨w1.heap.size + 3, 4, none⟩ = some (.slice none 0 0) ∧ W.cell? ⟨w1.heap.size + 3, 5, none⟩ = some (.slice none 0 0) ∧ W.cell? ⟨w1.heap.size + 5, 0, none⟩ = some (.int .u64 (n : Int)) ∧ W.cell? ⟨w1.heap.size + 5, 1, none⟩ = some (.slice (some ⟨w1.heap.size + 4, 0, none⟩) 1 1) ∧ W.cell? ⟨w1.heap.size + 5, 2, none⟩ = some (.slice none 0 0) ∧ W.cell? ⟨w1.heap.size + 5, 3, none⟩ = some (.slice none 0 0) ∧ W.cell? ⟨w1.heap.size + 5, 4, none⟩ = some (.slice none 0 0) ∧ W.cell? ⟨w1.heap.size + 5, 5, none⟩ = some (.slice none 0 0) ∧ W.cell? ⟨w1.heap.size + 6, 0, none⟩ = some (.int .i64 0) ∧ W.cell? ⟨w1.heap.size + 6, 1, none⟩ = some (.int .i64 0) ∧ W.cell? ⟨w1.heap.size + 6, 2, none⟩ = some (.int .i64 0) ∧ W.cell? ⟨w1.heap.size + 7, 0, none⟩ = some (.int .i64 0) ∧ W.cell? ⟨w1.heap.size + 7, 1, none⟩ = some (.int .i64 0) ∧ W.cell? ⟨w1.heap.size + 7, 2, none⟩ = some (.int .i64 0) ∧ LgW w w1.heap.size (lgC n per dur [⟨0, n, 3⟩] (some ⟨w1.heap.size + 1, 0, none⟩) (some ⟨w1.heap.size + 2, 0, none⟩) 1) (lgC n per dur [] (some ⟨w1.heap.size + 4, 0, none⟩) none 0) #[.int .i64 0, .int .i64 0, .int .i64 0] #[.int .i64 0, .int .i64 0, .int .i64 0] W)) := hide (fun W hW => ⟨hW.1.2.2.2.2.2.1.cell 0, hW.1.2.2.2.2.2.1.cell 1, hW.1.2.2.2.2.2.1.cell 2, hW.1.2.2.2.2.2.1.cell 3, hW.1.2.2.2.2.2.1.cell 4, hW.1.2.2.2.2.2.1.cell 5, hW.1.2.2.2.2.2.2.cell 0, hW.1.2.2.2.2.2.2.cell 1, hW.1.2.2.2.2.2.2.cell 2, hW.1.2.2.2.2.2.2.cell 3, hW.1.2.2.2.2.2.2.cell 4, hW.1.2.2.2.2.2.2.cell 5, hW.2.1.cell 0, hW.2.1.cell 1, hW.2.1.cell 2, hW.2.2.cell 0, hW.2.2.cell 1, hW.2.2.cell 2, hW⟩)
          have HCA : Hid (∀ W, LgW w w1.heap.size (lgC n per dur [⟨0, n, 3⟩] (some ⟨w1.heap.size + 1, 0, none⟩) (some ⟨w1.heap.size + 2, 0, none⟩) 1) (lgC n per dur [] (some ⟨w1.heap.size + 4, 0, none⟩) none 0) #[.int .i64 0, .int .i64 0, .int .i64 0] #[.int .i64 0, .int .i64 0, .int .i64 0] W → CfgAt W.heap.size (lgC n per dur [⟨0, n, 3⟩] (some ⟨w1.heap.size + 1, 0, none⟩) (some ⟨w1.heap.size + 2, 0, none⟩) 1) W ∧ CfgAt W.heap.size (lgC n per dur [] (some ⟨w1.heap.size + 4, 0, none⟩) none 0) W) := hide (fun W hW => ⟨CfgAt.more hW.1.2.2.2.1 hW.1.2.2.1, CfgAt.more hW.1.2.2.2.2.1 hW.1.2.2.1⟩)
          go_region_held3 (fun W => (W.cell? ⟨w1.heap.size + 3, 0, none⟩ = some (.int .u64 (n : Int)) ∧ W.cell? ⟨w1.heap.size + 3, 1, none⟩ = some (.slice (some ⟨w1.heap.size + 1, 0, none⟩) 1 1) ∧ W.cell? ⟨w1.heap.size + 3, 2, none⟩ = some (.slice (some ⟨w1.heap.size + 2, 0, none⟩) 1 1) ∧ W.cell? ⟨w1.heap.size + 3, 3, none⟩ = some (.slice none 0 0) ∧ W.cell? ⟨w1.heap.size + 3, 4, none⟩ = some (.slice none 0 0) ∧ W.cell? ⟨w1.heap.size + 3, 5, none⟩ = some (.slice none 0 0) ∧ W.cell? ⟨w1.heap.size + 5, 0, none⟩ = some (.int .u64 (n : Int)) ∧ W.cell? ⟨w1.heap.size + 5, 1, none⟩ = some (.slice (some ⟨w1.heap.size + 4, 0, none⟩) 1 1) ∧ W.cell? ⟨w1.heap.size + 5, 2, none⟩ = some (.slice none 0 0) ∧ W.cell? ⟨w1.heap.size + 5, 3, none⟩ = some (.slice none 0 0) ∧ W.cell? ⟨w1.heap.size + 5, 4, none⟩ = some (.slice none 0 0) ∧ W.cell? ⟨w1.heap.size + 5, 5, none⟩ = some (.slice none 0 0) ∧ W.cell? ⟨w1.heap.size + 6, 0, none⟩ = some (.int .i64 0) ∧ W.cell? ⟨w1.heap.size + 6, 1, none⟩ = some (.int .i64 0) ∧ W.cell? ⟨w1.heap.size + 6, 2, none⟩ = some (.int .i64 0) ∧ W.cell? ⟨w1.heap.size + 7, 0, none⟩ = some (.int .i64 0) ∧ W.cell? ⟨w1.heap.size + 7, 1, none⟩ = some (.int .i64 0) ∧ W.cell? ⟨w1.heap.size + 7, 2, none⟩ = some (.int .i64 0) ∧ LgW w w1.heap.size (lgC n per dur [⟨0, n, 3⟩] (some ⟨w1.heap.size + 1, 0, none⟩) (some ⟨w1.heap.size + 2, 0, none⟩) 1) (lgC n per dur [] (some ⟨w1.heap.size + 4, 0, none⟩) none 0) #[.int .i64 0, .int .i64 0, .int .i64 0] #[.int .i64 0, .int .i64 0, .int .i64 0] W))
            (first | assumption | exact HSX.out _ (LgW.drewB HX.out) | exact HSX.out _ (LgW.below (And.right (And.right (And.right (And.right (And.right (And.right (And.right (And.right (And.right (And.right (And.right (And.right (And.right (And.right (And.right (And.right (And.right (And.right (by assumption))))))))))))))))))) (by assumption)))
            (first
              | (go_at_call 10; refine (HAL.out _).mono ?_; rintro e wa ⟨rfl, hb⟩)
              | (go_at_call 16; (with_reducible refine (HL1.out (some ⟨w1.heap.size + 1, 0, none⟩) (some ⟨w1.heap.size + 2, 0, none⟩) _ (HCA.out _ (And.right (And.right (And.right (And.right (And.right (And.right (And.right (And.right (And.right (And.right (And.right (And.right (And.right (And.right (And.right (And.right (And.right (And.right (by assumption)))))))))))))))))))).1).mono ?_); rintro e wb ⟨rfl, hb⟩)
              | (go_at_call 16; (with_reducible refine (HL2.out (some ⟨w1.heap.size + 4, 0, none⟩) none _ (HCA.out _ (And.right (And.right (And.right (And.right (And.right (And.right (And.right (And.right (And.right (And.right (And.right (And.right (And.right (And.right (And.right (And.right (And.right (And.right (by assumption)))))))))))))))))))).2).mono ?_); rintro e wc ⟨rfl, hb⟩)
              | (go_at_call 12; (with_reducible refine (HC1.out (some ⟨w1.heap.size + 1, 0, none⟩) (some ⟨w1.heap.size + 2, 0, none⟩) _ (HCA.out _ (And.right (And.right (And.right (And.right (And.right (And.right (And.right (And.right (And.right (And.right (And.right (And.right (And.right (And.right (And.right (And.right (And.right (And.right (by assumption)))))))))))))))))))).1).mono ?_); rintro e wd ⟨rfl, hb⟩)
              | (go_at_call 12; (with_reducible refine (HC2.out (some ⟨w1.heap.size + 4, 0, none⟩) none _ (HCA.out _ (And.right (And.right (And.right (And.right (And.right (And.right (And.right (And.right (And.right (And.right (And.right (And.right (And.right (And.right (And.right (And.right (And.right (And.right (by assumption)))))))))))))))))))).2).mono ?_); rintro e we ⟨rfl, hb⟩))
          have HZ : Hid (LgW w w1.heap.size (lgC n per dur [⟨0, n, 3⟩] (some ⟨w1.heap.size + 1, 0, none⟩) (some ⟨w1.heap.size + 2, 0, none⟩) 1) (lgC n per dur [] (some ⟨w1.heap.size + 4, 0, none⟩) none 0) #[.int .i64 0, .int .i64 0, .int .i64 0] #[.int .i64 0, .int .i64 0, .int .i64 0] we) := hide (And.right (And.right (And.right (And.right (And.right (And.right (And.right (And.right (And.right (And.right (And.right (And.right (And.right (And.right (And.right (And.right (And.right (And.right (by assumption)))))))))))))))))))
          go_wp2
          go_ret
          exact ⟨rfl, HZ.out.1.1⟩
  · have hml : mulL [per, k] = none := by
      have h0 : 0 < per := by
        rcases Nat.eq_zero_or_pos per with h0 | h0
        · subst h0; simp at hlt
        · exact h0
      have h1 : 0 < k := by
        rcases Nat.eq_zero_or_pos k with h1 | h1
        · subst h1; simp at hlt
        · exact h1
      have e0 : 0 ∉ [per, k] := by simp; omega
      unfold mulL
      rw [if_neg e0]
      have e1 : timesO 1 per = some per := by unfold timesO fitO; rw [Nat.one_mul, if_pos (by unfold top64; omega)]
      have e2 : timesO per k = none := by unfold timesO fitO; rw [if_neg (by unfold top64; omega)]
      simp only [foldO, e1, e2]
    rw [hml] at hM
    have HM := hide hM
    clear hM hml hlt
    go_enter Try.func5, Try.ntmps5
    go_wp2_with (first
      | (go_at_call 18; refine (HM.out _).mono ?_; rintro e w1 ⟨rfl, hb⟩; rw [optV]; have HB1 := hide hb; clear hb)
      | (go_at_call 10; refine (HAL.out _).mono ?_; rintro e w2 ⟨rfl, hb⟩; have HB2 := hide (HB1.out.trans (hb.mono HB1.out.size)); clear hb))
    go_ret
    exact ⟨rfl, HB2.out⟩
end Go.Proofs.Ytkhcdnehfiopgaa
