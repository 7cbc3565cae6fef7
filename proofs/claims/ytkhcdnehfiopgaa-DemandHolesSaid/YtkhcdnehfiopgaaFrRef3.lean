/- The walks of the reference's span, Check, Right and of the law's right (chapter 15). -/
import Derived.Test.YtkhcdnehfiopgaaFrRef2
namespace Go.Proofs.Ytkhcdnehfiopgaa
open Go.RowKit Go.Sort
set_option linter.unusedVariables false

def wsp (x : WinR) : Nat × Nat := (x.st, x.len)
set_option maxHeartbeats 1000000 in
theorem span_calls (x : WinR) (w : World) : Calls Try.prog 59 #[.agg #[.int .u64 (x.st : Int), .int .u64 (x.len : Int), .int .u16 (x.part : Int)]] w
    fun e w' => e = .returned (.agg #[.int .u64 (x.st : Int), .int .u64 (x.len : Int)]) ∧ ∃ q os', w' = grow (w.drewN q) os' := by
  obtain ⟨a, b, c⟩ := x
  simp only
  go_enter Try.func59, Try.ntmps59
  go_wp2
  refine bodyPost_ret (v := .agg #[.int .u64 (a : Int), .int .u64 (b : Int)]) (by simp [results, Try.results59, go_sem]) rfl ⟨rfl, ?_⟩
  exact ((Gr.refl w).alloc _).alloc _
/-- The code of a window alone. -/
def winCode (c : Cfg) (x : WinR) : Nat := if idxId (ids c.parts.l) x.part < 0 then 19 else if x.len = 0 ∨ c.frame < x.len ∨ c.frame - x.len < x.st then 20 else 0
def badAt (f : WinR → Nat) : List WinR → Nat → Option (Nat × Nat)
  | [], _ => none
  | x :: l, i => if f x = 0 then badAt f l (i + 1) else some (f x, i)
def overAt (l : List WinR) (j : Nat) : Bool := (l.take j).any fun x => match l[j]? with | some y => meetB (wsp x) (wsp y) | none => false
def firstOver (l : List WinR) : Option Nat := (List.range l.length).find? (overAt l)
def checkR (c : Cfg) : Nat × Nat × Nat :=
  if c.frame = 0 then (17, 0, 0) else match badAt (winCode c) c.wins.l 0 with
  | some (e, i) => (e, 2, i)
  | none => match firstOver c.wins.l with
    | some j => (21, 2, j)
    | none => (0, 0, 0)
theorem badAt_none {f : WinR → Nat} : ∀ {l : List WinR} {i : Nat}, (∀ x ∈ l, f x = 0) → badAt f l i = none
  | [], _, _ => rfl
  | x :: l, i, h => by rw [badAt, if_pos (h x (by simp)), badAt_none (fun y hy => h y (by simp [hy]))]
theorem badAt_some {f : WinR → Nat} : ∀ {l : List WinR} {i k : Nat} (hk : k < l.length), (∀ x ∈ l.take k, f x = 0) → f l[k] ≠ 0 → badAt f l i = some (f l[k], i + k)
  | x :: l, i, 0, hk, h, he => by rw [badAt, if_neg (by simpa using he)]; rfl
  | x :: l, i, k + 1, hk, h, he => by
    rw [badAt, if_pos (h x (by simp)), badAt_some (k := k) (by simpa using hk) (fun y hy => h y (by simp [hy])) (by simpa using he)]
    simp; omega
theorem badAt_all {f : WinR → Nat} : ∀ {l : List WinR} {i : Nat}, badAt f l i = none → ∀ x ∈ l, f x = 0
  | [], _, _, x, hx => by cases hx
  | y :: l, i, h, x, hx => by
    rw [badAt] at h
    split at h
    · rcases List.mem_cons.1 hx with rfl | hx
      · assumption
      · exact badAt_all h x hx
    · cases h
theorem firstOver_none {l : List WinR} (h : ∀ j, j < l.length → overAt l j = false) : firstOver l = none := by
  unfold firstOver
  rw [List.find?_eq_none]
  intro j hj
  rw [List.mem_range] at hj
  rw [h j hj]; simp
theorem firstOver_some {l : List WinR} {j : Nat} (hj : j < l.length) (h : ∀ i, i < j → overAt l i = false) (he : overAt l j = true) : firstOver l = some j := by
  unfold firstOver
  rw [List.find?_eq_some_iff_append]
  refine ⟨he, List.range j, (List.range' (j + 1) (l.length - j - 1)), ?_, ?_⟩
  · have e := List.range'_append_1 (s := 0) (m := j) (n := l.length - j - 1 + 1)
    rw [Nat.zero_add] at e
    rw [List.range_eq_range', List.range_eq_range', ← List.range'_succ, e]
    congr 1; omega
  · intro i hi
    rw [List.mem_range] at hi
    rw [h i hi]; rfl
theorem overAt_no {l : List WinR} {j : Nat} (hj : j < l.length) (h : ∀ i, (hi : i < j) → meetB (wsp (l[i]'(by omega))) (wsp l[j]) = false) : overAt l j = false := by
  unfold overAt
  rw [List.getElem?_eq_getElem hj, List.any_eq_false]
  intro x hx
  obtain ⟨i, hi, rfl⟩ := List.getElem_of_mem hx
  rw [List.length_take] at hi
  rw [List.getElem_take]
  simp only
  rw [h i (by omega)]; simp
theorem overAt_yes {l : List WinR} {i j : Nat} (hj : j < l.length) (hi : i < j) (h : meetB (wsp (l[i]'(by omega))) (wsp l[j]) = true) : overAt l j = true := by
  unfold overAt
  rw [List.getElem?_eq_getElem hj, List.any_eq_true]
  exact ⟨l[i]'(by omega), by rw [List.mem_take_iff_getElem]; exact ⟨i, by omega, rfl⟩, h⟩
/-- The configuration's box and what lies below it. -/
def cfgC (c : Cfg) : Array Value := #[.int .u64 (c.frame : Int), .slice c.parts.a c.parts.l.length c.parts.c, .slice c.wins.a c.wins.l.length c.wins.c, .slice c.regs.a c.regs.l.length c.regs.c, .slice c.ports.a c.ports.l.length c.ports.c, .slice c.chans.a c.chans.l.length c.chans.c]
def winC (x : WinR) : Array Value := #[.int .u64 (x.st : Int), .int .u64 (x.len : Int), .int .u16 (x.part : Int)]
def Boxed1 (w : World) (c : Cfg) (W : World) : Prop := Below w.heap.size w W ∧ Blk W w.heap.size 29 (cfgC c)
def Boxed2 (w : World) (c : Cfg) (g : Nat) (x : WinR) (W : World) : Prop := Boxed1 w c W ∧ Blk W g 49 (winC x)
section
variable {w W W' : World} {c : Cfg} {g : Nat} {x : WinR}
theorem Boxed1.start (w : World) (c : Cfg) : Boxed1 w c (w.alloc (.cells (cfgC c) 29)) := ⟨(Below.refl _ w).alloc (Nat.le_refl _) _, Blk.new w _ _⟩
theorem Boxed1.below (h : Boxed1 w c W) (hb : Below W.heap.size W W') : Boxed1 w c W' := ⟨h.1.trans (hb.mono h.1.size), h.2.below hb h.2.lt⟩
theorem Boxed1.alloc (h : Boxed1 w c W) (o : Obj) : Boxed1 w c (W.alloc o) := ⟨h.1.alloc h.1.size o, h.2.alloc o⟩
theorem Boxed2.new (h : Boxed1 w c W) (x : WinR) : Boxed2 w c W.heap.size x (W.alloc (.cells (winC x) 49)) := ⟨h.alloc _, Blk.new W _ _⟩
theorem Boxed2.below (h : Boxed2 w c g x W) (hb : Below W.heap.size W W') : Boxed2 w c g x W' := ⟨h.1.below hb, h.2.below hb h.2.lt⟩
theorem Boxed1.cells (h : Boxed1 w c W) : W.cell? ⟨w.heap.size, 0, none⟩ = some (.int .u64 (c.frame : Int)) ∧ W.cell? ⟨w.heap.size, 1, none⟩ = some (.slice c.parts.a c.parts.l.length c.parts.c) ∧ W.cell? ⟨w.heap.size, 2, none⟩ = some (.slice c.wins.a c.wins.l.length c.wins.c) ∧ W.cell? ⟨w.heap.size, 3, none⟩ = some (.slice c.regs.a c.regs.l.length c.regs.c) ∧ W.cell? ⟨w.heap.size, 4, none⟩ = some (.slice c.ports.a c.ports.l.length c.ports.c) ∧ W.cell? ⟨w.heap.size, 5, none⟩ = some (.slice c.chans.a c.chans.l.length c.chans.c) := cfg_cells h.2
theorem Boxed2.cells (h : Boxed2 w c g x W) : W.cell? ⟨g, 0, none⟩ = some (.int .u64 (x.st : Int)) ∧ W.cell? ⟨g, 1, none⟩ = some (.int .u64 (x.len : Int)) ∧ W.cell? ⟨g, 2, none⟩ = some (.int .u16 (x.part : Int)) := ⟨h.2.cell 0, h.2.cell 1, h.2.cell 2⟩
theorem Boxed1.cfg (h : Boxed1 w c W) (hc : CfgAt w.heap.size c w) : CfgAt W.heap.size c W := CfgAt.more (hc.below h.1) h.1.size
end
def code3 (r : Nat × Nat × Nat) : Value := .tuple #[.int .i64 (r.1 : Int), .int .i64 (r.2.1 : Int), .int .i64 (r.2.2 : Int)]
theorem ret_3 {a b : Nat × Nat × Nat} (h : a = b) : Ending.returned (code3 a) = .returned (code3 b) := by rw [h]
theorem wrap_sub (a b : Nat) (h : b ≤ a) (ha : a < 18446744073709551616) : IntKind.u64.wrap ((a : Int) - (b : Int)) = ((a - b : Nat) : Int) := by
  simp only [IntKind.wrap, IntKind.bits, IntKind.signed]
  simp
  omega
theorem winCode_19 {c : Cfg} {x : WinR} (h : idxId (ids c.parts.l) x.part < 0) : winCode c x = 19 := by unfold winCode; rw [if_pos h]
theorem winCode_20 {c : Cfg} {x : WinR} (h : ¬ idxId (ids c.parts.l) x.part < 0) (h2 : x.len = 0 ∨ c.frame < x.len ∨ c.frame - x.len < x.st) : winCode c x = 20 := by unfold winCode; rw [if_neg h, if_pos h2]
theorem winCode_0 {c : Cfg} {x : WinR} (h : ¬ idxId (ids c.parts.l) x.part < 0) (h2 : ¬ (x.len = 0 ∨ c.frame < x.len ∨ c.frame - x.len < x.st)) : winCode c x = 0 := by unfold winCode; rw [if_neg h, if_neg h2]
theorem checkR_bad {c : Cfg} {k : Nat} (hf : ¬ c.frame = 0) (hk : k < c.wins.l.length) (hp : ∀ x ∈ c.wins.l.take k, winCode c x = 0) (h : winCode c c.wins.l[k] ≠ 0) : checkR c = (winCode c c.wins.l[k], 2, k) := by
  unfold checkR
  rw [if_neg hf, badAt_some hk hp h, Nat.zero_add]
theorem checkR_over {c : Cfg} {j : Nat} (hf : ¬ c.frame = 0) (hp : ∀ x ∈ c.wins.l, winCode c x = 0) (hj : j < c.wins.l.length) (h : ∀ i, i < j → overAt c.wins.l i = false) (he : overAt c.wins.l j = true) : checkR c = (21, 2, j) := by
  unfold checkR
  rw [if_neg hf, badAt_none hp, firstOver_some hj h he]
theorem checkR_ok {c : Cfg} (hf : ¬ c.frame = 0) (hp : ∀ x ∈ c.wins.l, winCode c x = 0) (h : ∀ i, i < c.wins.l.length → overAt c.wins.l i = false) : checkR c = (0, 0, 0) := by
  unfold checkR
  rw [if_neg hf, badAt_none hp, firstOver_none h]
theorem take_all {α : Type} {P : α → Prop} {l : List α} {k : Nat} (h : k < l.length) (hp : ∀ x ∈ l.take k, P x) (hk : P l[k]) : ∀ x ∈ l.take (k + 1), P x := by
  intro x hx
  rw [List.take_succ_eq_append_getElem h] at hx
  rcases List.mem_append.1 hx with hx | hx
  · exact hp x hx
  · rw [List.mem_singleton] at hx; subst hx; exact hk
set_option maxRecDepth 100000 in
set_option maxHeartbeats 8000000 in
theorem RCheck_calls (c : Cfg) (w : World) (h : CfgAt w.heap.size c w) (hok : c.Ok) (hsm : c.Small) :
    Calls Try.prog 43 #[cfgV c] w fun e w' => e = .returned (code3 (checkR c)) ∧ Below w.heap.size w w' := by
  have HRP := hide (fun W (hW : Boxed1 w c W) id hid => RPartition_calls c id W (hW.cfg h) hid)
  have HCF := hide (fun W (hW : Boxed1 w c W) => hW.cfg h)
  have hB0 := Boxed1.start w c
  have hcap := h.wins.2
  obtain ⟨R, hR⟩ : ∃ R, R = checkR c := ⟨_, rfl⟩
  rw [← hR]
  have HR := hide hR
  have HOW := hide hok.wins
  have HFR := hide hok.frame
  obtain ⟨n, hn⟩ : ∃ n, n = c.wins.l.length := ⟨_, rfl⟩
  obtain ⟨wa, hwa⟩ : ∃ a, a = c.wins.a := ⟨_, rfl⟩
  have hnI : (n : Int) ≤ 1048576 := by unfold Cfg.Small at hsm; omega
  have hcI : (n : Int) ≤ (c.wins.c : Int) := by omega
  have HN := hide hn
  have HWA := hide hwa
  have HBC := hide (fun W (hW : Boxed1 w c W) => hW.cells)
  unfold cfgV
  unfold cfgC at hB0
  rw [← hn, ← hwa] at HBC hB0 ⊢
  unfold cfgV at HRP
  rw [← hn, ← hwa] at HRP
  have HB0 := hide hB0
  clear h hok hsm hcap hR hn hB0 hwa
  by_cases hf0 : c.frame = 0
  · have f0 : ((c.frame : Int) == 0) = true := by rw [hf0]; rfl
    have HE : Hid (R = (17, 0, 0)) := hide (by rw [HR.out]; unfold checkR; rw [if_pos hf0])
    generalize c.frame = fr at *
    clear hf0
    go_enter Try.func43, Try.ntmps43
    go_wp2
    go_ret3
    exact ⟨ret_3 HE.out.symm, HB0.out.1⟩
  · have f0 : ((c.frame : Int) == 0) = false := by rw [beq_eq_false_iff_ne]; omega
    have HF0 := hide hf0
    clear hf0
    go_enter Try.func43, Try.ntmps43
    go_wp2
    generalize w.alloc (.cells #[.int .u64 (c.frame : Int), .slice c.parts.a c.parts.l.length c.parts.c, .slice wa n c.wins.c, .slice c.regs.a c.regs.l.length c.regs.c, .slice c.ports.a c.ports.l.length c.ports.c, .slice c.chans.a c.chans.l.length c.chans.c] 29) = W0 at *
    go_loopw [5] (fun v wr => ∃ k : Nat, k ≤ n ∧ v = .int .i64 (k : Int) ∧ Hid (Boxed1 w c wr ∧ ∀ y ∈ c.wins.l.take k, winCode c y = 0)) (fun v _ => n - (intOf v).toNat)
    case atStart => exact ⟨0, Nat.zero_le _, rfl, hide ⟨HB0.out, by simp⟩⟩
    case round =>
      obtain ⟨k, hk, rfl, hrel⟩ := hrel
      obtain ⟨b0, b1, b2, b3, b4, b5⟩ := HBC.out wr hrel.out.1
      by_cases hlt : k < n
      · have hlt2 : (k : Int) < (n : Int) := by omega
        have hkl : k < c.wins.l.length := by have := HN.out; omega
        obtain ⟨b, o, ha, hab, x0, x1, x2⟩ := win_at (HCF.out wr hrel.out.1).wins k hkl
        obtain rfl : wa = some ⟨b, o, none⟩ := HWA.out.trans ha
        have hxo := HOW.out c.wins.l[k] (List.getElem_mem _)
        have HBAD := hide (fun h => (HR.out.trans (checkR_bad HF0.out hkl hrel.out.2 h)))
        have HTK := hide (fun h => take_all hkl hrel.out.2 h)
        have HHA := hide ha
        clear ha hab
        generalize c.wins.l[k] = x at *
        have HP := hide (fun W hW => HRP.out W hW x.part hxo.2.2)
        have HB2 := hide (Boxed2.new hrel.out.1 x)
        unfold winC at HB2
        have H19 := hide (fun h => @winCode_19 c x h)
        have H20 := hide (fun h => @winCode_20 c x h)
        have H0 := hide (fun h => @winCode_0 c x h)
        generalize idxId (ids c.parts.l) x.part = u at *
        have hz : w.heap.size < wr.heap.size := hrel.out.1.2.lt
        by_cases hu : u < 0
        · have u0 : decide (u < 0) = true := by simpa using hu
          have HE : Hid (R = (19, 2, k)) := hide (by rw [HBAD.out (by rw [H19.out hu]; omega), H19.out hu])
          clear hu
          go_wp2_with (go_at_call 57; refine (HP.out _ HB2.out.1).mono ?_; rintro e w2 ⟨rfl, hg⟩; have HB3 := hide (HB2.out.below (Gr.below hg)); clear hg)
          go_ret3
          exact ⟨ret_3 HE.out.symm, HB3.out.1.1⟩
        · have u0 : decide (u < 0) = false := by simpa using hu
          have hu' : ¬ u < 0 := hu
          have HU := hide hu'
          clear hu hu'
          by_cases h0 : x.len = 0
          · have l0 : ((x.len : Int) == 0) = true := by rw [h0]; rfl
            have HE : Hid (R = (20, 2, k)) := hide (by rw [HBAD.out (by rw [H20.out HU.out (.inl h0)]; omega), H20.out HU.out (.inl h0)])
            clear h0
            go_wp2_with (go_at_call 57; refine (HP.out _ HB2.out.1).mono ?_; rintro e w2 ⟨rfl, hg⟩; have HB3 := hide (HB2.out.below (Gr.below hg)); clear hg; obtain ⟨c0, c1, c2⟩ := HB3.out.cells; obtain ⟨d0, _⟩ := HBC.out w2 HB3.out.1)
            go_ret3
            exact ⟨ret_3 HE.out.symm, HB3.out.1.1⟩
          · have l0 : ((x.len : Int) == 0) = false := by rw [beq_eq_false_iff_ne]; omega
            have HL0 := hide h0
            clear h0
            by_cases h1 : c.frame < x.len
            · have l1 : decide ((c.frame : Int) < (x.len : Int)) = true := by simpa using h1
              have l2 : decide (c.frame < x.len) = true := by simpa using h1
              have HE : Hid (R = (20, 2, k)) := hide (by rw [HBAD.out (by rw [H20.out HU.out (.inr (.inl h1))]; omega), H20.out HU.out (.inr (.inl h1))])
              clear h1
              go_wp2_with (go_at_call 57; refine (HP.out _ HB2.out.1).mono ?_; rintro e w2 ⟨rfl, hg⟩; have HB3 := hide (HB2.out.below (Gr.below hg)); clear hg; obtain ⟨c0, c1, c2⟩ := HB3.out.cells; obtain ⟨d0, _⟩ := HBC.out w2 HB3.out.1)
              go_ret3
              exact ⟨ret_3 HE.out.symm, HB3.out.1.1⟩
            · have l1 : decide ((c.frame : Int) < (x.len : Int)) = false := by simpa using h1
              have l2 : decide (c.frame < x.len) = false := by simpa using h1
              have HL1 := hide h1
              have hsub := wrap_sub c.frame x.len (by omega) HFR.out
              clear h1
              by_cases h2 : c.frame - x.len < x.st
              · have l3 : decide (((c.frame - x.len : Nat) : Int) < (x.st : Int)) = true := by simpa using h2
                have l4 : decide (c.frame - x.len < x.st) = true := by simpa using h2
                have HE : Hid (R = (20, 2, k)) := hide (by rw [HBAD.out (by rw [H20.out HU.out (.inr (.inr h2))]; omega), H20.out HU.out (.inr (.inr h2))])
                generalize c.frame - x.len = d at *
                clear h2
                go_wp2_with (go_at_call 57; refine (HP.out _ HB2.out.1).mono ?_; rintro e w2 ⟨rfl, hg⟩; have HB3 := hide (HB2.out.below (Gr.below hg)); clear hg; obtain ⟨c0, c1, c2⟩ := HB3.out.cells; obtain ⟨d0, _⟩ := HBC.out w2 HB3.out.1)
                go_ret3
                exact ⟨ret_3 HE.out.symm, HB3.out.1.1⟩
              · have l3 : decide (((c.frame - x.len : Nat) : Int) < (x.st : Int)) = false := by simpa using h2
                have l4 : decide (c.frame - x.len < x.st) = false := by simpa using h2
                have HG : Hid (∀ y ∈ c.wins.l.take (k + 1), winCode c y = 0) := hide (HTK.out (H0.out HU.out (by have a1 := HL0.out; have a2 := HL1.out; rintro (h | h | h); exact a1 h; exact a2 h; exact h2 h)))
                generalize c.frame - x.len = d at *
                clear h2
                go_wp2_with (go_at_call 57; refine (HP.out _ HB2.out.1).mono ?_; rintro e w2 ⟨rfl, hg⟩; have HB3 := hide (HB2.out.below (Gr.below hg)); clear hg; obtain ⟨c0, c1, c2⟩ := HB3.out.cells; obtain ⟨d0, _⟩ := HBC.out w2 HB3.out.1)
                go_roundw
                case rel => exact ⟨k + 1, by omega, by go_num, hide ⟨HB3.out.1, HG.out⟩⟩
                case measure => simp [intOf]; omega
      · have hkn : k = n := by omega
        subst hkn
        have HALL : Hid (∀ y ∈ c.wins.l, winCode c y = 0) := hide (by have := hrel.out.2; rwa [List.take_of_length_le (by rw [HN.out]; exact Nat.le_refl _)] at this)
        have HB1 := hide hrel.out.1
        clear hlt hk hrel
        go_wp2
        obtain ⟨w1, rfl⟩ : ∃ w1 : World, w1 = wr := ⟨_, rfl⟩
        clear b0 b1 b2 b3 b4 b5
        go_loopw [7] (fun v wr => ∃ j : Nat, j ≤ k ∧ v = .int .i64 (j : Int) ∧ Hid (Boxed1 w c wr ∧ ∀ i, i < j → overAt c.wins.l i = false)) (fun v _ => k - (intOf v).toNat)
        case atStart => exact ⟨0, Nat.zero_le _, rfl, hide ⟨HB1.out, fun i hi => absurd hi (by omega)⟩⟩
        case round =>
          obtain ⟨j, hj, rfl, hrel⟩ := hrel
          obtain ⟨_, _, b2, _, _, _⟩ := HBC.out wr hrel.out.1
          by_cases hlt : j < k
          · have hlt2 : (j : Int) < (k : Int) := by omega
            have hjl : j < c.wins.l.length := by have := HN.out; omega
            have HB2 := hide hrel.out.1
            have HPRE := hide hrel.out.2
            clear hrel
            go_wp2
            obtain ⟨w3, rfl⟩ : ∃ w3 : World, w3 = wr := ⟨_, rfl⟩
            clear b2
            go_loopw [8] (fun v wr => ∃ i : Nat, i ≤ j ∧ v = .int .i64 (i : Int) ∧ Hid (Boxed1 w c wr ∧ ∀ a, (ha : a < i) → ∀ x, c.wins.l[a]? = some x → meetB (wsp x) (wsp c.wins.l[j]) = false)) (fun v _ => j - (intOf v).toNat)
            case atStart => exact ⟨0, Nat.zero_le _, rfl, hide ⟨HB2.out, fun a ha => absurd ha (by omega)⟩⟩
            case round =>
              obtain ⟨i, hi, rfl, hrel⟩ := hrel
              obtain ⟨_, _, b2, _, _, _⟩ := HBC.out wr hrel.out.1
              by_cases hin : i < j
              · have hin2 : (i : Int) < (j : Int) := by omega
                have hin3 : (i : Int) < (k : Int) := by omega
                have hil : i < c.wins.l.length := by omega
                obtain ⟨b, o, ha, hab, x0, x1, x2⟩ := win_at (HCF.out wr hrel.out.1).wins i hil
                obtain ⟨b', o', ha', _, y0, y1, y2⟩ := win_at (HCF.out wr hrel.out.1).wins j hjl
                rw [ha] at ha'
                injection ha' with ha'
                injection ha' with e1 e2 _
                subst e1 e2
                obtain rfl : wa = some ⟨b, o, none⟩ := HWA.out.trans ha
                have HMT := hide (fun W => RMeet_gr (wsp c.wins.l[i]) (wsp c.wins.l[j]) W)
                have HHA := hide ha
                have hmb : meetB (wsp c.wins.l[i]) (wsp c.wins.l[j]) = true → R = (21, 2, j) := fun hm => HR.out.trans (checkR_over HF0.out HALL.out hjl HPRE.out (overAt_yes hjl hin hm))
                have hmn : meetB (wsp c.wins.l[i]) (wsp c.wins.l[j]) = false → ∀ a, (ha : a < i + 1) → ∀ x, c.wins.l[a]? = some x → meetB (wsp x) (wsp c.wins.l[j]) = false := fun hm a ha x hx => by
                  rcases Nat.lt_or_ge a i with h1 | h1
                  · exact hrel.out.2 a h1 x hx
                  · obtain rfl : a = i := by omega
                    rw [List.getElem?_eq_getElem hil] at hx
                    injection hx with hx
                    subst hx
                    exact hm
                have HMB := hide hmb
                have HMN := hide hmn
                have HB4 := hide hrel.out.1
                have HREL := hide hrel.out.2
                have HSP := hide (fun (x y z : Nat) W => span_calls ⟨x, y, z⟩ W)
                have hg2 := fun n os => cell_grown (cell_lt b2) b2 n os
                have hx0 := fun n os => cell_grown (cell_lt x0) x0 n os
                have hx1 := fun n os => cell_grown (cell_lt x1) x1 n os
                have hx2 := fun n os => cell_grown (cell_lt x2) x2 n os
                have hy0 := fun n os => cell_grown (cell_lt y0) y0 n os
                have hy1 := fun n os => cell_grown (cell_lt y1) y1 n os
                have hy2 := fun n os => cell_grown (cell_lt y2) y2 n os
                have mixed := mixed_prog
                unfold wsp at HMT HMB
                simp only at HMT HMB HSP
                have HMN2 : Hid (meetB (c.wins.l[i].st, c.wins.l[i].len) (c.wins.l[j].st, c.wins.l[j].len) = false → ∀ a, (ha : a < i + 1) → ∀ x, c.wins.l[a]? = some x → meetB (wsp x) (wsp c.wins.l[j]) = false) := HMN
                generalize meetB (c.wins.l[i].st, c.wins.l[i].len) (c.wins.l[j].st, c.wins.l[j].len) = mb at *
                clear x0 x1 x2 y0 y1 y2 b2 hrel ha hmb hmn HMN
                cases mb
                · go_wp2_with fail
                  go_quiet_grown (first | (go_at_call 59; exact Calls.grown_of (HSP.out _ _ _ _)) | (go_at_call 58; exact Calls.grown_of (HMT.out _)))
                  have HB5 := hide (HB4.out.below (Gr.below ⟨nq, osq, rfl⟩ : Below wr.heap.size wr (grow (wr.drewN nq) osq)))
                  clear hg2 hx0 hx1 hx2 hy0 hy1 hy2
                  generalize grow (wr.drewN nq) osq = w5 at *
                  go_wp2
                  go_roundw
                  case rel => exact ⟨i + 1, by omega, by go_num, hide ⟨HB5.out, HMN2.out (by trivial)⟩⟩
                  case measure => simp [intOf]; omega
                · go_wp2_with fail
                  go_quiet_grown (first | (go_at_call 59; exact Calls.grown_of (HSP.out _ _ _ _)) | (go_at_call 58; exact Calls.grown_of (HMT.out _)))
                  have HB5 := hide (HB4.out.below (Gr.below ⟨nq, osq, rfl⟩ : Below wr.heap.size wr (grow (wr.drewN nq) osq)))
                  clear hg2 hx0 hx1 hx2 hy0 hy1 hy2
                  generalize grow (wr.drewN nq) osq = w5 at *
                  go_wp2
                  go_ret3
                  exact ⟨ret_3 (HMB.out (by trivial)).symm, HB5.out.1⟩
              · have hij : i = j := by omega
                subst hij
                have HOV : Hid (∀ a, a < i + 1 → overAt c.wins.l a = false) := hide (fun a ha => by
                  rcases Nat.lt_or_ge a i with h1 | h1
                  · exact HPRE.out a h1
                  · obtain rfl : a = i := by omega
                    exact overAt_no hjl (fun b hb => hrel.out.2 b hb _ (List.getElem?_eq_getElem _)))
                have HB4 := hide hrel.out.1
                clear hi hin hrel
                go_wp2
                go_roundw
                case rel => exact ⟨i + 1, by omega, by go_num, hide ⟨HB4.out, HOV.out⟩⟩
                case measure => simp [intOf]; omega
          · have hjk : j = k := by omega
            subst hjk
            have HE : Hid (R = (0, 0, 0)) := hide (HR.out.trans (checkR_ok HF0.out HALL.out (by rw [← HN.out]; exact hrel.out.2)))
            clear hlt hj
            go_wp2
            go_ret3
            exact ⟨ret_3 HE.out.symm, hrel.out.1.1⟩
end Go.Proofs.Ytkhcdnehfiopgaa
