/- The reference's Idle over Sorted's contract (chapter 15). -/
import Derived.Test.YthccadabblkalaaGreatFrFillLaw
import Derived.Deep.QuietTactic
import Derived.BigQuiet
namespace Go.Proofs.YthccadabblkalaaGreat
open Go.RowKit Go.Sort
set_option linter.unusedVariables false

def swO : Nat → List WinR → List (Nat × Nat)
  | _, [] => []
  | p, x :: l => (if p < x.st then [(p, x.st - p)] else []) ++ swO (x.st + x.len) l
def swA : Nat → List WinR → Nat
  | p, [] => p
  | _, x :: l => swA (x.st + x.len) l
theorem swO_snoc (x : WinR) : ∀ (l : List WinR) (p : Nat), swO p (l ++ [x]) = swO p l ++ (if swA p l < x.st then [(swA p l, x.st - swA p l)] else [])
  | [], p => by
    show (if p < x.st then [(p, x.st - p)] else []) ++ [] = [] ++ (if p < x.st then [(p, x.st - p)] else [])
    rw [List.append_nil, List.nil_append]
  | y :: l, p => by
    rw [List.cons_append]
    unfold swO swA
    rw [swO_snoc x l, List.append_assoc]
theorem swA_snoc (x : WinR) : ∀ (l : List WinR) (p : Nat), swA p (l ++ [x]) = x.st + x.len
  | [], p => rfl
  | y :: l, p => by
    rw [List.cons_append]
    unfold swA
    exact swA_snoc x l _
def swF (F : Nat) : Nat → List WinR → List (Nat × Nat)
  | p, [] => if p < F then [(p, F - p)] else []
  | p, x :: l => (if p < x.st then [(p, x.st - p)] else []) ++ swF F (x.st + x.len) l
theorem swF_eq (F : Nat) : ∀ (l : List WinR) (p : Nat), swF F p l = swO p l ++ (if swA p l < F then [(swA p l, F - swA p l)] else [])
  | [], p => by
    show (if p < F then [(p, F - p)] else []) = [] ++ (if p < F then [(p, F - p)] else [])
    rw [List.nil_append]
  | x :: l, p => by
    unfold swF swO swA
    rw [swF_eq F l, List.append_assoc]
theorem cov_app {a b : List (Nat × Nat)} {t : Nat} : covL (a ++ b) t ↔ covL a t ∨ covL b t := by
  unfold covL
  constructor
  · rintro ⟨s, hs, h⟩
    rcases List.mem_append.1 hs with hs | hs
    · exact .inl ⟨s, hs, h⟩
    · exact .inr ⟨s, hs, h⟩
  · rintro (⟨s, hs, h⟩ | ⟨s, hs, h⟩)
    · exact ⟨s, List.mem_append_left _ hs, h⟩
    · exact ⟨s, List.mem_append_right _ hs, h⟩
theorem cov_if {c : Prop} [Decidable c] {s : Nat × Nat} {t : Nat} : covL (if c then [s] else []) t ↔ c ∧ inS s t := by
  by_cases h : c
  · rw [if_pos h]; unfold covL; simp [h]
  · rw [if_neg h]; unfold covL; simp [h]
theorem cov_cons {x : Nat × Nat} {l : List (Nat × Nat)} {t : Nat} : covL (x :: l) t ↔ inS x t ∨ covL l t := by unfold covL; simp
theorem sw_spec (F : Nat) : ∀ (l : List WinR) (p : Nat), (∀ x ∈ l, p ≤ x.st ∧ 1 ≤ x.len ∧ x.st + x.len ≤ F) → l.Pairwise (fun a b => a.st + a.len ≤ b.st) →
    Apart (swF F p l) ∧ (∀ s ∈ swF F p l, p ≤ s.1) ∧ ∀ t, covL (swF F p l) t ↔ p ≤ t ∧ t < F ∧ ¬ covL (l.map wsp) t
  | [], p, _, _ => by
    unfold swF
    refine ⟨?_, ?_, fun t => ?_⟩
    · split
      · exact ⟨by simp, by simp; omega⟩
      · exact ⟨List.Pairwise.nil, fun s hs => (by cases hs)⟩
    · split
      · simp
      · simp
    · rw [cov_if]
      unfold inS covL
      simp
      omega
  | x :: l, p, h, hp => by
    have hx := h x (by simp)
    rw [List.pairwise_cons] at hp
    obtain ⟨a1, a2, a3⟩ := sw_spec F l (x.st + x.len) (fun y hy => by have := h y (by simp [hy]); have := hp.1 y hy; omega) hp.2
    unfold swF
    refine ⟨⟨?_, ?_⟩, ?_, fun t => ?_⟩
    · rw [List.pairwise_append]
      refine ⟨by split <;> simp, a1.1, fun a ha b hb => ?_⟩
      split at ha
      · rw [List.mem_singleton] at ha
        subst ha
        have := a2 b hb
        simp only
        omega
      · cases ha
    · intro s hs
      rcases List.mem_append.1 hs with hs | hs
      · split at hs
        · rw [List.mem_singleton] at hs
          subst hs
          simp only
          omega
        · cases hs
      · exact a1.2 s hs
    · intro s hs
      rcases List.mem_append.1 hs with hs | hs
      · split at hs
        · rw [List.mem_singleton] at hs
          subst hs
          simp only
          omega
        · cases hs
      · have := a2 s hs
        omega
    · rw [cov_app, cov_if, a3 t, List.map_cons, cov_cons]
      have hlo : covL (l.map wsp) t → x.st + x.len ≤ t := by
        rintro ⟨s, hs, ht⟩
        obtain ⟨y, hy, rfl⟩ := List.mem_map.1 hs
        have := hp.1 y hy
        unfold inS wsp at ht
        simp only at ht
        omega
      unfold inS wsp
      simp only
      constructor
      · rintro (⟨h1, h2⟩ | ⟨h1, h2, h3⟩)
        · refine ⟨by omega, by omega, ?_⟩
          rintro (h4 | h4)
          · omega
          · have := hlo h4; omega
        · refine ⟨by omega, by omega, ?_⟩
          rintro (h4 | h4)
          · omega
          · exact h3 h4
      · rintro ⟨h1, h2, h3⟩
        by_cases h4 : t < x.st
        · exact .inl ⟨by omega, by omega⟩
        · refine .inr ⟨?_, h2, fun h5 => h3 (.inr h5)⟩
          by_cases h5 : t < x.st + x.len
          · exact absurd (.inl ⟨by omega, h5⟩) h3
          · omega
/-- Over right windows in order: the gaps. -/
theorem sweep_gaps {c : Cfg} (h : rightB c = true) (hf : c.frame < 18446744073709551616) {l : List WinR} (hp : l.Perm c.wins.l) (ha : l.Pairwise fun a b => a.st ≤ b.st) : swF c.frame 0 l = gapsR c.frame (c.wins.l.map wsp) := by
  have hsp := wins_span h
  have hin : ∀ x ∈ l, 1 ≤ x.len ∧ x.st + x.len ≤ c.frame := fun x hx => hsp (wsp x) (List.mem_map_of_mem (hp.subset hx))
  have hpt : Parted (l.map wsp) := by
    have h0 := wins_parted h hf
    unfold Parted at h0 ⊢
    exact (List.Perm.pairwise_iff (fun {x y} hxy t ht => hxy t ⟨ht.2, ht.1⟩) (hp.map wsp)).2 h0
  have hpw : l.Pairwise fun a b => a.st + a.len ≤ b.st := by
    unfold Parted at hpt
    rw [List.pairwise_map] at hpt
    refine (ha.and hpt).imp_of_mem fun {a b} hma hmb hab => ?_
    have h1 := hin a hma
    have h2 := hin b hmb
    have h3 := hab.1
    have h4 := hab.2 b.st
    unfold inS wsp at h4
    simp only at h4
    omega
  obtain ⟨a1, _, a3⟩ := sw_spec c.frame l 0 (fun x hx => ⟨Nat.zero_le _, (hin x hx).1, (hin x hx).2⟩) hpw
  obtain ⟨b1, b3⟩ := gapsR_spec c.frame (c.wins.l.map wsp) (fun s hs => (hsp s hs).1)
  refine apart_unique _ _ a1 b1 fun t => ?_
  rw [a3, b3]
  have : covL (l.map wsp) t ↔ covL (c.wins.l.map wsp) t := ⟨fun ⟨s, hs, x⟩ => ⟨s, (hp.map wsp).subset hs, x⟩, fun ⟨s, hs, x⟩ => ⟨s, (hp.map wsp).symm.subset hs, x⟩⟩
  rw [this]
  exact ⟨fun ⟨_, x, y⟩ => ⟨x, y⟩, fun ⟨x, y⟩ => ⟨Nat.zero_le _, x, y⟩⟩

def SortedV (c : Cfg) (w : World) (e : Ending) (w' : World) : Prop := ∃ out : List WinR, out.Perm c.wins.l ∧ (out.Pairwise fun a b => a.st ≤ b.st) ∧ WinsV out w e w'
set_option maxRecDepth 100000 in
set_option maxHeartbeats 8000000 in
theorem RIdle_calls (c : Cfg) (w : World) (hS : ∀ W, Boxed1 w c W → Calls Tryz.prog 8 #[cfgV c] W (SortedV c W)) (hf : c.frame < 18446744073709551616) (hr : rightB c = true) :
    Calls Tryz.prog 10 #[cfgV c] w (WinsV ((gapsR c.frame (c.wins.l.map wsp)).map idW) w) := by
  have hB0 := Boxed1.start w c
  have HS := hide hS
  have HG := hide (fun (l : List WinR) hp ha => sweep_gaps hr hf (l := l) hp ha)
  have HIN := hide (fun (l : List WinR) (hp : l.Perm c.wins.l) => fun x hx => win_right ((right_all hr).2.1 x (hp.subset hx)))
  have hfew := fill_few hr
  have HFEW := hide hfew
  have HF := hide hf
  generalize hgs : gapsR c.frame (c.wins.l.map wsp) = gs at *
  obtain ⟨i0, hi, hz0, hz1, hz2⟩ := info_parts win_info3
  have HII := hide hi
  have HBC := hide (fun W (hW : Boxed1 w c W) => hW.cells)
  unfold cfgV at HS ⊢
  unfold cfgC at hB0
  have HB0 := hide hB0
  clear hS hf hr hB0 hi hgs hfew
  go_enter Tryz.func10, Tryz.ntmps10
  obtain ⟨b0, b1, b2, b3, b4, b5⟩ := HBC.out _ HB0.out
  go_wp2_with (go_at_call 8; refine (HS.out _ HB0.out).mono ?_; rintro e w1 ⟨out, hperm, hasc, a1, c1, rfl, hown, hb⟩; have HB1 := hide (HB0.out.below hb); have HO := hide hown; have HP := hide hperm; have HA := hide hasc; clear hb hown hperm hasc)
  clear b0 b1 b2 b3 b4 b5
  obtain ⟨n, hn⟩ : ∃ n, n = out.length := ⟨_, rfl⟩
  have hnI : (n : Int) ≤ 120 := by have := HFEW.out; have := HP.out.length_eq; omega
  have HN := hide hn
  have HX := hide (HIN.out out HP.out)
  have HG2 := hide (HG.out out HP.out HA.out)
  rw [← hn] at HO ⊢
  clear hn
  obtain ⟨wo, rfl⟩ : ∃ wo : World, wo = w1 := ⟨_, rfl⟩
  go_loopw [3, 4, 6] (fun o q v wr => ∃ (j m P : Nat) (a : Option Addr) (c' : Nat), j ≤ n ∧ m ≤ j ∧ v = .int .i64 (j : Int) ∧ q = .int .u64 (P : Int) ∧ o = .slice a m c' ∧ Hid (Below wo.heap.size wo wr ∧ P = swA 0 (out.take j) ∧ m = (swO 0 (out.take j)).length ∧ wr.ownsRow w.heap.size 36 3 (.slice a m c') m (((swO 0 (out.take j)).map idW).flatMap winL) ∧ ∀ r, (Value.slice a m c').ownBlock = some r → wo.heap.size ≤ r)) (fun _ _ v _ => n - (intOf v).toNat)
  case atStart => exact ⟨0, 0, 0, none, 0, Nat.zero_le _, Nat.le_refl _, rfl, rfl, rfl, hide ⟨Below.refl _ _, rfl, rfl, World.ownsRow_nil _ _ _ _, fun r hr => by cases hr⟩⟩
  case round =>
    obtain ⟨j, m, P, a, c', hj, hm, rfl, rfl, rfl, hrel⟩ := hrel
    have HBW := hide hrel.out.1
    have HOW := hide hrel.out.2.2.2.1
    have HOB := hide hrel.out.2.2.2.2
    have hws := HB1.out.1.size
    have hsz := hrel.out.1.size
    by_cases hlt : j < n
    · have hlt2 : (j : Int) < (n : Int) := by omega
      have hjl : j < out.length := by have := HN.out; omega
      obtain ⟨g, rfl, _, hgc, hgl, hcell⟩ := own_cells (enc := winL) winL_len (own_below HO.out HBW.out) HN.out.symm j hjl
      have hcI : (n : Int) ≤ (c1 : Int) := by omega
      have x0 : wr.cell? ⟨g, j * 3, none⟩ = some (.int .u64 (out[j].st : Int)) := hcell 0 (by omega)
      have x1 : wr.cell? ⟨g, j * 3 + 1, none⟩ = some (.int .u64 (out[j].len : Int)) := hcell 1 (by omega)
      have hxx := HX.out out[j] (List.getElem_mem _)
      have hfr := HF.out
      have hadd := wrap_add out[j].st out[j].len
      rw [Nat.mod_eq_of_lt (by omega)] at hadd
      have hsub : P < out[j].st → IntKind.u64.wrap ((out[j].st : Int) - (P : Int)) = ((out[j].st - P : Nat) : Int) := fun h => wrap_sub _ _ (by omega) (by omega)
      have htk : out.take (j + 1) = out.take j ++ [out[j]] := List.take_succ_eq_append_getElem hjl
      have hs1 := swO_snoc out[j] (out.take j) 0
      have hs2 := swA_snoc out[j] (out.take j) 0
      rw [← htk, ← hrel.out.2.1] at hs1
      rw [← htk] at hs2
      obtain ⟨x, hx⟩ : ∃ x, x = out[j] := ⟨_, rfl⟩
      rw [← hx] at x0 x1 hadd hsub hs1 hs2
      have HXE : Hid (out[j] = x) := hide hx.symm
      have HM := hide hrel.out.2.2.1
      obtain ⟨lo, len, part⟩ := x
      simp only at x0 x1 hadd hsub hs1 hs2
      obtain ⟨en, hen⟩ : ∃ en, en = lo + len := ⟨_, rfl⟩
      rw [← hen] at hadd hs2
      have HS2 := hide hs2
      clear hx hrel hcell hxx hfr htk hs2 hen
      by_cases hgt : P < lo
      · have e1 : decide ((P : Int) < (lo : Int)) = true := by simpa using hgt
        have e2 : decide (P < lo) = true := by simpa using hgt
        have hsb := hsub hgt
        rw [if_pos hgt] at hs1
        have HS1 := hide hs1
        generalize lo - P = d at *
        have HC := hide (fun W g hg => wn_cells_at W ⟨P, d, 0⟩ 36 g hg)
        have H1 := hide (wn_one ⟨P, d, 0⟩)
        clear hsub hgt hs1
        go_wp2_with (at_builtin; go_must (refine wpList_append_own_at _ rfl (.tmp 22) (.tmp 32) 24 rfl w.heap.size 36 i0 _ 3 24 Tryz.underlying24 HII.out hz0 hz1 hz2 rfl (by decide) (.slice a m c') m (((swO 0 (out.take j)).map idW).flatMap winL) rfl (HOW.out.alloc _) ⟨wr.heap.size, 0, none⟩ 1 1 (winL ⟨P, d, 0⟩) rfl rfl (HC.out _ _ rfl) H1.out (by simp only [maxLen]; omega) (by omega) (by simp; omega) ?_); intro v' w4 hown' hg hnl hat; obtain ⟨a4, k4, rfl⟩ := own_slice hown'; have HO4 := hide hown'; have HB4 : Hid (Below wo.heap.size wo w4) := hide (Below.grown (HBW.out.alloc HBW.out.size _) hg (by simp; omega) (fun r hr => HOB.out r hr)); have HA4 : Hid (∀ r, (Value.slice a4 (m + 1) k4).ownBlock = some r → wo.heap.size ≤ r) := hide (fun r hr => by rcases hat with h | h; exact HOB.out r (by rw [← h]; exact hr); (rw [h] at hr; injection hr with hr; simp at hr; omega)); clear hown' hg hnl hat; obtain ⟨g2, hg2, _, _, hgl2, hcell2⟩ := own_cells (enc := winL) winL_len (own_below HO.out HB4.out) HN.out.symm j hjl; injection hg2 with hg2; injection hg2 with hg2 _ _; subst hg2; have y0 : w4.cell? ⟨g, j * 3, none⟩ = some (.int .u64 (lo : Int)) := (hcell2 0 (by omega)).trans (by rw [HXE.out]; rfl); have y1 : w4.cell? ⟨g, j * 3 + 1, none⟩ = some (.int .u64 (len : Int)) := (hcell2 1 (by omega)).trans (by rw [HXE.out]; rfl); clear hcell2)
        clear x0 x1
        go_quiet (fail)
        have e3 : Hid (w4.drewN nq |>.ownsRow w.heap.size 36 3 (.slice a4 (m + 1) k4) (m + 1) (((swO 0 (out.take (j + 1))).map idW).flatMap winL)) := hide (by
          have := HO4.out
          rw [HS1.out, List.map_append, List.flatMap_append]
          exact own_below this (below_drewN (Below.refl _ _) nq))
        have HB5 : Hid (Below wo.heap.size wo (w4.drewN nq)) := hide (below_drewN HB4.out nq)
        have hml : Hid (m + 1 = (swO 0 (out.take (j + 1))).length) := hide (by rw [HS1.out, List.length_append, ← HM.out]; rfl)
        go_wp2
        go_roundw
        case rel => exact ⟨j + 1, m + 1, en, a4, k4, by omega, by omega, by go_num, rfl, rfl, hide ⟨HB5.out, HS2.out.symm, hml.out, e3.out, HA4.out⟩⟩
        case measure => simp [intOf]; omega
      · have e1 : decide ((P : Int) < (lo : Int)) = false := by simpa using hgt
        have e2 : decide (P < lo) = false := by simpa using hgt
        rw [if_neg hgt, List.append_nil] at hs1
        have HS1 := hide hs1
        clear hsub hgt hs1
        go_wp2
        go_quiet (fail)
        have e3 : Hid (wr.drewN nq |>.ownsRow w.heap.size 36 3 (.slice a m c') m (((swO 0 (out.take (j + 1))).map idW).flatMap winL)) := hide (by
          have := HOW.out
          rw [HS1.out]
          exact own_below this (below_drewN (Below.refl _ _) nq))
        have HB5 : Hid (Below wo.heap.size wo (wr.drewN nq)) := hide (below_drewN HBW.out nq)
        have hml : Hid (m = (swO 0 (out.take (j + 1))).length) := hide (by rw [HS1.out, ← HM.out])
        go_wp2
        go_roundw
        case rel => exact ⟨j + 1, m, en, a, c', by omega, by omega, by go_num, rfl, rfl, hide ⟨HB5.out, HS2.out.symm, hml.out, e3.out, HOB.out⟩⟩
        case measure => simp [intOf]; omega
    · have hjn : j = n := by omega
      subst hjn
      have htk : out.take j = out := List.take_of_length_le (by have := HN.out; omega)
      have hP := hrel.out.2.1
      have hM := hrel.out.2.2.1
      rw [htk] at hP hM HOW
      have hgs := HG2.out
      rw [swF_eq, ← hP] at hgs
      have hsub : P < c.frame → IntKind.u64.wrap ((c.frame : Int) - (P : Int)) = ((c.frame - P : Nat) : Int) := fun h => wrap_sub _ _ (by omega) HF.out
      have HB2 := hide (HB1.out.below hrel.out.1)
      have HM := hide hM
      obtain ⟨b0, b1, b2, b3, b4, b5⟩ := HBC.out wr HB2.out
      clear hrel hlt hP hM htk
      by_cases hgt : P < c.frame
      · have e1 : decide ((P : Int) < (c.frame : Int)) = true := by simpa using hgt
        have e2 : decide (P < c.frame) = true := by simpa using hgt
        have hsb := hsub hgt
        rw [if_pos hgt] at hgs
        have HGS := hide hgs
        generalize c.frame - P = d at *
        have HC := hide (fun W g hg => wn_cells_at W ⟨P, d, 0⟩ 36 g hg)
        have H1 := hide (wn_one ⟨P, d, 0⟩)
        clear hsub hgt hgs
        go_wp2_with (at_builtin; go_must (refine wpList_append_own_at _ rfl (.tmp 49) (.tmp 56) 24 rfl w.heap.size 36 i0 _ 3 24 Tryz.underlying24 HII.out hz0 hz1 hz2 rfl (by decide) (.slice a m c') m (((swO 0 out).map idW).flatMap winL) rfl (HOW.out.alloc _) ⟨wr.heap.size, 0, none⟩ 1 1 (winL ⟨P, d, 0⟩) rfl rfl (HC.out _ _ rfl) H1.out (by simp only [maxLen]; omega) (by omega) (by simp; omega) ?_); intro v' w4 hown' hg hnl hat; obtain ⟨a4, k4, rfl⟩ := own_slice hown'; have HO4 := hide hown'; have HB4 : Hid (Below wo.heap.size wo w4) := hide (Below.grown (HBW.out.alloc HBW.out.size _) hg (by simp; omega) (fun r hr => HOB.out r hr)); have HA4 : Hid (∀ r, (Value.slice a4 (m + 1) k4).ownBlock = some r → wo.heap.size ≤ r) := hide (fun r hr => by rcases hat with h | h; exact HOB.out r (by rw [← h]; exact hr); (rw [h] at hr; injection hr with hr; simp at hr; omega));clear hown' hg hnl hat)
        have hlen : m + 1 = (gs.map idW).length := by rw [List.length_map, ← HGS.out, List.length_append, ← HM.out]; rfl
        have HE : Hid (w4.ownsRow w.heap.size 36 3 (.slice a4 (m + 1) k4) (m + 1) ((gs.map idW).flatMap winL)) := hide (by
          have := HO4.out
          rw [← HGS.out, List.map_append, List.flatMap_append]
          exact this)
        go_ret
        exact ⟨a4, k4, by rw [← hlen]; rfl, by rw [← hlen]; exact HE.out, HB1.out.1.trans (HB4.out.mono HB1.out.1.size)⟩
      · have e1 : decide ((P : Int) < (c.frame : Int)) = false := by simpa using hgt
        have e2 : decide (P < c.frame) = false := by simpa using hgt
        rw [if_neg hgt, List.append_nil] at hgs
        have HGS := hide hgs
        clear hsub hgt hgs
        go_wp2
        have hlen : m = (gs.map idW).length := by rw [List.length_map, ← HGS.out, ← HM.out]
        go_ret
        exact ⟨a, c', by rw [← hlen]; rfl, by rw [← hlen, ← HGS.out]; exact HOW.out, HB1.out.1.trans (HBW.out.mono HB1.out.1.size)⟩
end Go.Proofs.YthccadabblkalaaGreat
