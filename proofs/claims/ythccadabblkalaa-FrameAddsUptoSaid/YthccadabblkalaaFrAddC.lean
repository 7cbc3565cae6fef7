/- A configuration with one window more: its form in memory, its bounds, and what the calls answer on it (chapter 15). -/
import Derived.Test.YthccadabblkalaaFrSort
import Derived.Test.YthccadabblkalaaFrRIdle
namespace Go.Proofs.Ythccadabblkalaa
open Go.RowKit Go.Sort
set_option linter.unusedVariables false

theorem idx_nonneg {id : Nat} : ∀ {l : List Nat} {i : Nat}, id ∈ l → 0 ≤ idxFrom id l i
  | [], _, h => by cases h
  | x :: l, i, h => by
    rw [idxFrom]
    by_cases hx : x = id
    · rw [if_pos hx]; omega
    · rw [if_neg hx]
      rcases List.mem_cons.1 h with h | h
      · exact absurd h.symm hx
      · exact idx_nonneg h
theorem meetS_comm (a b : Nat × Nat) : meetS a b = meetS b a := by unfold meetS; rw [Bool.or_comm]
theorem cut_clear (g : Nat × Nat) : ∀ L : List (Nat × Nat), (∀ y ∈ L, meetS y g = false) → cutR L g = L
  | [], _ => rfl
  | y :: L, h => by
    have := cut_clear g L (fun x hx => h x (by simp [hx]))
    unfold cutR at *
    rw [List.flatMap_cons, this]
    unfold cut1
    rw [h y (by simp)]
    rfl
theorem cut_self (g : Nat × Nat) (hg : 1 ≤ g.2) : cut1 g g = [] := by
  unfold cut1 meetS hasS lastS
  have : (decide (g.1 ≤ g.1) && decide (g.1 ≤ g.1 + g.2 - 1) || decide (g.1 ≤ g.1) && decide (g.1 ≤ g.1 + g.2 - 1)) = true := by
    simp; omega
  rw [this, if_pos rfl, if_neg (by omega), if_neg (by omega)]
  rfl
theorem cut_one (g : Nat × Nat) (hg : 1 ≤ g.2) : ∀ L : List (Nat × Nat), Apart L → g ∈ L → (cutR L g).length + 1 = L.length
  | [], _, h => by cases h
  | y :: L, ha, h => by
    have hp := ha.1
    rw [List.pairwise_cons] at hp
    have hy := ha.2 y (by simp)
    have haL : Apart L := ⟨hp.2, fun s hs => ha.2 s (by simp [hs])⟩
    by_cases e : y = g
    · have hc : cutR L g = L := cut_clear g L (fun x hx => by
        have h1 := hp.1 x hx
        rw [e] at h1
        have h2 := haL.2 x hx
        unfold meetS hasS lastS
        simp
        omega)
      have : cutR (y :: L) g = cut1 g y ++ cutR L g := by unfold cutR; rw [List.flatMap_cons]
      rw [this, e, cut_self g hg, hc]
      rfl
    · have hgL : g ∈ L := by
        rcases List.mem_cons.1 h with h | h
        · exact absurd h.symm e
        · exact h
      have h1 := hp.1 g hgL
      have hm : meetS y g = false := by
        unfold meetS hasS lastS
        simp
        omega
      have hc : cut1 g y = [y] := by
        unfold cut1
        rw [hm]
        rfl
      have : cutR (y :: L) g = cut1 g y ++ cutR L g := by unfold cutR; rw [List.flatMap_cons]
      rw [this, hc, List.length_append, List.length_cons]
      have := cut_one g hg L haL hgL
      simp only [List.length_nil, List.length_cons]
      omega
/-- A configuration with one window more. -/
def addC (c : Cfg) (x : WinR) (a : Option Addr) (cap : Nat) : Cfg := { c with wins := ⟨c.wins.l ++ [x], a, cap⟩ }
theorem add_gaps {c : Cfg} (h : rightB c = true) {g : Nat × Nat} (hg : g ∈ gapsR c.frame (c.wins.l.map wsp)) (p : Nat) :
    (gapsR c.frame ((c.wins.l ++ [(⟨g.1, g.2, p⟩ : WinR)]).map wsp)).length + 1 = (gapsR c.frame (c.wins.l.map wsp)).length := by
  obtain ⟨b1, _⟩ := gapsR_spec c.frame (c.wins.l.map wsp) (fun s hs => (wins_span h s hs).1)
  have e : gapsR c.frame ((c.wins.l ++ [(⟨g.1, g.2, p⟩ : WinR)]).map wsp) = cutR (gapsR c.frame (c.wins.l.map wsp)) g := by
    unfold gapsR
    rw [if_neg (right_all h).1, if_neg (right_all h).1, List.map_append, List.foldl_append]
    rfl
  rw [e]
  exact cut_one g (b1.2 g hg) _ b1 hg
theorem add_right {c : Cfg} (h : rightB c = true) (hf : c.frame < 18446744073709551616) {g : Nat × Nat} (hg : g ∈ gapsR c.frame (c.wins.l.map wsp)) {p : Nat} (hp : p ∈ ids c.parts.l) (a : Option Addr) (cap : Nat) :
    checkR (addC c ⟨g.1, g.2, p⟩ a cap) = (0, 0, 0) := by
  obtain ⟨hf0, hcode, hov, _⟩ := right_all h
  have hok := wins_ok h hf
  have hgk := gapsR_ok c.frame hok g hg
  have hgo : okSpan g := by unfold okSpan; omega
  have hnew : winCode c ⟨g.1, g.2, p⟩ = 0 := by
    unfold winCode
    have := idx_nonneg (i := 0) hp
    rw [if_neg (by show ¬ idxFrom p (ids c.parts.l) 0 < 0; omega), if_neg (by simp only; omega)]
  have hall : ∀ x ∈ (addC c ⟨g.1, g.2, p⟩ a cap).wins.l, winCode (addC c ⟨g.1, g.2, p⟩ a cap) x = 0 := by
    intro x hx
    have hx' : x ∈ c.wins.l ++ [(⟨g.1, g.2, p⟩ : WinR)] := hx
    rcases List.mem_append.1 hx' with hx | hx
    · exact hcode x hx
    · rw [List.mem_singleton] at hx
      subst hx
      exact hnew
  have hfirst : firstOver (addC c ⟨g.1, g.2, p⟩ a cap).wins.l = none := by
    show firstOver (c.wins.l ++ [(⟨g.1, g.2, p⟩ : WinR)]) = none
    refine firstOver_none (fun j hj => overAt_no hj (fun i hi => ?_))
    rw [List.length_append, List.length_singleton] at hj
    by_cases hjl : j < c.wins.l.length
    · rw [List.getElem_append_left (by omega), List.getElem_append_left hjl]
      cases hm : meetB (wsp (c.wins.l[i]'(by omega))) (wsp c.wins.l[j]) with
      | false => rfl
      | true =>
        have hv := overAt_yes hjl hi hm
        unfold firstOver at hov
        exact absurd hv (List.find?_eq_none.1 hov j (by simpa using hjl))
    · have e : j = c.wins.l.length := by omega
      subst e
      rw [List.getElem_append_left (by omega), List.getElem_append_right (Nat.le_refl _)]
      simp only [Nat.sub_self, List.getElem_cons_zero]
      have hm1 : wsp (c.wins.l[i]'(by omega)) ∈ c.wins.l.map wsp := List.mem_map_of_mem (List.getElem_mem _)
      show meetB (wsp (c.wins.l[i]'(by omega))) g = false
      rw [meetB_ok (hok _ hm1) hgo, meetS_comm]
      exact gaps_clear c.frame hok g _ hg hm1
  unfold checkR
  rw [if_neg (by exact hf0), badAt_none hall, hfirst]
theorem add_busy (l : List WinR) (x : WinR) (hx : x.st + x.len < 18446744073709551616) : busyL (wo (l ++ [x]) x.part) = (busyL (wo l x.part) + x.len) % 18446744073709551616 := by
  have e : wo (l ++ [x]) x.part = wo l x.part ++ [(x.st, x.st + x.len)] := by
    unfold wo
    rw [List.filter_append, List.map_append, List.filter_cons_of_pos (by simp)]
    unfold hiW
    rw [List.filter_nil, List.map_singleton, Nat.mod_eq_of_lt hx]
  rw [e, busyL_snoc]
  unfold busyF busyN
  simp only
  rw [subW_le (by omega) hx, Nat.add_sub_cancel_left]

theorem add_at {c : Cfg} {x : WinR} {W : World} {B : Nat} {a : Option Addr} {cap : Nat} (h : CfgAt B c W) (hr : RowAt winL 3 B ⟨c.wins.l ++ [x], a, cap⟩ W) : CfgAt B (addC c x a cap) W :=
  { parts := h.parts, wins := hr, regs := h.regs, ports := h.ports, chans := h.chans, dests := h.dests }
theorem add_row {W : World} {base n cap : Nat} {a : Option Addr} {l : List WinR} (h : W.ownsRow base 45 3 (.slice a n cap) n (l.flatMap winL)) (hl : l.length = n) (hc : cap ≤ 9223372036854775807) : RowAt winL 3 W.heap.size ⟨l, a, cap⟩ W := by
  subst hl
  exact ⟨Reads.of_own h, own_cap h, hc⟩
theorem add_ok {c : Cfg} {x : WinR} {a : Option Addr} {cap : Nat} (h : c.Ok) (hx : x.Ok) : (addC c x a cap).Ok :=
  by
    refine ⟨h.frame, h.parts, fun y hy => ?_, h.regs, h.ports, h.chans⟩
    have hy' : y ∈ c.wins.l ++ [x] := hy
    rcases List.mem_append.1 hy' with hy | hy
    · exact h.wins y hy
    · rw [List.mem_singleton] at hy
      subst hy
      exact hx
theorem add_small {c : Cfg} {x : WinR} {a : Option Addr} {cap : Nat} (h : rightB c = true) : (addC c x a cap).Small := by
  unfold rightB fewB at h
  simp only [Bool.and_eq_true, decide_eq_true_eq] at h
  have h2 := h.1.2
  unfold sumN at h2
  unfold Cfg.Small addC
  simp only [List.length_append, List.length_singleton]
  omega
theorem own_max {w : World} {base n c : Nat} {e : TypeId} {size : Nat} {A : Option Addr} {xs : List Value} (h : w.ownsRow base e size (.slice A n c) n xs) : c ≤ 9223372036854775807 := by
  rcases h.2 with ⟨hv, _⟩ | ⟨g, cap, cur, hv, _, _, _, h2, _⟩
  · injection hv with _ _ e3
    omega
  · injection hv with _ _ e3
    simp only [maxLen] at h2
    omega
/-- The boxes of the law's last region: the configuration, the new one, the new window. -/
def BoxX (w : World) (c : Cfg) (x : WinR) (a : Option Addr) (cap n6 n7 : Nat) (W : World) : Prop :=
  Boxed1 w c W ∧ Blk W n7 29 (cfgC (addC c x a cap)) ∧ Blk W n6 45 (winC x) ∧ CfgAt W.heap.size (addC c x a cap) W
theorem own_set {w : World} {base n : Nat} {e : TypeId} {size : Nat} {v : Value} {xs : List Value} (h : w.ownsRow base e size v n xs) {p : Addr} (hp : p.block < base) (u : Value) : (w.setCell p u).ownsRow base e size v n xs := by
  refine ⟨h.1, ?_⟩
  rcases h.2 with h0 | ⟨g, cap, cur, hv, hg, hh, h1⟩
  · exact .inl h0
  · exact .inr ⟨g, cap, cur, hv, hg, (Below.heap_setCell w p u g (by omega)).trans hh, h1⟩
/-- Behind region 9. -/
theorem boxx_start {w w6 w9 : World} {c : Cfg} {x : WinR} {n6 n7 b7 : Nat} {a : Option Addr} {cap : Nat} (h : CfgAt w.heap.size c w) (hb6 : Boxed1 w c w6) (hw6 : Blk w6 n6 45 (winC x)) (hk : Below w6.heap.size w6 w9)
    (h7 : Blk w9 n7 29 (cfgC c)) (h67 : w6.heap.size ≤ n7) (hb7 : n7 < b7) (ho : w9.ownsRow b7 45 3 (.slice a (c.wins.l.length + 1) cap) (c.wins.l.length + 1) ((c.wins.l ++ [x]).flatMap winL)) :
    BoxX w c x a cap n6 n7 (w9.setCell ⟨n7, 2, none⟩ (.slice a (c.wins.l.length + 1) cap)) := by
  have hb9 := hb6.below hk
  have hz := hb6.2.lt
  have hzn := hw6.lt
  have hB : Boxed1 w c (w9.setCell ⟨n7, 2, none⟩ (.slice a (c.wins.l.length + 1) cap)) := ⟨hb9.1.setCell (p := ⟨n7, 2, none⟩) (by show w.heap.size ≤ n7; omega) _, hb9.2.far (p := ⟨n7, 2, none⟩) (by show w.heap.size ≠ n7; omega) _⟩
  refine ⟨hB, ?_, (hw6.below hk hzn).far (p := ⟨n7, 2, none⟩) (by show n6 ≠ n7; omega) _, ?_⟩
  · have := h7.set_ 2 (.slice a (c.wins.l.length + 1) cap)
    unfold addC cfgC
    unfold cfgC at this
    simpa using this
  · have ho2 := own_set ho (p := ⟨n7, 2, none⟩) hb7 (.slice a (c.wins.l.length + 1) cap)
    exact add_at (hB.cfg h) (add_row ho2 (by simp) (own_max ho2))
section
variable {w W W' : World} {c : Cfg} {x : WinR} {a : Option Addr} {cap n6 n7 : Nat}
theorem BoxX.below (h : BoxX w c x a cap n6 n7 W) (hb : Below W.heap.size W W') : BoxX w c x a cap n6 n7 W' :=
  ⟨h.1.below hb, h.2.1.below hb h.2.1.lt, h.2.2.1.below hb h.2.2.1.lt, CfgAt.more (h.2.2.2.below hb) hb.size⟩
theorem BoxX.drew (h : BoxX w c x a cap n6 n7 W) : BoxX w c x a cap n6 n7 W.drew := h.below (Below.refl _ _).drew
end
/-- What the calls of the last region answer. -/
theorem more_calls {c : Cfg} {g : Nat × Nat} {p : Nat} {a : Option Addr} {cap : Nat} (hok : c.Ok) (hsm : c.Small) (hr : rightB c = true) (hg : g ∈ gapsR c.frame (c.wins.l.map wsp)) (hp : p ∈ ids c.parts.l) (hp6 : p < 65536) (w : World) (h : CfgAt w.heap.size c w) (n6 n7 : Nat) :
    (∀ W, BoxX w c ⟨g.1, g.2, p⟩ a cap n6 n7 W → Calls Try.prog 10 #[cfgV (addC c ⟨g.1, g.2, p⟩ a cap)] W fun e w' => e = .returned (.agg (fltC (0, 0, 0))) ∧ Below W.heap.size W w') ∧
    (∃ n : Nat, (∀ W, BoxX w c ⟨g.1, g.2, p⟩ a cap n6 n7 W → Calls Try.prog 15 #[cfgV c, .int .u16 (p : Int)] W fun e w' => e = .returned (.int .u64 (n : Int)) ∧ Below W.heap.size W w') ∧
      (∀ W, BoxX w c ⟨g.1, g.2, p⟩ a cap n6 n7 W → Calls Try.prog 14 #[cfgV (addC c ⟨g.1, g.2, p⟩ a cap), .int .u16 (p : Int)] W fun e w' => e = .returned (.int .u64 (((n + g.2) % 18446744073709551616 : Nat) : Int)) ∧ Below W.heap.size W w')) ∧
    (∀ W, BoxX w c ⟨g.1, g.2, p⟩ a cap n6 n7 W → ∃ L : List WinR, L.length + 1 = (gapsR c.frame (c.wins.l.map wsp)).length ∧ Calls Try.prog 17 #[cfgV (addC c ⟨g.1, g.2, p⟩ a cap)] W (WinsV L W)) := by
  have hf := hok.frame
  have hgk := gapsR_ok c.frame (wins_ok hr hf) g hg
  have hx : (⟨g.1, g.2, p⟩ : WinR).Ok := ⟨by show g.1 < _; omega, by show g.2 < _; omega, hp6⟩
  have hok2 := add_ok (a := a) (cap := cap) hok hx
  have hsm2 := add_small (x := ⟨g.1, g.2, p⟩) (a := a) (cap := cap) hr
  have hfew := fill_few hr
  have hlen : (addC c ⟨g.1, g.2, p⟩ a cap).wins.l.length ≤ 1000 := by
    show (c.wins.l ++ [_]).length ≤ 1000
    rw [List.length_append, List.length_singleton]; omega
  have hsp : ∀ s ∈ (addC c ⟨g.1, g.2, p⟩ a cap).wins.l.map wsp, okSpan s := by
    intro s hs
    have hs' : s ∈ (c.wins.l ++ [(⟨g.1, g.2, p⟩ : WinR)]).map wsp := hs
    rw [List.map_append] at hs'
    rcases List.mem_append.1 hs' with hs | hs
    · exact wins_ok hr hf s hs
    · rw [List.map_singleton, List.mem_singleton] at hs
      subst hs
      unfold okSpan wsp
      simp only
      omega
  have hgl := add_gaps hr hg p
  have hgn := gaps_len c.frame hf (wins_ok hr hf)
  rw [List.length_map] at hgn
  refine ⟨fun W hW => ?_, ⟨usedL 0 c.frame (wo c.wins.l p), fun W hW => ?_, fun W hW => ?_⟩, fun W hW => ⟨(gapsR c.frame ((c.wins.l ++ [(⟨g.1, g.2, p⟩ : WinR)]).map wsp)).map idW, by rw [List.length_map]; exact hgl, ?_⟩⟩
  · have := FCheck_calls _ W hW.2.2.2 hok2 hsm2 hlen
    rw [add_right hr hf hg hp a cap] at this
    exact this
  · exact RBusy_calls c p W (hW.1.cfg h) hok hsm
  · have := Busy_calls _ p W hW.2.2.2 hsm2
    have e := add_busy c.wins.l ⟨g.1, g.2, p⟩ (by simp only; omega)
    rw [used_frame hf (wo_ok hr hf p), ← e]
    exact this
  · exact Idle_calls _ W hW.2.2.2 hok2 hlen hsp (by show (gapsR c.frame ((c.wins.l ++ [(⟨g.1, g.2, p⟩ : WinR)]).map wsp)).length ≤ 1000000; omega)
end Go.Proofs.Ythccadabblkalaa
