/- The walk of the law NameSorts (chapter 04). -/
import Derived.Test.YtgjdhndlbhbjhaaGreatNsPlain
import Derived.Test.YtgjdhndlbhbjhaaGreatNsOpen
import Derived.WalkLawsBesides
import Derived.BigGuardPart
namespace Go.Proofs.YtgjdhndlbhbjhaaGreat
open Go.RowKit Go.Sort
set_option linter.unusedVariables false

set_option maxRecDepth 100000 in
set_option maxHeartbeats 1000000 in
theorem own_none (w : World) (c : Nat) : (Builtin.append_ #[22, 22] 22 #[.slice (some ⟨w.heap.size, 0, none⟩) 0 0, .slice none 0 c]).run Tryz.prog (w.alloc (.cells #[] 9)) = .ok (.slice (some ⟨w.heap.size, 0, none⟩) 0 0) (w.alloc (.cells #[] 9)) := by
  have u := run_underlying (P := Tryz.prog) Tryz.underlying22
  simp [Builtin.append_, go_sem, u, storeCells, Sem.run_pure]
theorem wpList_append_run {P : Program} {ops : Array Oper} {rest : List Oper} {o : Oper} {a : Act} {w : World} {Q : Exit → Act → World → Prop} (hgd : o.guard = none) (s x : Operand) (t : TypeId)
    (ho : o.op = .call { callee := .builtin .append, args := #[s, x], argTypes := #[t, t] }) (v u v' : Value) (w' : World) (hs : a.eval s = v) (hx : a.eval x = u)
    (hr : (Builtin.append_ #[t, t] o.type #[v, u]).run P w = .ok v' w') (h : wpList P ops Q rest (a.put o.dst v') w') : wpList P ops Q (o :: rest) a w := by
  refine wpList_plain hgd fun K hK => ?_
  unfold Oper.wp execOp
  simp only [ho, resolve, invoke, builtin, Sem.run_bind, Sem.run_pure, Result.andThen_ok, List.map_toArray, List.map_cons, List.map_nil, hs, hx, hr]
  exact hK _ _ h
/-- A copy of the strings, of the call's own. -/
def OwnAt (w : World) (l : List (List UInt8)) (g cap : Nat) (W : World) : Prop :=
  Below w.heap.size w W ∧ w.heap.size ≤ g ∧ g < W.heap.size ∧ l.length ≤ cap ∧ ∀ j, (h : j < l.length) → W.cell? ⟨g, j, none⟩ = some (encStr l[j])
theorem OwnAt.below {w W W' : World} {l : List (List UInt8)} {g cap : Nat} (h : OwnAt w l g cap W) (hb : Below W.heap.size W W') : OwnAt w l g cap W' :=
  ⟨h.1.trans (hb.mono h.1.size), h.2.1, Nat.lt_of_lt_of_le h.2.2.1 hb.size, h.2.2.2.1, fun j hj => (hb.cell (p := ⟨g, j, none⟩) h.2.2.1).trans (h.2.2.2.2 j hj)⟩
theorem st_info : (Tryz.prog.info? 9).map (fun i => (i.zero, i.size, i.bytes)) = some (some (.string ⟨#[]⟩), 1, 16) := by kernel_rfl
set_option maxRecDepth 100000 in
theorem own_append (l : List (List UInt8)) (A : Option Addr) (c : Nat) (w : World) (h : StArg w.heap.size A c l w) (hl : l.length ≤ 1000) :
    ∃ g cap W, (Builtin.append_ #[22, 22] 22 #[.slice (some ⟨w.heap.size, 0, none⟩) 0 0, .slice A l.length c]).run Tryz.prog (w.alloc (.cells #[] 9)) = .ok (.slice (some ⟨g, 0, none⟩) l.length cap) W ∧ OwnAt w l g cap W := by
  cases A with
  | none =>
    have h0 : l = [] := by
      rcases Nat.eq_zero_or_pos l.length with h0 | h0
      · exact List.eq_nil_of_length_eq_zero h0
      · obtain ⟨ad, e, _⟩ := h.1.2 h0
        cases e
    subst h0
    exact ⟨w.heap.size, 0, _, own_none w c, (Below.refl _ _).alloc (Nat.le_refl _) _, Nat.le_refl _, by simp, Nat.le_refl _, fun j hj => absurd hj (by simp)⟩
  | some ad =>
    obtain ⟨i0, hi, hz0, hz1, hz2⟩ := info_parts st_info
    have hB := (Below.refl w.heap.size w).alloc (Nat.le_refl _) (.cells #[] 9)
    have hown : (w.alloc (.cells #[] 9)).ownsRow w.heap.size 9 1 (.slice (some ⟨w.heap.size, 0, none⟩) 0 0) 0 [] :=
      ⟨rfl, .inr ⟨w.heap.size, 0, #[], rfl, Nat.le_refl _, World.alloc_heap_new _ _, Nat.le_refl _, Nat.zero_le _, rfl, rfl⟩⟩
    obtain ⟨v', W, hr, ho, hg, hn, hat⟩ := run_append_own_at (P := Tryz.prog) (w.alloc (.cells #[] 9)) w.heap.size 22 22 9 i0 _ 1 16 Tryz.underlying22 hi hz0 hz1 hz2 rfl (by decide) (.slice (some ⟨w.heap.size, 0, none⟩) 0 0) 0 [] hown ad l.length c (l.map encStr) (by simp)
      (fun j u hu => by
        have hj : j < l.length := by have := (List.getElem?_eq_some_iff.1 hu).1; simpa using this
        have := (h.below hB).1.2 (by omega)
        obtain ⟨ad', e, _, hc⟩ := this
        injection e with e
        subst e
        exact hc j u hu)
      (fun u hu => by obtain ⟨x, _, rfl⟩ := List.mem_map.1 hu; rfl) (by simp only [maxLen]; omega) (by omega) (by simp)
    have e0 : 0 + l.length = l.length := by omega
    rcases ho.2 with ⟨rfl, _⟩ | ⟨g, cap, cur, rfl, hbs, hgb, h1, h2, h3, h4⟩
    · exact absurd (hn.1 rfl).1 (by simp)
    · have hgb' : Blk W g 9 cur := hgb
      have hbw : Below w.heap.size w W := hB.grown hg (by simp) (fun r hr => by
        have : w.heap.size = r := by simpa [Value.ownBlock] using hr
        omega)
      refine ⟨g, cap, W, by rw [hr, e0], hbw, hbs, hgb'.lt, by omega, fun j hj => ?_⟩
      have e := congrArg (·[j]?) h4
      simp only [List.nil_append, List.getElem?_map] at e
      rw [List.getElem?_take, if_pos (by omega), List.getElem?_eq_getElem hj] at e
      rw [hgb'.cell, ← Array.getElem?_toList]
      exact e
def mkS (x : List UInt8) : ByteArray := ⟨x.toArray⟩
theorem mkS_inj {x y : List UInt8} (h : mkS x = mkS y) : x = y := by
  unfold mkS at h
  injection h with h
  simpa using h
def ctn (l : List (List UInt8)) (x : List UInt8) : Bool := Lib.containsS ((l.map mkS).take l.length) (mkS x)
theorem ctn_mem {l : List (List UInt8)} {x : List UInt8} (h : x ∈ l) : ctn l x = true := by
  unfold ctn
  rw [Lib.containsS_iff, List.take_of_length_le (by simp)]
  exact List.mem_map_of_mem h
theorem Contains_cells (l : List (List UInt8)) (b o c : Nat) (x : List UInt8) (w : World) (hc : ∀ j, (h : j < l.length) → w.cell? ⟨b, o + j, none⟩ = some (encStr l[j])) (hl : l.length ≤ 1000) :
    Calls Tryz.prog 6 #[.slice (some ⟨b, o, none⟩) l.length c, .string (mkS x)] w fun e w' => e = .returned (.bool (ctn l x)) ∧ w' = w :=
  Tryz.slices_Contains_string b o l.length c (l.map mkS) (mkS x) w (by simp) (by omega) (fun j hj => by
    have hj' : j < l.length := by simpa using hj
    rw [hc j hj']
    rw [List.getD_eq_getElem?_getD, List.getElem?_map, List.getElem?_eq_getElem hj']; rfl)
theorem st_plain (b o j : Nat) : (⟨b, o, none⟩ : Addr).add j = ⟨b, o + j, none⟩ := by
  unfold Addr.add
  by_cases h : j = 0
  · subst h; simp
  · simp [h]
theorem st_addr {w : World} {a : Addr} {v : Value} (h : w.cell? a = some v) : a = ⟨a.block, a.off, none⟩ := by
  obtain ⟨b, o, p⟩ := a
  cases p with
  | none => rfl
  | some p =>
    simp [World.cell?] at h
    split at h <;> cases h
theorem st_at {B c : Nat} {A : Option Addr} {l : List (List UInt8)} {w : World} (h : StArg B A c l w) (h0 : 0 < l.length) :
    ∃ b o, A = some ⟨b, o, none⟩ ∧ b < B ∧ ∀ j, (hj : j < l.length) → w.cell? ⟨b, o + j, none⟩ = some (.string (mkS l[j])) := by
  obtain ⟨ad, e, hb, hc⟩ := h.1.2 h0
  have get : ∀ j, (hj : j < l.length) → w.cell? (ad.add j) = some (.string (mkS l[j])) := fun j hj => hc j _ (by rw [List.getElem?_map, List.getElem?_eq_getElem hj]; rfl)
  have hz := st_addr (get 0 h0)
  obtain ⟨b, o, p⟩ := ad
  have hp : p = none := by
    have := congrArg Addr.spot hz
    simpa [Addr.add] using this
  subst hp
  exact ⟨b, o, e, hb, fun j hj => by rw [← st_plain]; exact get j hj⟩
theorem Contains_arg (l : List (List UInt8)) (B c : Nat) (A : Option Addr) (x : List UInt8) (w : World) (h : StArg B A c l w) (hx : x ∈ l) (hl : l.length ≤ 1000) :
    Calls Tryz.prog 6 #[.slice A l.length c, .string (mkS x)] w fun e w' => e = .returned (.bool true) ∧ w' = w := by
  obtain ⟨b, o, rfl, _, hc⟩ := st_at h (List.length_pos_of_mem hx)
  rw [← ctn_mem hx]
  exact Contains_cells l b o c x w hc hl
theorem Equal_args (l : List (List UInt8)) (B B2 c c2 : Nat) (A A2 : Option Addr) (w : World) (h : StArg B A c l w) (h2 : StArg B2 A2 c2 l w) (hl : l.length ≤ 1000) :
    Calls Tryz.prog 7 #[.slice A l.length c, .slice A2 l.length c2] w fun e w' => e = .returned (.bool true) ∧ Below w.heap.size w w' := by
  rcases Nat.eq_zero_or_pos l.length with h0 | h0
  · rw [h0]
    refine (Tryz.slices_Equal_string_empty A A2 c 0 c2 w (by omega)).mono ?_
    rintro e w' ⟨rfl, rfl⟩
    exact ⟨rfl, Below.refl _ _⟩
  · obtain ⟨b, o, rfl, _, hc⟩ := st_at h h0
    obtain ⟨b2, o2, rfl, _, hc2⟩ := st_at h2 h0
    have get : ∀ b o, (∀ j, (hj : j < l.length) → w.cell? ⟨b, o + j, none⟩ = some (.string (mkS l[j]))) → ∀ j, j < (l.map mkS).length → w.cell? ⟨b, o + j, none⟩ = some (.string ((l.map mkS).getD j ByteArray.empty)) := fun b o hc j hj => by
      have hj' : j < l.length := by simpa using hj
      rw [hc j hj', List.getD_eq_getElem?_getD, List.getElem?_map, List.getElem?_eq_getElem hj']; rfl
    refine (Tryz.slices_Equal_string b o l.length c b2 o2 l.length c2 (l.map mkS) (l.map mkS) w (by simp) (by simp) (by omega) (by omega) (get b o hc) (get b2 o2 hc2)).mono ?_
    rintro e w' ⟨rfl, q, rfl⟩
    exact ⟨by simp, below_drewN (Below.refl _ _) q⟩
theorem OwnAt.arg {w W : World} {l : List (List UInt8)} {g cap : Nat} (h : OwnAt w l g cap W) : StArg W.heap.size (some ⟨g, 0, none⟩) cap l W :=
  ⟨⟨by simp, fun _ => ⟨_, rfl, h.2.2.1, fun j u hu => by
    have hj : j < l.length := by have := (List.getElem?_eq_some_iff.1 hu).1; simpa using this
    rw [List.getElem?_map, List.getElem?_eq_getElem hj] at hu
    injection hu with hu
    subst hu
    rw [st_plain, Nat.zero_add]
    exact h.2.2.2.2 j hj⟩⟩, h.2.2.2.1⟩
/-- name.Sort on a copy of the call's own. -/
theorem Sort_own (l : List (List UInt8)) (w W : World) (g cap : Nat) (h : OwnAt w l g cap W) (hl : l.length ≤ 1000) :
    Calls Tryz.prog 5 #[.slice (some ⟨g, 0, none⟩) l.length cap] W fun e w' => ∃ X c2, e = .returned (.slice X (sortR l).length c2) ∧ StArg w'.heap.size X c2 (sortR l) w' ∧ Below W.heap.size W w' := by
  refine (Sort_calls l g 0 cap W h.2.2.1 (fun j hj => by rw [Nat.zero_add]; exact h.2.2.2.2 j hj) h.2.2.2.1 (by omega)).mono ?_
  rintro e w' ⟨hb, (⟨rfl, rfl⟩ | ⟨g2, c2, rfl, h1, h2, h3, h4⟩)⟩
  · have e0 : sortR [] = [] := by simp [sortR, Lib.compact, Lib.compactUpTo]
    rw [e0]
    exact ⟨none, 0, rfl, ⟨Reads.none_, Nat.le_refl _⟩, hb⟩
  · refine ⟨_, c2, rfl, ⟨⟨by simp, fun _ => ⟨_, rfl, h3, fun j u hu => ?_⟩⟩, h1⟩, hb⟩
    have hj : j < (sortR l).length := by have := (List.getElem?_eq_some_iff.1 hu).1; simpa using this
    rw [List.getElem?_map, List.getElem?_eq_getElem hj] at hu
    injection hu with hu
    subst hu
    rw [st_plain, Nat.zero_add]
    exact h4 j hj
theorem leq_no {x y : List UInt8} (h : x < y) : Op.bytesLess (mkS y).toList (mkS x).toList = false ∧ ((mkS y).toList == (mkS x).toList) = false := by
  have e : ∀ z : List UInt8, (mkS z).toList = z := fun z => by rw [Lib.toList_data]; simp [mkS]
  rw [e, e, bytesLess_eq]
  have hne : ¬ y < x := fun h2 => absurd (Std.lt_trans h h2) (Std.lt_irrefl)
  refine ⟨by simpa using hne, ?_⟩
  rw [beq_eq_false_iff_ne]
  rintro rfl
  exact Std.lt_irrefl h
theorem sortR_lt (l : List (List UInt8)) (k : Nat) (h : k + 1 < (sortR l).length) : (sortR l)[k] < (sortR l)[k + 1] :=
  List.pairwise_iff_getElem.1 (sortR_asc l) k (k + 1) (by omega) h (by omega)
theorem sortR_len (l : List (List UInt8)) : (sortR l).length ≤ l.length := by
  have := Lib.compact_length_le (l.mergeSort leS)
  rwa [List.length_mergeSort] at this
set_option maxRecDepth 100000 in
set_option maxHeartbeats 8000000 in
theorem NameSorts_calls (l : List (List UInt8)) (A : Option Addr) (c : Nat) (w : World) (h : StArg w.heap.size A c l w) (hlm : l.length ≤ 9223372036854775807) :
    Calls Tryz.prog 3 #[.slice A l.length c] w fun e w' => e = .returned (.bool true) ∧ Below w.heap.size w w' := by
  have HAL := hide (fun W => alive_calls W)
  by_cases hn : (l.length : Int) ≤ 100
  · obtain ⟨g, cap, W1, hap, hown⟩ := own_append l A c w h (by omega)
    have HAP := hide hap
    have HO1 := hide hown
    have HS := hide (Sort_own l w W1 g cap hown (by omega))
    have HC := hide (fun B A c x w h hx => Contains_arg l B c A x w h hx (by omega))
    have HC2 := hide (fun B A c x w h hx => Contains_arg (sortR l) B c A x w h hx (by have := sortR_len l; omega))
    have HE := hide (fun B B2 c c2 A A2 w h h2 => Equal_args l B B2 c c2 A A2 w h h2 (by omega))
    have HH := hide h
    have hm := sortR_len l
    have HLT : Hid (∀ k x y, (sortR l)[k]? = some x → (sortR l)[k + 1]? = some y → x < y) := hide (fun k x y hx hy => by
      obtain ⟨h1, rfl⟩ := List.getElem?_eq_some_iff.1 hx
      obtain ⟨h2, rfl⟩ := List.getElem?_eq_some_iff.1 hy
      exact sortR_lt l k h2)
    have HM := hide (sortR_mem l)
    generalize sortR l = r at *
    obtain ⟨n, hnn⟩ : ∃ n, n = l.length := ⟨_, rfl⟩
    obtain ⟨m, hmm⟩ : ∃ m, m = r.length := ⟨_, rfl⟩
    have hmn : m ≤ 100 := by omega
    have hnn2 : n ≤ 100 := by omega
    have HN := hide hnn
    have HMM := hide hmm
    rw [← hnn] at HAP HS HC HE hn ⊢
    rw [← hmm] at HS HC2
    clear hap hown h hm hlm hmm hnn
    go_enter Tryz.func3, Tryz.ntmps3
    go_wp2_with (first
      | (at_builtin; refine wpList_append_run rfl (.tmp 13) (.tmp 14) 22 rfl _ _ _ _ rfl rfl HAP.out ?_)
      | (go_at_call 5; refine HS.out.mono ?_; rintro e w2 ⟨X, c2, rfl, hst, hb⟩; have HX := hide hst; have HB2 := hide (HO1.out.1.trans (hb.mono HO1.out.1.size)); have HO2 := hide (HO1.out.below hb); clear hst hb))
    go_loop [20] (fun v => ∃ k : Nat, k ≤ m ∧ v = .int .i64 (k : Int)) (fun v => m - (intOf v).toNat)
    case atStart => exact ⟨0, Nat.zero_le _, rfl⟩
    case round =>
      obtain ⟨k, hk, rfl⟩ := hrel
      by_cases hlt : k < m
      · have hlt2 : (k : Int) < (m : Int) := by omega
        have hkr : k < r.length := by have := HMM.out; omega
        obtain ⟨b, o, rfl, hab, hcx⟩ := st_at HX.out (by omega)
        have x0 := hcx k hkr
        have HCX := hide (HC.out _ _ _ r[k] w2 (HH.out.below HB2.out) ((HM.out _).1 (List.getElem_mem _)))
        rcases Nat.eq_zero_or_pos k with h0 | h0
        · have t0 : decide ((0 : Int) < (k : Int)) = false := by simp; omega
          have t1 : decide (0 < k) = false := by simp; omega
          generalize r[k] = x at *
          clear hcx h0
          go_wp2_with (go_at_call 6; refine HCX.out.mono ?_; rintro e w3 ⟨rfl, rfl⟩)
          go_round
          case rel => exact ⟨k + 1, by omega, by go_num⟩
          case measure => simp [intOf]; omega
        · obtain ⟨k, rfl⟩ : ∃ j, k = j + 1 := ⟨k - 1, by omega⟩
          have x1 := hcx k (by omega)
          obtain ⟨l1, l2⟩ := leq_no (HLT.out k r[k] r[k + 1] (List.getElem?_eq_getElem _) (List.getElem?_eq_getElem _))
          generalize r[k + 1] = x at *
          generalize r[k] = y at *
          clear hcx h0
          go_wp2_with (go_at_call 6; refine HCX.out.mono ?_; rintro e w3 ⟨rfl, rfl⟩)
          go_round
          case rel => exact ⟨k + 1 + 1, by omega, by go_num⟩
          case measure => simp [intOf]; omega
      · have hkm : k = m := by omega
        subst hkm
        clear hlt hk
        go_wp2
        go_loop [45] (fun v => ∃ j : Nat, j ≤ n ∧ v = .int .i64 (j : Int)) (fun v => n - (intOf v).toNat)
        case atStart => exact ⟨0, Nat.zero_le _, rfl⟩
        case round =>
          obtain ⟨j, hj, rfl⟩ := hrel
          by_cases hlt : j < n
          · have hlt2 : (j : Int) < (n : Int) := by omega
            have hjl : j < l.length := by have := HN.out; omega
            obtain ⟨b, o, rfl, hab, hcx⟩ := st_at (HH.out.below HB2.out) (by omega)
            have x0 := hcx j hjl
            have HCX := hide (HC2.out _ _ _ l[j] w2 HX.out ((HM.out _).2 (List.getElem_mem _)))
            generalize l[j] = x at *
            clear hcx
            go_wp2_with (go_at_call 6; refine HCX.out.mono ?_; rintro e w3 ⟨rfl, rfl⟩)
            go_round
            case rel => exact ⟨j + 1, by omega, by go_num⟩
            case measure => simp [intOf]; omega
          · have hjn : j = n := by omega
            subst hjn
            clear hlt hj
            go_wp2_with (first
              | (go_at_call 4; refine (HAL.out _).mono ?_; rintro e w4 ⟨rfl, hb⟩; have HB4 := hide (HB2.out.trans (hb.mono HB2.out.size)); have HE4 := hide (HE.out _ _ _ _ _ _ w4 (HO2.out.below hb).arg (HH.out.below HB4.out)); clear hb)
              | (go_at_call 7; refine HE4.out.mono ?_; rintro e w5 ⟨rfl, hb⟩; have HB5 := hide (HB4.out.trans (hb.mono HB4.out.size)); clear hb))
            go_ret
            exact ⟨rfl, HB5.out⟩
  · generalize l.length = n at *
    go_enter Tryz.func3, Tryz.ntmps3
    go_wp2_with (go_at_call 4; refine (HAL.out _).mono ?_; rintro e w2 ⟨rfl, hb⟩; have HB := hide hb; clear hb)
    go_ret
    exact ⟨rfl, HB.out⟩
end Go.Proofs.YtgjdhndlbhbjhaaGreat
