/- The maps of package uniq: add, find (chapter 13). -/
import Derived.Test.YthccadabblkalaaFrRef1
import Derived.Maps.OwnSet
import Derived.Maps.Views
import Derived.DeepKeys4
import Derived.MapViews
namespace Go.Proofs.Ythccadabblkalaa
open Go.RowKit Go.Sort Go.Maps Go.ChangeShapes Go.WideShapes Go.Joins
set_option linter.unusedVariables false

/-- What a map of identifiers reads as: each identifier's first place. -/
def MapU (ids : List Nat) (b : Nat) (W : World) : Prop :=
  ∃ D : DataW Unit, W.ownsMap Try.prog 38 (plainElem Try.prog 3) b ids.length D ∧
    ∀ k : Nat, k < 65536 → Maps.has D (.int .u16 (k : Int)) = decide (k ∈ ids) ∧ (k ∈ ids → D.atKey (.int .u16 (k : Int)) (.lit (.int .i64 0)) = .lit (.int .i64 (idxId ids k)))
theorem law16 : Keyed Try.prog 38 := int_keyed Try.underlying38
theorem zeroI (w : World) : (zeroValue 3).run Try.prog w = .ok (.int .i64 0) w := by kernel_rfl
theorem wf_u16 {k : Nat} (h : k < 65536) : (Lit.int .u16 (k : Int)).wf = true := by
  simp [Lit.wf, IntKind.min, IntKind.max, IntKind.signed, IntKind.bits]; omega
theorem key16 {k : Nat} (h : k < 65536) : keyOf Try.prog 38 (.int .u16 (k : Int)) = some (.int .u16 (k : Int)) := keyOf_int_mk Try.underlying38 (wf_u16 h)
theorem MapU.kept {ids : List Nat} {b : Nat} {W W' : World} {row : Option Nat} (h : MapU ids b W) (hg : W.grownBy W' row) (hne : some b ≠ row) : MapU ids b W' := by
  obtain ⟨D, h1, h2⟩ := h
  exact ⟨D, h1.kept hg hne, h2⟩
theorem MapU.alloc {ids : List Nat} {b : Nat} {W : World} (h : MapU ids b W) (o : Obj) : MapU ids b (W.alloc o) := h.kept (World.grownBy_alloc W o none) (by simp)
theorem MapU.made (w : World) : MapU [] w.heap.size (w.alloc (.map #[] 0)) :=
  ⟨.map [], World.ownsMap_made w _ _ _, fun k _ => ⟨by simp [Maps.has], fun h => by cases h⟩⟩
theorem idxId_snoc_mem {ids : List Nat} {k x : Nat} (h : x ∈ ids) : idxId (ids ++ [k]) x = idxId ids x := by
  have aux : ∀ (l : List Nat) (i : Nat), x ∈ l → idxFrom x (l ++ [k]) i = idxFrom x l i := by
    intro l
    induction l with
    | nil => intro i h; cases h
    | cons y l ih =>
      intro i h
      rw [List.cons_append, idxFrom, idxFrom]
      by_cases hy : y = x
      · rw [if_pos hy, if_pos hy]
      · rw [if_neg hy, if_neg hy]
        refine ih _ ?_
        rcases List.mem_cons.1 h with e | e
        · exact absurd e.symm hy
        · exact e
  exact aux ids 0 h
theorem idxId_snoc_new {ids : List Nat} {k : Nat} (h : k ∉ ids) : idxId (ids ++ [k]) k = (ids.length : Int) := by
  refine idxId_at (by simp) (fun j hj => ?_) (by simp)
  rw [List.getElem_append_left hj]
  intro e
  exact h (e ▸ List.getElem_mem _)
theorem idxId_not {ids : List Nat} {k : Nat} (h : k ∉ ids) : idxId ids k = -1 := idxFrom_no (fun x hx e => h (by rw [← e]; exact hx)) 0
set_option maxRecDepth 100000 in
set_option maxHeartbeats 1000000 in
theorem find_calls (ids : List Nat) (b k : Nat) (W : World) (h : MapU ids b W) (hk : k < 65536) :
    Calls Try.prog 54 #[.map (some b), .int .u16 (k : Int)] W fun e w' => e = .returned (.int .i64 (idxId ids k)) ∧ w' = W := by
  obtain ⟨D, hown, hD⟩ := h
  obtain ⟨hhas, hat0⟩ := hD k hk
  have HK := hide (key16 hk)
  have HOWN := hide hown
  have HH := hide hhas
  by_cases hm : k ∈ ids
  · have hh : decide (k ∈ ids) = true := by simpa using hm
    rw [hh] at HH
    have HA := hide (hat0 hm)
    clear hD hown hhas hat0 hk hh hm
    go_enter Try.func54, Try.ntmps54
    go_wp2_with (at_lookup; refine wpList_lookup_own_ok_int _ rfl _ _ 82 rfl 38 3 .i64 law16 Try.underlying82 Try.underlying3 (zeroI _) b ids.length D rfl HOWN.out _ _ rfl HK.out ?_; intro c hat hwc; rw [HH.out]; have HC := hide hat; clear hat)
    go_ret
    have e := HC.out.symm.trans HA.out
    injection e with e
    injection e with e e2
    exact ⟨ret_int e2, rfl⟩
  · have hh : decide (k ∈ ids) = false := by simpa using hm
    rw [hh] at HH
    have HA := hide (idxId_not hm)
    clear hD hown hhas hat0 hk hh hm
    go_enter Try.func54, Try.ntmps54
    go_wp2_with (at_lookup; refine wpList_lookup_own_ok_int _ rfl _ _ 82 rfl 38 3 .i64 law16 Try.underlying82 Try.underlying3 (zeroI _) b ids.length D rfl HOWN.out _ _ rfl HK.out ?_; intro c hat hwc; rw [HH.out]; have HC := hide hat; clear hat)
    go_ret
    exact ⟨ret_int HA.out.symm, rfl⟩
theorem wf_i64 {n : Nat} (h : n < 9223372036854775808) : (Lit.int .i64 (n : Int)).wf = true := by
  simp [Lit.wf, IntKind.min, IntKind.max, IntKind.signed, IntKind.bits]; omega
theorem isMap_own {H : Type} {P : Program} {k : TypeId} {R : Value → Option (DataW H × List MemPlace)} {w : World} {b n : Nat} {D : DataW H} (K : Keyed P k) (h : w.ownsMap P k R b n D) : IsMap D := (h.tidy K).isMap
set_option maxRecDepth 100000 in
set_option maxHeartbeats 2000000 in
theorem add_calls (ids : List Nat) (b k : Nat) (W : World) (h : MapU ids b W) (hk : k < 65536) (hl : ids.length ≤ 1048576) :
    Calls Try.prog 37 #[.map (some b), .int .u16 (k : Int), .int .i64 (ids.length : Int)] W fun e w' => e = .returned (.bool (!decide (k ∈ ids))) ∧ MapU (ids ++ [k]) b w' ∧ W.grownBy w' (some b) := by
  obtain ⟨D, hown, hD⟩ := h
  obtain ⟨hhas, hat0⟩ := hD k hk
  have HK := hide (key16 hk)
  have HOWN := hide hown
  have HH := hide hhas
  have HD := hide hD
  have hmap := isMap_own law16 hown
  by_cases hm : k ∈ ids
  · have hh : decide (k ∈ ids) = true := by simpa using hm
    rw [hh] at HH ⊢
    have HM := hide hm
    clear hD hown hhas hat0 hk hh hm hmap
    obtain ⟨n, hn⟩ : ∃ n, n = ids.length := ⟨_, rfl⟩
    have HN := hide hn
    rw [← hn] at HOWN hl ⊢
    clear hn
    go_enter Try.func37, Try.ntmps37
    go_wp2_with (at_lookup; refine wpList_lookup_own_ok_int _ rfl _ _ 82 rfl 38 3 .i64 law16 Try.underlying82 Try.underlying3 (zeroI _) b n D rfl HOWN.out _ _ rfl HK.out ?_; intro c hat hwc; rw [HH.out]; clear hat)
    go_ret
    refine ⟨rfl, ⟨D, ?_, fun j hj => ?_⟩, ⟨rfl, rfl, rfl, Nat.le_refl _, fun _ _ _ => rfl⟩⟩
    · rw [List.length_append, ← HN.out]; exact HOWN.out.mono (by simp)
    · obtain ⟨e1, e2⟩ := HD.out j hj
      have hiff : (j ∈ ids ++ [k]) ↔ j ∈ ids := by
        rw [List.mem_append, List.mem_singleton]
        exact ⟨fun h => h.elim id (fun e => e ▸ HM.out), .inl⟩
      refine ⟨by rw [e1]; simp only [hiff], fun h => ?_⟩
      rw [e2 (hiff.1 h), idxId_snoc_mem (hiff.1 h)]
  · have hh : decide (k ∈ ids) = false := by simpa using hm
    rw [hh] at HH ⊢
    have HM := hide hm
    have HMP := hide hmap
    clear hD hown hhas hat0 hk hh hm hmap
    obtain ⟨n, hn⟩ : ∃ n, n = ids.length := ⟨_, rfl⟩
    have HN := hide hn
    rw [← hn] at HOWN hl ⊢
    clear hn
    go_enter Try.func37, Try.ntmps37
    go_wp2_with (first
      | (at_lookup; refine wpList_lookup_own_ok_int _ rfl _ _ 82 rfl 38 3 .i64 law16 Try.underlying82 Try.underlying3 (zeroI _) b n D rfl HOWN.out _ _ rfl HK.out ?_; intro c hat hwc; rw [HH.out]; clear hat)
      | (at_mapUpdate; refine wpList_mapUpdate_own _ rfl _ _ _ 82 rfl 38 3 law16 Try.underlying82 _ b n D rfl HOWN.out (by simp only [maxLen]; omega) _ _ _ rfl rfl HK.out (.lit (.int .i64 (n : Int))) [] (plainElem_int Try.underlying3 (wf_i64 (by omega))) ?_; intro w1 hown1 hgrow1; have HO1 := hide hown1; have HG1 := hide hgrow1; clear hown1 hgrow1))
    go_ret
    refine ⟨rfl, ⟨D.put (.int .u16 (k : Int)) (.lit (.int .i64 (n : Int))), ?_, fun j hj => ?_⟩, HG1.out⟩
    · rw [List.length_append, ← HN.out]; exact HO1.out
    · obtain ⟨e1, e2⟩ := HD.out j hj
      by_cases hjk : j = k
      · subst hjk
        refine ⟨by rw [has_put_same HMP.out (k := .int .u16 (j : Int)) trivial]; simp, fun _ => ?_⟩
        rw [atKey_put_same HMP.out (k := .int .u16 (j : Int)) trivial, idxId_snoc_new HM.out, HN.out]
      · have hne : (Lit.int .u16 (j : Int)) ≠ Lit.int .u16 (k : Int) := by
          intro e
          injection e with _ e
          exact hjk (by omega)
        have hiff : (j ∈ ids ++ [k]) ↔ j ∈ ids := by
          rw [List.mem_append, List.mem_singleton]
          exact ⟨fun h => h.elim id (fun e => absurd e hjk), .inl⟩
        refine ⟨by rw [has_put_other hne, e1]; simp only [hiff], fun h => ?_⟩
        rw [atKey_put_other hne, e2 (hiff.1 h), idxId_snoc_mem (hiff.1 h)]
end Go.Proofs.Ythccadabblkalaa
