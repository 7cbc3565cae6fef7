/- The maps of package uniq: add, find (chapter 13). uniq.collect at its four instances, uniq.New, (*Index).Partition (chapter 13). Written by tools/gencollect.py. uniq.collect at ports' names, uniq.New, (*Index).Partition (chapter 13). uniq.New, (*Index).Partition (chapter 13). -/
import Derived.Test.YthccadabblkalaaGreatFrRef1
import Derived.Maps.OwnSet
import Derived.Maps.Views
import Derived.DeepKeys4
import Derived.MapViews
import Derived.Laws.EntriesVeiled
import Derived.Test.YthccadabblkalaaGreatFrRef3
import Derived.StillTailTactics
namespace Go.Proofs.YthccadabblkalaaGreat
open Go.RowKit Go.Sort Go.Maps Go.ChangeShapes Go.WideShapes Go.Joins
set_option linter.unusedVariables false

/-- What a map of identifiers reads as: each identifier's first place. -/
def MapU (ids : List Nat) (b : Nat) (W : World) : Prop :=
  ∃ D : DataW Unit, W.ownsMap Tryz.prog 34 (plainElem Tryz.prog 3) b ids.length D ∧
    ∀ k : Nat, k < 65536 → Maps.has D (.int .u16 (k : Int)) = decide (k ∈ ids) ∧ (k ∈ ids → D.atKey (.int .u16 (k : Int)) (.lit (.int .i64 0)) = .lit (.int .i64 (idxId ids k)))
theorem law16 : Keyed Tryz.prog 34 := int_keyed Tryz.underlying34
theorem zeroI (w : World) : (zeroValue 3).run Tryz.prog w = .ok (.int .i64 0) w := by kernel_rfl
theorem wf_u16 {k : Nat} (h : k < 65536) : (Lit.int .u16 (k : Int)).wf = true := by
  simp [Lit.wf, IntKind.min, IntKind.max, IntKind.signed, IntKind.bits]; omega
theorem key16 {k : Nat} (h : k < 65536) : keyOf Tryz.prog 34 (.int .u16 (k : Int)) = some (.int .u16 (k : Int)) := keyOf_int_mk Tryz.underlying34 (wf_u16 h)
theorem MapU.kept {ids : List Nat} {b : Nat} {W W' : World} {row : Option Nat} (h : MapU ids b W) (hg : W.grownBy W' row) (hne : some b ≠ row) : MapU ids b W' := by
  obtain ⟨D, h1, h2⟩ := h
  exact ⟨D, h1.kept hg hne, h2⟩
theorem MapU.alloc {ids : List Nat} {b : Nat} {W : World} (h : MapU ids b W) (o : Obj) : MapU ids b (W.alloc o) := h.kept (World.grownBy_alloc W o none) (by simp)
theorem MapU.made (w : World) : MapU [] w.heap.size (w.alloc (.map #[] 0)) :=
  ⟨.map [], World.ownsMap_made w _ _ _, fun k _ => ⟨by simp [Maps.has], fun h => by cases h⟩⟩
theorem idxId_snoc_mem {ids : List Nat} {k x : Nat} (h : x ∈ ids) : idxId (ids ++ [k]) x = idxId ids x := by
  have aux : ∀ (l : List Nat) (i : Nat), x ∈ l → idxFrom x (l ++ [k]) i = idxFrom x l i := by
    intro l
    induction l with
    | nil => intro i h; cases h
    | cons y l ih =>
      intro i h
      rw [List.cons_append, idxFrom, idxFrom]
      by_cases hy : y = x
      · rw [if_pos hy, if_pos hy]
      · rw [if_neg hy, if_neg hy]
        refine ih _ ?_
        rcases List.mem_cons.1 h with e | e
        · exact absurd e.symm hy
        · exact e
  exact aux ids 0 h
theorem idxId_snoc_new {ids : List Nat} {k : Nat} (h : k ∉ ids) : idxId (ids ++ [k]) k = (ids.length : Int) := by
  refine idxId_at (by simp) (fun j hj => ?_) (by simp)
  rw [List.getElem_append_left hj]
  intro e
  exact h (e ▸ List.getElem_mem _)
theorem idxId_not {ids : List Nat} {k : Nat} (h : k ∉ ids) : idxId ids k = -1 := idxFrom_no (fun x hx e => h (by rw [← e]; exact hx)) 0
set_option maxRecDepth 100000 in
set_option maxHeartbeats 1000000 in
theorem find_calls (ids : List Nat) (b k : Nat) (W : World) (h : MapU ids b W) (hk : k < 65536) :
    Calls Tryz.prog 67 #[.map (some b), .int .u16 (k : Int)] W fun e w' => e = .returned (.int .i64 (idxId ids k)) ∧ w' = W := by
  obtain ⟨D, hown, hD⟩ := h
  obtain ⟨hhas, hat0⟩ := hD k hk
  have HK := hide (key16 hk)
  have HOWN := hide hown
  have HH := hide hhas
  by_cases hm : k ∈ ids
  · have hh : decide (k ∈ ids) = true := by simpa using hm
    rw [hh] at HH
    have HA := hide (hat0 hm)
    clear hD hown hhas hat0 hk hh hm
    go_enter Tryz.func67, Tryz.ntmps67
    go_wp2_with (at_lookup; refine wpList_lookup_own_ok_int _ rfl _ _ 93 rfl 34 3 .i64 law16 Tryz.underlying93 Tryz.underlying3 (zeroI _) b ids.length D rfl HOWN.out _ _ rfl HK.out ?_; intro c hat hwc; rw [HH.out]; have HC := hide hat; clear hat)
    go_ret
    have e := HC.out.symm.trans HA.out
    injection e with e
    injection e with e e2
    exact ⟨ret_int e2, rfl⟩
  · have hh : decide (k ∈ ids) = false := by simpa using hm
    rw [hh] at HH
    have HA := hide (idxId_not hm)
    clear hD hown hhas hat0 hk hh hm
    go_enter Tryz.func67, Tryz.ntmps67
    go_wp2_with (at_lookup; refine wpList_lookup_own_ok_int _ rfl _ _ 93 rfl 34 3 .i64 law16 Tryz.underlying93 Tryz.underlying3 (zeroI _) b ids.length D rfl HOWN.out _ _ rfl HK.out ?_; intro c hat hwc; rw [HH.out]; have HC := hide hat; clear hat)
    go_ret
    exact ⟨ret_int HA.out.symm, rfl⟩
theorem wf_i64 {n : Nat} (h : n < 9223372036854775808) : (Lit.int .i64 (n : Int)).wf = true := by
  simp [Lit.wf, IntKind.min, IntKind.max, IntKind.signed, IntKind.bits]; omega
theorem isMap_own {H : Type} {P : Program} {k : TypeId} {R : Value → Option (DataW H × List MemPlace)} {w : World} {b n : Nat} {D : DataW H} (K : Keyed P k) (h : w.ownsMap P k R b n D) : IsMap D := (h.tidy K).isMap
set_option maxRecDepth 100000 in
set_option maxHeartbeats 2000000 in
theorem add_calls (ids : List Nat) (b k : Nat) (W : World) (h : MapU ids b W) (hk : k < 65536) (hl : ids.length ≤ 1048576) :
    Calls Tryz.prog 43 #[.map (some b), .int .u16 (k : Int), .int .i64 (ids.length : Int)] W fun e w' => e = .returned (.bool (!decide (k ∈ ids))) ∧ MapU (ids ++ [k]) b w' ∧ W.grownBy w' (some b) := by
  obtain ⟨D, hown, hD⟩ := h
  obtain ⟨hhas, hat0⟩ := hD k hk
  have HK := hide (key16 hk)
  have HOWN := hide hown
  have HH := hide hhas
  have HD := hide hD
  have hmap := isMap_own law16 hown
  by_cases hm : k ∈ ids
  · have hh : decide (k ∈ ids) = true := by simpa using hm
    rw [hh] at HH ⊢
    have HM := hide hm
    clear hD hown hhas hat0 hk hh hm hmap
    obtain ⟨n, hn⟩ : ∃ n, n = ids.length := ⟨_, rfl⟩
    have HN := hide hn
    rw [← hn] at HOWN hl ⊢
    clear hn
    go_enter Tryz.func43, Tryz.ntmps43
    go_wp2_with (at_lookup; refine wpList_lookup_own_ok_int _ rfl _ _ 93 rfl 34 3 .i64 law16 Tryz.underlying93 Tryz.underlying3 (zeroI _) b n D rfl HOWN.out _ _ rfl HK.out ?_; intro c hat hwc; rw [HH.out]; clear hat)
    go_ret
    refine ⟨rfl, ⟨D, ?_, fun j hj => ?_⟩, ⟨rfl, rfl, rfl, Nat.le_refl _, fun _ _ _ => rfl⟩⟩
    · rw [List.length_append, ← HN.out]; exact HOWN.out.mono (by simp)
    · obtain ⟨e1, e2⟩ := HD.out j hj
      have hiff : (j ∈ ids ++ [k]) ↔ j ∈ ids := by
        rw [List.mem_append, List.mem_singleton]
        exact ⟨fun h => h.elim id (fun e => e ▸ HM.out), .inl⟩
      refine ⟨by rw [e1]; simp only [hiff], fun h => ?_⟩
      rw [e2 (hiff.1 h), idxId_snoc_mem (hiff.1 h)]
  · have hh : decide (k ∈ ids) = false := by simpa using hm
    rw [hh] at HH ⊢
    have HM := hide hm
    have HMP := hide hmap
    clear hD hown hhas hat0 hk hh hm hmap
    obtain ⟨n, hn⟩ : ∃ n, n = ids.length := ⟨_, rfl⟩
    have HN := hide hn
    rw [← hn] at HOWN hl ⊢
    clear hn
    go_enter Tryz.func43, Tryz.ntmps43
    go_wp2_with (first
      | (at_lookup; refine wpList_lookup_own_ok_int _ rfl _ _ 93 rfl 34 3 .i64 law16 Tryz.underlying93 Tryz.underlying3 (zeroI _) b n D rfl HOWN.out _ _ rfl HK.out ?_; intro c hat hwc; rw [HH.out]; clear hat)
      | (at_mapUpdate; refine wpList_mapUpdate_own _ rfl _ _ _ 93 rfl 34 3 law16 Tryz.underlying93 _ b n D rfl HOWN.out (by simp only [maxLen]; omega) _ _ _ rfl rfl HK.out (.lit (.int .i64 (n : Int))) [] (plainElem_int Tryz.underlying3 (wf_i64 (by omega))) ?_; intro w1 hown1 hgrow1; have HO1 := hide hown1; have HG1 := hide hgrow1; clear hown1 hgrow1))
    go_ret
    refine ⟨rfl, ⟨D.put (.int .u16 (k : Int)) (.lit (.int .i64 (n : Int))), ?_, fun j hj => ?_⟩, HG1.out⟩
    · rw [List.length_append, ← HN.out]; exact HO1.out
    · obtain ⟨e1, e2⟩ := HD.out j hj
      by_cases hjk : j = k
      · subst hjk
        refine ⟨by rw [has_put_same HMP.out (k := .int .u16 (j : Int)) trivial]; simp, fun _ => ?_⟩
        rw [atKey_put_same HMP.out (k := .int .u16 (j : Int)) trivial, idxId_snoc_new HM.out, HN.out]
      · have hne : (Lit.int .u16 (j : Int)) ≠ Lit.int .u16 (k : Int) := by
          intro e
          injection e with _ e
          exact hjk (by omega)
        have hiff : (j ∈ ids ++ [k]) ↔ j ∈ ids := by
          rw [List.mem_append, List.mem_singleton]
          exact ⟨fun h => h.elim id (fun e => absurd e hjk), .inl⟩
        refine ⟨by rw [has_put_other hne, e1]; simp only [hiff], fun h => ?_⟩
        rw [atKey_put_other hne, e2 (hiff.1 h), idxId_snoc_mem (hiff.1 h)]
end Go.Proofs.YthccadabblkalaaGreat
namespace Go.Proofs.YthccadabblkalaaGreat
open Go.RowKit Go.Sort Go.Maps Go.ChangeShapes Go.WideShapes Go.Joins
set_option linter.unusedVariables false

theorem grown_of_below {W W' : World} (h : Below W.heap.size W W') (row : Option Nat) : W.grownBy W' row := ⟨h.os, h.tape, h.output, h.size, fun k hk _ => h.block k hk⟩
/-- A map of names of ports. -/
def MapN (n b : Nat) (W : World) : Prop := ∃ D : DataW Unit, W.ownsMap Tryz.prog 107 (plainElem Tryz.prog 3) b n D
theorem MapN.kept {n b : Nat} {W W' : World} {row : Option Nat} (h : MapN n b W) (hg : W.grownBy W' row) (hne : some b ≠ row) : MapN n b W' := by
  obtain ⟨D, h1⟩ := h
  exact ⟨D, h1.kept hg hne⟩
theorem MapN.alloc {n b : Nat} {W : World} (h : MapN n b W) (o : Obj) : MapN n b (W.alloc o) := h.kept (World.grownBy_alloc W o none) (by simp)
theorem MapN.made (w : World) : MapN 0 w.heap.size (w.alloc (.map #[] 0)) := ⟨.map [], World.ownsMap_made w _ _ _⟩
theorem lawN : Keyed Tryz.prog 107 := Keyed.of_law (deep_law_laid laidOut (m := 2) (by omega) (of_decide_eq_true (by kernel_rfl)) (by kernel_rfl) (by kernel_rfl))
theorem keyN (p : Nat) (s : ByteArray) (hp : p < 65536) (hs : s.size ≤ 9223372036854775807) : ∃ kl, keyOf Tryz.prog 107 (.agg #[.int .u16 (p : Int), .string s]) = some kl := by
  have hd : DataW.Trod (H := Unit) (fun _ => ()) Tryz.prog default 0 (fun _ => true) true 107 (.agg #[.int .u16 (p : Int), .string s]) _ _ :=
    shut_agg2 Tryz.underlying107 (by kernel_rfl) (by kernel_rfl) (y0 := (.lit (.int .u16 (p : Int)), [])) (y1 := (.lit (.string s.data.toList), [])) (shut_int Tryz.underlying34 (wf_u16 hp)) (Go.ChangeMaps.shut_string Tryz.underlying9 (by simpa only [maxLen] using hs))
  exact ⟨_, (keyOf_asKey (by kernel_rfl) (by kernel_rfl) (by simp [Value.formed, Tryz.underlying107]; kernel_rfl) hd).1⟩
set_option maxHeartbeats 1000000 in
theorem idP_calls (y pe du : Nat) (nm : ByteArray) (w : World) : Calls Tryz.prog 42 #[.agg #[.int .u16 (y : Int), .string nm, .int .u64 (pe : Int), .int .u64 (du : Int)]] w fun e w' => e = .returned (.int .u16 (y : Int)) ∧ Below w.heap.size w w' := by
  go_enter Tryz.func42, Tryz.ntmps42
  go_wp2
  go_ret
  exact ⟨rfl, (Below.refl _ w).alloc (Nat.le_refl _) _⟩
set_option maxRecDepth 100000 in
set_option maxHeartbeats 4000000 in
theorem collectP_calls (B b : Nat) (r : Row PartR) (w : World) (h : RowAt partL 4 B r w) (hB : B ≤ b) (hBw : B ≤ w.heap.size) (hm : MapU [] b w) (hid : ∀ x ∈ r.l, x.id < 65536) (hn : r.l.length ≤ 1048576) :
    Calls Tryz.prog 41 #[.slice r.a r.l.length r.c, .func (.func 42) #[] #[], .func (.func 43) #[.map (some b)] #[]] w
      fun e w' => (∃ v : Int, e = .returned (.int .i64 v)) ∧ MapU (r.l.map (·.id)) b w' ∧ But (fun i => i = b) w w' := by
  have HAT := hide (fun W (hW : But (fun i => i = b) w W) => h.below (hW.below hBw (fun k hk e => by omega)))
  have hcap := h.2
  have HID := hide hid
  have HM0 := hide hm
  have eF : ∀ args w, (callFunc 42 args).run Tryz.prog w = .ok (.enter 42 args) w := enters_of Tryz.func42 (by kernel_rfl) rfl
  have eG : ∀ args w, (callFunc 43 args).run Tryz.prog w = .ok (.enter 43 args) w := enters_of Tryz.func43 (by kernel_rfl) rfl
  obtain ⟨l, a, c⟩ := r
  simp only at hcap HAT HID hn ⊢
  obtain ⟨n, hnn⟩ : ∃ n, n = l.length := ⟨_, rfl⟩
  have HN := hide hnn
  rw [← hnn] at hcap hn ⊢
  have hnI : (n : Int) ≤ 1048576 := by omega
  have hcI : (n : Int) ≤ (c : Int) := by omega
  clear h hcap hB hBw hm hid hnn hn
  go_enter Tryz.func41, Tryz.ntmps41
  go_wp2
  go_loopw [7, 12] (fun s v wr => ∃ (k : Nat) (f : Int), k ≤ n ∧ v = .int .i64 (k : Int) ∧ s = .int .i64 f ∧ Hid (MapU ((l.take k).map (·.id)) b wr ∧ But (fun i => i = b) w wr)) (fun _ v _ => n - (intOf v).toNat)
  case atStart => exact ⟨0, -1, Nat.zero_le _, rfl, rfl, hide ⟨HM0.out, But.refl _ _⟩⟩
  case round =>
    obtain ⟨k, f, hk, rfl, rfl, hrel⟩ := hrel
    by_cases hlt : k < n
    · have hlt2 : (k : Int) < (n : Int) := by omega
      have hkl : k < l.length := by have := HN.out; omega
      obtain ⟨bb, o, rfl, hab, x0, x1, x2, x3⟩ := part_at (HAT.out wr hrel.out.2) k hkl
      simp only at x0 x1 x2 x3
      have HLEN : Hid (((l.take k).map (·.id)).length = k) := hide (by rw [List.length_map, List.length_take]; omega)
      have HSN : Hid ((l.take (k + 1)).map (·.id) = (l.take k).map (·.id) ++ [l[k].id]) := hide (by rw [List.take_succ_eq_append_getElem hkl, List.map_append]; rfl)
      have hid2 := HID.out l[k] (List.getElem_mem _)
      have HADD := hide (fun W (hW : MapU ((l.take k).map (·.id)) b W) => add_calls _ b l[k].id W hW hid2 (by rw [HLEN.out]; omega))
      rw [HLEN.out] at HADD
      have HM := hide hrel.out.1
      have HB := hide hrel.out.2
      have hz : bb < wr.heap.size := cell_lt x0
      generalize l[k] = x at *
      have HKK := hide (fun W => idP_calls x.id x.per x.dur x.name W)
      generalize decide (x.id ∈ (l.take k).map (·.id)) = dd at *
      obtain ⟨r, hr⟩ : ∃ r, r = !dd := ⟨_, rfl⟩
      rw [← hr] at HADD
      clear hr hid2 hrel hab
      have f1 : (wr.alloc (.cells #[.int .u16 (x.id : Int), .string x.name, .int .u64 (x.per : Int), .int .u64 (x.dur : Int)] 41)).heap.size = wr.heap.size + 1 := by simp
      have HF1 := hide f1
      clear f1
      by_cases hf : f < 0
      · have f0 : decide (f < 0) = true := by simpa using hf
        cases r
        all_goals
          go_wp2_with (first
            | (go_at_call 42; refine (HKK.out _).mono ?_; rintro e w2 ⟨rfl, hb⟩; have HM2 := hide ((HM.out.alloc _).kept (grown_of_below hb none) (by simp)); have HB2 := hide ((HB.out.alloc _).trans (But.of_below hb)); clear hb)
            | (go_at_call 43; refine (HADD.out _ HM2.out).mono ?_; rintro e w3 ⟨rfl, hm3, hg3⟩; have HR3 : Hid (MapU ((l.take (k + 1)).map (·.id)) b w3 ∧ But (fun i => i = b) w w3) := hide ⟨by rw [HSN.out]; exact hm3, HB2.out.grown hg3 (fun r e => by cases e; exact .inl rfl)⟩; clear hm3 hg3))
          go_roundw
          case rel => first | exact ⟨k + 1, _, by omega, by go_num, rfl, HR3⟩
          case measure => simp [intOf]; omega
      · have f0 : decide (f < 0) = false := by simpa using hf
        cases r
        all_goals
          go_wp2_with (first
            | (go_at_call 42; refine (HKK.out _).mono ?_; rintro e w2 ⟨rfl, hb⟩; have HM2 := hide ((HM.out.alloc _).kept (grown_of_below hb none) (by simp)); have HB2 := hide ((HB.out.alloc _).trans (But.of_below hb)); clear hb)
            | (go_at_call 43; refine (HADD.out _ HM2.out).mono ?_; rintro e w3 ⟨rfl, hm3, hg3⟩; have HR3 : Hid (MapU ((l.take (k + 1)).map (·.id)) b w3 ∧ But (fun i => i = b) w w3) := hide ⟨by rw [HSN.out]; exact hm3, HB2.out.grown hg3 (fun r e => by cases e; exact .inl rfl)⟩; clear hm3 hg3))
          go_roundw
          case rel => first | exact ⟨k + 1, _, by omega, by go_num, rfl, HR3⟩
          case measure => simp [intOf]; omega
    · have hkn : k = n := by omega
      subst hkn
      have HE : Hid (MapU (l.map (·.id)) b wr) := hide (by have := hrel.out.1; rwa [List.take_of_length_le (by rw [HN.out]; exact Nat.le_refl _)] at this)
      have HB := hide hrel.out.2
      clear hlt hk hrel
      go_wp2
      go_ret
      exact ⟨⟨f, rfl⟩, HE.out, HB.out⟩
set_option maxHeartbeats 1000000 in
theorem idQ_calls (y pa sz : Nat) (nm : ByteArray) (ou qu : Bool) (w : World) : Calls Tryz.prog 45 #[.agg #[.int .u16 (y : Int), .int .u16 (pa : Int), .string nm, .bool ou, .bool qu, .int .u32 (sz : Int)]] w fun e w' => e = .returned (.int .u16 (y : Int)) ∧ Below w.heap.size w w' := by
  go_enter Tryz.func45, Tryz.ntmps45
  go_wp2
  go_ret
  exact ⟨rfl, (Below.refl _ w).alloc (Nat.le_refl _) _⟩
set_option maxRecDepth 100000 in
set_option maxHeartbeats 4000000 in
theorem collectQ_calls (B b : Nat) (r : Row PortR) (w : World) (h : RowAt portL 6 B r w) (hB : B ≤ b) (hBw : B ≤ w.heap.size) (hm : MapU [] b w) (hid : ∀ x ∈ r.l, x.id < 65536) (hn : r.l.length ≤ 1048576) :
    Calls Tryz.prog 44 #[.slice r.a r.l.length r.c, .func (.func 45) #[] #[], .func (.func 43) #[.map (some b)] #[]] w
      fun e w' => (∃ v : Int, e = .returned (.int .i64 v)) ∧ MapU (r.l.map (·.id)) b w' ∧ But (fun i => i = b) w w' := by
  have HAT := hide (fun W (hW : But (fun i => i = b) w W) => h.below (hW.below hBw (fun k hk e => by omega)))
  have hcap := h.2
  have HID := hide hid
  have HM0 := hide hm
  have eF : ∀ args w, (callFunc 45 args).run Tryz.prog w = .ok (.enter 45 args) w := enters_of Tryz.func45 (by kernel_rfl) rfl
  have eG : ∀ args w, (callFunc 43 args).run Tryz.prog w = .ok (.enter 43 args) w := enters_of Tryz.func43 (by kernel_rfl) rfl
  obtain ⟨l, a, c⟩ := r
  simp only at hcap HAT HID hn ⊢
  obtain ⟨n, hnn⟩ : ∃ n, n = l.length := ⟨_, rfl⟩
  have HN := hide hnn
  rw [← hnn] at hcap hn ⊢
  have hnI : (n : Int) ≤ 1048576 := by omega
  have hcI : (n : Int) ≤ (c : Int) := by omega
  clear h hcap hB hBw hm hid hnn hn
  go_enter Tryz.func44, Tryz.ntmps44
  go_wp2
  go_loopw [7, 12] (fun s v wr => ∃ (k : Nat) (f : Int), k ≤ n ∧ v = .int .i64 (k : Int) ∧ s = .int .i64 f ∧ Hid (MapU ((l.take k).map (·.id)) b wr ∧ But (fun i => i = b) w wr)) (fun _ v _ => n - (intOf v).toNat)
  case atStart => exact ⟨0, -1, Nat.zero_le _, rfl, rfl, hide ⟨HM0.out, But.refl _ _⟩⟩
  case round =>
    obtain ⟨k, f, hk, rfl, rfl, hrel⟩ := hrel
    by_cases hlt : k < n
    · have hlt2 : (k : Int) < (n : Int) := by omega
      have hkl : k < l.length := by have := HN.out; omega
      obtain ⟨bb, o, rfl, hab, x0, x1, x2, x3, x4, x5⟩ := port_at (HAT.out wr hrel.out.2) k hkl
      simp only at x0 x1 x2 x3 x4 x5
      have HLEN : Hid (((l.take k).map (·.id)).length = k) := hide (by rw [List.length_map, List.length_take]; omega)
      have HSN : Hid ((l.take (k + 1)).map (·.id) = (l.take k).map (·.id) ++ [l[k].id]) := hide (by rw [List.take_succ_eq_append_getElem hkl, List.map_append]; rfl)
      have hid2 := HID.out l[k] (List.getElem_mem _)
      have HADD := hide (fun W (hW : MapU ((l.take k).map (·.id)) b W) => add_calls _ b l[k].id W hW hid2 (by rw [HLEN.out]; omega))
      rw [HLEN.out] at HADD
      have HM := hide hrel.out.1
      have HB := hide hrel.out.2
      have hz : bb < wr.heap.size := cell_lt x0
      generalize l[k] = x at *
      have HKK := hide (fun W => idQ_calls x.id x.part x.size x.name x.out x.que W)
      generalize decide (x.id ∈ (l.take k).map (·.id)) = dd at *
      obtain ⟨r, hr⟩ : ∃ r, r = !dd := ⟨_, rfl⟩
      rw [← hr] at HADD
      clear hr hid2 hrel hab
      have f1 : (wr.alloc (.cells #[.int .u16 (x.id : Int), .int .u16 (x.part : Int), .string x.name, .bool x.out, .bool x.que, .int .u32 (x.size : Int)] 67)).heap.size = wr.heap.size + 1 := by simp
      have HF1 := hide f1
      clear f1
      by_cases hf : f < 0
      · have f0 : decide (f < 0) = true := by simpa using hf
        cases r
        all_goals
          go_wp2_with (first
            | (go_at_call 45; refine (HKK.out _).mono ?_; rintro e w2 ⟨rfl, hb⟩; have HM2 := hide ((HM.out.alloc _).kept (grown_of_below hb none) (by simp)); have HB2 := hide ((HB.out.alloc _).trans (But.of_below hb)); clear hb)
            | (go_at_call 43; refine (HADD.out _ HM2.out).mono ?_; rintro e w3 ⟨rfl, hm3, hg3⟩; have HR3 : Hid (MapU ((l.take (k + 1)).map (·.id)) b w3 ∧ But (fun i => i = b) w w3) := hide ⟨by rw [HSN.out]; exact hm3, HB2.out.grown hg3 (fun r e => by cases e; exact .inl rfl)⟩; clear hm3 hg3))
          go_roundw
          case rel => first | exact ⟨k + 1, _, by omega, by go_num, rfl, HR3⟩
          case measure => simp [intOf]; omega
      · have f0 : decide (f < 0) = false := by simpa using hf
        cases r
        all_goals
          go_wp2_with (first
            | (go_at_call 45; refine (HKK.out _).mono ?_; rintro e w2 ⟨rfl, hb⟩; have HM2 := hide ((HM.out.alloc _).kept (grown_of_below hb none) (by simp)); have HB2 := hide ((HB.out.alloc _).trans (But.of_below hb)); clear hb)
            | (go_at_call 43; refine (HADD.out _ HM2.out).mono ?_; rintro e w3 ⟨rfl, hm3, hg3⟩; have HR3 : Hid (MapU ((l.take (k + 1)).map (·.id)) b w3 ∧ But (fun i => i = b) w w3) := hide ⟨by rw [HSN.out]; exact hm3, HB2.out.grown hg3 (fun r e => by cases e; exact .inl rfl)⟩; clear hm3 hg3))
          go_roundw
          case rel => first | exact ⟨k + 1, _, by omega, by go_num, rfl, HR3⟩
          case measure => simp [intOf]; omega
    · have hkn : k = n := by omega
      subst hkn
      have HE : Hid (MapU (l.map (·.id)) b wr) := hide (by have := hrel.out.1; rwa [List.take_of_length_le (by rw [HN.out]; exact Nat.le_refl _)] at this)
      have HB := hide hrel.out.2
      clear hlt hk hrel
      go_wp2
      go_ret
      exact ⟨⟨f, rfl⟩, HE.out, HB.out⟩
set_option maxHeartbeats 1000000 in
theorem idC_calls (y sr dn dc : Nat) (da : Option Addr) (w : World) : Calls Tryz.prog 47 #[.agg #[.int .u16 (y : Int), .int .u16 (sr : Int), .slice da dn dc]] w fun e w' => e = .returned (.int .u16 (y : Int)) ∧ Below w.heap.size w w' := by
  go_enter Tryz.func47, Tryz.ntmps47
  go_wp2
  go_ret
  exact ⟨rfl, (Below.refl _ w).alloc (Nat.le_refl _) _⟩
set_option maxRecDepth 100000 in
set_option maxHeartbeats 4000000 in
theorem collectC_calls (B b : Nat) (r : Row ChanR) (w : World) (h : RowAt chanL 3 B r w) (hB : B ≤ b) (hBw : B ≤ w.heap.size) (hm : MapU [] b w) (hid : ∀ x ∈ r.l, x.id < 65536) (hn : r.l.length ≤ 1048576) :
    Calls Tryz.prog 46 #[.slice r.a r.l.length r.c, .func (.func 47) #[] #[], .func (.func 43) #[.map (some b)] #[]] w
      fun e w' => (∃ v : Int, e = .returned (.int .i64 v)) ∧ MapU (r.l.map (·.id)) b w' ∧ But (fun i => i = b) w w' := by
  have HAT := hide (fun W (hW : But (fun i => i = b) w W) => h.below (hW.below hBw (fun k hk e => by omega)))
  have hcap := h.2
  have HID := hide hid
  have HM0 := hide hm
  have eF : ∀ args w, (callFunc 47 args).run Tryz.prog w = .ok (.enter 47 args) w := enters_of Tryz.func47 (by kernel_rfl) rfl
  have eG : ∀ args w, (callFunc 43 args).run Tryz.prog w = .ok (.enter 43 args) w := enters_of Tryz.func43 (by kernel_rfl) rfl
  obtain ⟨l, a, c⟩ := r
  simp only at hcap HAT HID hn ⊢
  obtain ⟨n, hnn⟩ : ∃ n, n = l.length := ⟨_, rfl⟩
  have HN := hide hnn
  rw [← hnn] at hcap hn ⊢
  have hnI : (n : Int) ≤ 1048576 := by omega
  have hcI : (n : Int) ≤ (c : Int) := by omega
  clear h hcap hB hBw hm hid hnn hn
  go_enter Tryz.func46, Tryz.ntmps46
  go_wp2
  go_loopw [7, 12] (fun s v wr => ∃ (k : Nat) (f : Int), k ≤ n ∧ v = .int .i64 (k : Int) ∧ s = .int .i64 f ∧ Hid (MapU ((l.take k).map (·.id)) b wr ∧ But (fun i => i = b) w wr)) (fun _ v _ => n - (intOf v).toNat)
  case atStart => exact ⟨0, -1, Nat.zero_le _, rfl, rfl, hide ⟨HM0.out, But.refl _ _⟩⟩
  case round =>
    obtain ⟨k, f, hk, rfl, rfl, hrel⟩ := hrel
    by_cases hlt : k < n
    · have hlt2 : (k : Int) < (n : Int) := by omega
      have hkl : k < l.length := by have := HN.out; omega
      obtain ⟨bb, o, rfl, hab, x0, x1, x2⟩ := chan_at (HAT.out wr hrel.out.2) k hkl
      simp only at x0 x1 x2
      have HLEN : Hid (((l.take k).map (·.id)).length = k) := hide (by rw [List.length_map, List.length_take]; omega)
      have HSN : Hid ((l.take (k + 1)).map (·.id) = (l.take k).map (·.id) ++ [l[k].id]) := hide (by rw [List.take_succ_eq_append_getElem hkl, List.map_append]; rfl)
      have hid2 := HID.out l[k] (List.getElem_mem _)
      have HADD := hide (fun W (hW : MapU ((l.take k).map (·.id)) b W) => add_calls _ b l[k].id W hW hid2 (by rw [HLEN.out]; omega))
      rw [HLEN.out] at HADD
      have HM := hide hrel.out.1
      have HB := hide hrel.out.2
      have hz : bb < wr.heap.size := cell_lt x0
      generalize l[k] = x at *
      have HKK := hide (fun W => idC_calls x.id x.src x.dests.length x.cap x.at_ W)
      generalize decide (x.id ∈ (l.take k).map (·.id)) = dd at *
      obtain ⟨r, hr⟩ : ∃ r, r = !dd := ⟨_, rfl⟩
      rw [← hr] at HADD
      clear hr hid2 hrel hab
      have f1 : (wr.alloc (.cells #[.int .u16 (x.id : Int), .int .u16 (x.src : Int), .slice x.at_ x.dests.length x.cap] 91)).heap.size = wr.heap.size + 1 := by simp
      have HF1 := hide f1
      clear f1
      by_cases hf : f < 0
      · have f0 : decide (f < 0) = true := by simpa using hf
        cases r
        all_goals
          go_wp2_with (first
            | (go_at_call 47; refine (HKK.out _).mono ?_; rintro e w2 ⟨rfl, hb⟩; have HM2 := hide ((HM.out.alloc _).kept (grown_of_below hb none) (by simp)); have HB2 := hide ((HB.out.alloc _).trans (But.of_below hb)); clear hb)
            | (go_at_call 43; refine (HADD.out _ HM2.out).mono ?_; rintro e w3 ⟨rfl, hm3, hg3⟩; have HR3 : Hid (MapU ((l.take (k + 1)).map (·.id)) b w3 ∧ But (fun i => i = b) w w3) := hide ⟨by rw [HSN.out]; exact hm3, HB2.out.grown hg3 (fun r e => by cases e; exact .inl rfl)⟩; clear hm3 hg3))
          go_roundw
          case rel => first | exact ⟨k + 1, _, by omega, by go_num, rfl, HR3⟩
          case measure => simp [intOf]; omega
      · have f0 : decide (f < 0) = false := by simpa using hf
        cases r
        all_goals
          go_wp2_with (first
            | (go_at_call 47; refine (HKK.out _).mono ?_; rintro e w2 ⟨rfl, hb⟩; have HM2 := hide ((HM.out.alloc _).kept (grown_of_below hb none) (by simp)); have HB2 := hide ((HB.out.alloc _).trans (But.of_below hb)); clear hb)
            | (go_at_call 43; refine (HADD.out _ HM2.out).mono ?_; rintro e w3 ⟨rfl, hm3, hg3⟩; have HR3 : Hid (MapU ((l.take (k + 1)).map (·.id)) b w3 ∧ But (fun i => i = b) w w3) := hide ⟨by rw [HSN.out]; exact hm3, HB2.out.grown hg3 (fun r e => by cases e; exact .inl rfl)⟩; clear hm3 hg3))
          go_roundw
          case rel => first | exact ⟨k + 1, _, by omega, by go_num, rfl, HR3⟩
          case measure => simp [intOf]; omega
    · have hkn : k = n := by omega
      subst hkn
      have HE : Hid (MapU (l.map (·.id)) b wr) := hide (by have := hrel.out.1; rwa [List.take_of_length_le (by rw [HN.out]; exact Nat.le_refl _)] at this)
      have HB := hide hrel.out.2
      clear hlt hk hrel
      go_wp2
      go_ret
      exact ⟨⟨f, rfl⟩, HE.out, HB.out⟩
end Go.Proofs.YthccadabblkalaaGreat
namespace Go.Proofs.YthccadabblkalaaGreat
open Go.RowKit Go.Sort Go.Maps Go.ChangeShapes Go.WideShapes Go.Joins
set_option linter.unusedVariables false

set_option maxHeartbeats 1000000 in
theorem nameQ_calls (y pa sz : Nat) (nm : ByteArray) (ou qu : Bool) (w : World) : Calls Tryz.prog 49 #[.agg #[.int .u16 (y : Int), .int .u16 (pa : Int), .string nm, .bool ou, .bool qu, .int .u32 (sz : Int)]] w fun e w' => e = .returned (.agg #[.int .u16 (pa : Int), .string nm]) ∧ Below w.heap.size w w' := by
  go_enter Tryz.func49, Tryz.ntmps49
  go_wp2
  refine bodyPost_ret (v := .agg #[.int .u16 (pa : Int), .string nm]) (by simp [results, Tryz.results49, go_sem]) rfl ⟨rfl, ?_⟩
  exact ((Below.refl _ w).alloc (Nat.le_refl _) _).alloc (by simp) _
set_option maxRecDepth 100000 in
set_option maxHeartbeats 2000000 in
theorem addN_calls (n b pa : Nat) (nm : ByteArray) (W : World) (h : MapN n b W) (hp : pa < 65536) (hs : nm.size ≤ 9223372036854775807) (hl : n ≤ 1048576) :
    Calls Tryz.prog 50 #[.map (some b), .agg #[.int .u16 (pa : Int), .string nm], .int .i64 (n : Int)] W fun e w' => (∃ r, e = .returned (.bool r)) ∧ MapN (n + 1) b w' ∧ But (fun i => i = b) W w' := by
  obtain ⟨D, hown⟩ := h
  obtain ⟨kl, hkl⟩ := keyN pa nm hp hs
  have HK := hide hkl
  have HOWN := hide (hown.alloc (.cells #[.int .u16 (pa : Int), .string nm] 107))
  have HB := hide ((But.refl (fun i => i = b) W).alloc (.cells #[.int .u16 (pa : Int), .string nm] 107))
  obtain ⟨hh, hhe⟩ : ∃ r, r = Maps.has D kl := ⟨_, rfl⟩
  have HH := hide hhe
  clear hown hkl hs hp hhe
  cases hh
  · go_enter Tryz.func50, Tryz.ntmps50
    go_wp2_with (first
      | (at_lookup; refine wpList_lookup_own_ok_int _ rfl _ _ 95 rfl 107 3 .i64 lawN Tryz.underlying95 Tryz.underlying3 (zeroI _) b n D rfl HOWN.out _ _ rfl HK.out ?_; intro c hat hwc; rw [← HH.out]; clear hat)
      | (at_mapUpdate; refine wpList_mapUpdate_own _ rfl _ _ _ 95 rfl 107 3 lawN Tryz.underlying95 _ b n D rfl HOWN.out (by simp only [maxLen]; omega) _ _ _ rfl rfl HK.out (.lit (.int .i64 (n : Int))) [] (plainElem_int Tryz.underlying3 (wf_i64 (by omega))) ?_; intro w1 hown1 hgrow1; have HO1 := hide hown1; have HB1 := hide (HB.out.grown hgrow1 (fun r e => by cases e; exact .inl rfl)); clear hown1 hgrow1))
    go_ret
    exact ⟨⟨_, rfl⟩, ⟨_, HO1.out⟩, HB1.out⟩
  · go_enter Tryz.func50, Tryz.ntmps50
    go_wp2_with (at_lookup; refine wpList_lookup_own_ok_int _ rfl _ _ 95 rfl 107 3 .i64 lawN Tryz.underlying95 Tryz.underlying3 (zeroI _) b n D rfl HOWN.out _ _ rfl HK.out ?_; intro c hat hwc; rw [← HH.out]; clear hat)
    go_ret
    exact ⟨⟨_, rfl⟩, ⟨D, HOWN.out.mono (Nat.le_succ _)⟩, HB.out⟩
set_option maxRecDepth 100000 in
set_option maxHeartbeats 4000000 in
theorem collectN_calls (B b : Nat) (r : Row PortR) (w : World) (h : RowAt portL 6 B r w) (hB : B ≤ b) (hBw : B ≤ w.heap.size) (hm : MapN 0 b w) (hid : ∀ x ∈ r.l, x.part < 65536 ∧ x.name.size ≤ 9223372036854775807) (hn : r.l.length ≤ 1048576) :
    Calls Tryz.prog 48 #[.slice r.a r.l.length r.c, .func (.func 49) #[] #[], .func (.func 50) #[.map (some b)] #[]] w
      fun e w' => (∃ v : Int, e = .returned (.int .i64 v)) ∧ But (fun i => i = b) w w' := by
  have HAT := hide (fun W (hW : But (fun i => i = b) w W) => h.below (hW.below hBw (fun k hk e => by omega)))
  have hcap := h.2
  have HID := hide hid
  have HM0 := hide hm
  have eF : ∀ args w, (callFunc 49 args).run Tryz.prog w = .ok (.enter 49 args) w := enters_of Tryz.func49 (by kernel_rfl) rfl
  have eG : ∀ args w, (callFunc 50 args).run Tryz.prog w = .ok (.enter 50 args) w := enters_of Tryz.func50 (by kernel_rfl) rfl
  obtain ⟨l, a, c⟩ := r
  simp only at hcap HAT HID hn ⊢
  obtain ⟨n, hnn⟩ : ∃ n, n = l.length := ⟨_, rfl⟩
  have HN := hide hnn
  rw [← hnn] at hcap hn ⊢
  have hnI : (n : Int) ≤ 1048576 := by omega
  have hcI : (n : Int) ≤ (c : Int) := by omega
  clear h hcap hB hBw hm hid hnn hn
  go_enter Tryz.func48, Tryz.ntmps48
  go_wp2
  go_loopw [7, 12] (fun s v wr => ∃ (k : Nat) (f : Int), k ≤ n ∧ v = .int .i64 (k : Int) ∧ s = .int .i64 f ∧ Hid (MapN k b wr ∧ But (fun i => i = b) w wr)) (fun _ v _ => n - (intOf v).toNat)
  case atStart => exact ⟨0, -1, Nat.zero_le _, rfl, rfl, hide ⟨HM0.out, But.refl _ _⟩⟩
  case round =>
    obtain ⟨k, f, hk, rfl, rfl, hrel⟩ := hrel
    by_cases hlt : k < n
    · have hlt2 : (k : Int) < (n : Int) := by omega
      have hkl : k < l.length := by have := HN.out; omega
      obtain ⟨bb, o, rfl, hab, x0, x1, x2, x3, x4, x5⟩ := port_at (HAT.out wr hrel.out.2) k hkl
      simp only at x0 x1 x2 x3 x4 x5
      have hid2 := HID.out l[k] (List.getElem_mem _)
      have HADD := hide (fun W (hW : MapN k b W) => addN_calls k b l[k].part l[k].name W hW hid2.1 hid2.2 (by omega))
      have HM := hide hrel.out.1
      have HB := hide hrel.out.2
      have hz : bb < wr.heap.size := cell_lt x0
      generalize l[k] = x at *
      have HKK := hide (fun W => nameQ_calls x.id x.part x.size x.name x.out x.que W)
      clear hid2 hrel hab
      by_cases hf : f < 0
      · have f0 : decide (f < 0) = true := by simpa using hf
        go_wp2_with (first
          | (go_at_call 49; refine (HKK.out _).mono ?_; rintro e w2 ⟨rfl, hb⟩; have HM2 := hide ((HM.out.alloc _).kept (grown_of_below hb none) (by simp)); have HB2 := hide ((HB.out.alloc _).trans (But.of_below hb)); clear hb)
          | (go_at_call 50; refine (HADD.out _ HM2.out).mono ?_; rintro e w3 ⟨⟨r, rfl⟩, hm3, hg3⟩; have HR3 : Hid (MapN (k + 1) b w3 ∧ But (fun i => i = b) w w3) := hide ⟨hm3, HB2.out.trans hg3⟩; clear hm3 hg3; cases r))
        all_goals
          go_wp2
          go_roundw
          case rel => first | exact ⟨k + 1, _, by omega, by go_num, rfl, HR3⟩
          case measure => simp [intOf]; omega
      · have f0 : decide (f < 0) = false := by simpa using hf
        go_wp2_with (first
          | (go_at_call 49; refine (HKK.out _).mono ?_; rintro e w2 ⟨rfl, hb⟩; have HM2 := hide ((HM.out.alloc _).kept (grown_of_below hb none) (by simp)); have HB2 := hide ((HB.out.alloc _).trans (But.of_below hb)); clear hb)
          | (go_at_call 50; refine (HADD.out _ HM2.out).mono ?_; rintro e w3 ⟨⟨r, rfl⟩, hm3, hg3⟩; have HR3 : Hid (MapN (k + 1) b w3 ∧ But (fun i => i = b) w w3) := hide ⟨hm3, HB2.out.trans hg3⟩; clear hm3 hg3; cases r))
        all_goals
          go_wp2
          go_roundw
          case rel => first | exact ⟨k + 1, _, by omega, by go_num, rfl, HR3⟩
          case measure => simp [intOf]; omega
    · have hkn : k = n := by omega
      subst hkn
      have HB := hide hrel.out.2
      clear hlt hk hrel
      go_wp2
      go_ret
      exact ⟨⟨f, rfl⟩, HB.out⟩
end Go.Proofs.YthccadabblkalaaGreat
namespace Go.Proofs.YthccadabblkalaaGreat
open Go.RowKit Go.Sort Go.Maps Go.ChangeShapes Go.WideShapes Go.Joins
set_option linter.unusedVariables false

theorem grown_of_but {b : Nat} {W W' : World} (h : But (fun i => i = b) W W') : W.grownBy W' (some b) := ⟨h.os, h.tape, h.output, h.size, fun k hk hne => h.block k hk (fun e => hne (by rw [e]))⟩
theorem MapU.lt {ids : List Nat} {b : Nat} {W : World} (h : MapU ids b W) : b < W.heap.size := by obtain ⟨D, h, _⟩ := h; exact h.lt
theorem MapU.but {ids : List Nat} {b b' : Nat} {W W' : World} (h : MapU ids b W) (hb : But (fun i => i = b') W W') (hne : b ≠ b') : MapU ids b W' := h.kept (grown_of_but hb) (fun e => hne (by injection e))
theorem MapN.but {n b b' : Nat} {W W' : World} (h : MapN n b W) (hb : But (fun i => i = b') W W') (hne : b ≠ b') : MapN n b W' := h.kept (grown_of_but hb) (fun e => hne (by injection e))
theorem MapU.drew {ids : List Nat} {b : Nat} {W : World} (h : MapU ids b W) : MapU ids b W.drew := h
/-- An index of identifiers. -/
def IdxAt (ids : List Nat) (g : Nat) (W : World) : Prop := ∃ b1 b2 b3 b4, Blk W g 97 #[.map (some b1), .map (some b2), .map (some b3), .map (some b4)] ∧ MapU ids b1 W
theorem IdxAt.below {ids : List Nat} {g : Nat} {W W' : World} (h : IdxAt ids g W) (hb : Below W.heap.size W W') : IdxAt ids g W' := by
  obtain ⟨b1, b2, b3, b4, h1, h2⟩ := h
  exact ⟨b1, b2, b3, b4, h1.below hb h1.lt, h2.kept (grown_of_below hb none) (by simp)⟩
/-- The state of New: the box, the index, the four maps. -/
structure NewE (w : World) (c : Cfg) (ps : List Nat) (W : World) : Prop where
  bx : Boxed1 w c W
  ix : Blk W (w.heap.size + 5) 97 #[.map (some (w.heap.size + 1)), .map (some (w.heap.size + 2)), .map (some (w.heap.size + 3)), .map (some (w.heap.size + 4))]
  mp : MapU ps (w.heap.size + 1) W
theorem NewE.but {w : World} {c : Cfg} {ps : List Nat} {W W' : World} {b : Nat} (h : NewE w c ps W) (hb : But (fun i => i = b) W W') (h0 : w.heap.size + 1 < b) (h5 : b ≠ w.heap.size + 5) : NewE w c ps W' :=
  ⟨⟨h.bx.1.trans (hb.below h.bx.1.size (fun k hk e => by omega)), hb.blk h.bx.2 (by omega)⟩, hb.blk h.ix (fun e => h5 e.symm), h.mp.but hb (by omega)⟩
theorem NewE.drew {w : World} {c : Cfg} {ps : List Nat} {W : World} (h : NewE w c ps W) : NewE w c ps W.drew := ⟨⟨h.bx.1.drew, h.bx.2⟩, h.ix, h.mp⟩
theorem NewE.cells {w : World} {c : Cfg} {ps : List Nat} {W : World} (h : NewE w c ps W) :
    W.cell? ⟨w.heap.size, 1, none⟩ = some (.slice c.parts.a c.parts.l.length c.parts.c) ∧ W.cell? ⟨w.heap.size, 4, none⟩ = some (.slice c.ports.a c.ports.l.length c.ports.c) ∧ W.cell? ⟨w.heap.size, 5, none⟩ = some (.slice c.chans.a c.chans.l.length c.chans.c) ∧
    W.cell? ⟨w.heap.size + 5, 0, none⟩ = some (.map (some (w.heap.size + 1))) ∧ W.cell? ⟨w.heap.size + 5, 1, none⟩ = some (.map (some (w.heap.size + 2))) ∧ W.cell? ⟨w.heap.size + 5, 2, none⟩ = some (.map (some (w.heap.size + 3))) ∧ W.cell? ⟨w.heap.size + 5, 3, none⟩ = some (.map (some (w.heap.size + 4))) :=
  ⟨h.bx.2.cell 1, h.bx.2.cell 4, h.bx.2.cell 5, h.ix.cell 0, h.ix.cell 1, h.ix.cell 2, h.ix.cell 3⟩
theorem newE_start (c : Cfg) (w : World) : NewE w c [] ((((((w.alloc (.cells (cfgC c) 29)).alloc (.map #[] 0)).alloc (.map #[] 0)).alloc (.map #[] 0)).alloc (.map #[] 0)).alloc (.cells #[.map (some (w.heap.size + 1)), .map (some (w.heap.size + 2)), .map (some (w.heap.size + 3)), .map (some (w.heap.size + 4))] 97)) ∧ MapU [] (w.heap.size + 2) ((((((w.alloc (.cells (cfgC c) 29)).alloc (.map #[] 0)).alloc (.map #[] 0)).alloc (.map #[] 0)).alloc (.map #[] 0)).alloc (.cells #[.map (some (w.heap.size + 1)), .map (some (w.heap.size + 2)), .map (some (w.heap.size + 3)), .map (some (w.heap.size + 4))] 97)) ∧ MapU [] (w.heap.size + 3) ((((((w.alloc (.cells (cfgC c) 29)).alloc (.map #[] 0)).alloc (.map #[] 0)).alloc (.map #[] 0)).alloc (.map #[] 0)).alloc (.cells #[.map (some (w.heap.size + 1)), .map (some (w.heap.size + 2)), .map (some (w.heap.size + 3)), .map (some (w.heap.size + 4))] 97)) ∧ MapN 0 (w.heap.size + 4) ((((((w.alloc (.cells (cfgC c) 29)).alloc (.map #[] 0)).alloc (.map #[] 0)).alloc (.map #[] 0)).alloc (.map #[] 0)).alloc (.cells #[.map (some (w.heap.size + 1)), .map (some (w.heap.size + 2)), .map (some (w.heap.size + 3)), .map (some (w.heap.size + 4))] 97)) := by
  have h1 := MapU.made (w.alloc (.cells (cfgC c) 29))
  have h2 := MapU.made ((w.alloc (.cells (cfgC c) 29)).alloc (.map #[] 0))
  have h3 := MapU.made (((w.alloc (.cells (cfgC c) 29)).alloc (.map #[] 0)).alloc (.map #[] 0))
  have h4 := MapN.made ((((w.alloc (.cells (cfgC c) 29)).alloc (.map #[] 0)).alloc (.map #[] 0)).alloc (.map #[] 0))
  have h5 := Blk.new (((((w.alloc (.cells (cfgC c) 29)).alloc (.map #[] 0)).alloc (.map #[] 0)).alloc (.map #[] 0)).alloc (.map #[] 0)) 97 #[.map (some (w.heap.size + 1)), .map (some (w.heap.size + 2)), .map (some (w.heap.size + 3)), .map (some (w.heap.size + 4))]
  simp only [World.size_alloc, Nat.add_assoc, Nat.reduceAdd] at h1 h2 h3 h4 h5
  exact ⟨⟨((((((Boxed1.start w c).alloc _).alloc _).alloc _).alloc _).alloc _), h5, (((h1.alloc _).alloc _).alloc _).alloc _⟩, ((h2.alloc _).alloc _).alloc _, (h3.alloc _).alloc _, h4.alloc _⟩
set_option maxRecDepth 100000 in
set_option maxHeartbeats 8000000 in
theorem New_calls (c : Cfg) (w : World) (h : CfgAt w.heap.size c w) (hok : c.Ok) (hsm : c.Small) :
    Calls Tryz.prog 27 #[cfgV c] w fun e w' => ∃ g, e = .returned (.pointer (some ⟨g, 0, none⟩)) ∧ IdxAt (ids c.parts.l) g w' ∧ Below w.heap.size w w' := by
  unfold Cfg.Small at hsm
  have HP := hide (fun W (hW : NewE w c [] W) => collectP_calls w.heap.size (w.heap.size + 1) c.parts W (h.parts.below hW.bx.1) (by omega) hW.bx.1.size hW.mp (fun x hx => (hok.parts x hx).1) (by omega))
  have HQ := hide (fun W ps (hW : NewE w c ps W) hm => collectQ_calls w.heap.size (w.heap.size + 2) c.ports W (h.ports.below hW.bx.1) (by omega) hW.bx.1.size hm (fun x hx => (hok.ports x hx).1) (by omega))
  have HC := hide (fun W ps (hW : NewE w c ps W) hm => collectC_calls w.heap.size (w.heap.size + 3) c.chans W (h.chans.below hW.bx.1) (by omega) hW.bx.1.size hm (fun x hx => (hok.chans x hx).1) (by omega))
  have HN := hide (fun W ps (hW : NewE w c ps W) hm => collectN_calls w.heap.size (w.heap.size + 4) c.ports W (h.ports.below hW.bx.1) (by omega) hW.bx.1.size hm (fun x hx => ⟨(hok.ports x hx).2.1, (hok.ports x hx).2.2.1⟩) (by omega))
  obtain ⟨hs0, hsq, hsc, hsn⟩ := newE_start c w
  have HE0 := hide hs0
  have HSQ0 := hide hsq
  have HSC0 := hide hsc
  have HSN0 := hide hsn
  have mixed := mixed_prog
  have hmm := @run_makeMap Tryz.prog
  clear h hok hsm hs0 hsq hsc hsn
  unfold cfgC at HE0 HSQ0 HSC0 HSN0
  unfold cfgV
  go_enter Tryz.func27, Tryz.ntmps27
  go_wp2_with fail
  simp only [Nat.add_assoc, Nat.reduceAdd]
  generalize ((((((w.alloc (.cells #[.int .u64 (c.frame : Int), .slice c.parts.a c.parts.l.length c.parts.c, .slice c.wins.a c.wins.l.length c.wins.c, .slice c.regs.a c.regs.l.length c.regs.c, .slice c.ports.a c.ports.l.length c.ports.c, .slice c.chans.a c.chans.l.length c.chans.c] 29)).alloc (.map #[] 0)).alloc (.map #[] 0)).alloc (.map #[] 0)).alloc (.map #[] 0)).alloc (.cells #[.map (some (w.heap.size + 1)), .map (some (w.heap.size + 2)), .map (some (w.heap.size + 3)), .map (some (w.heap.size + 4))] 97)) = W0 at *
  obtain ⟨b1, _, _, x0, _, _, _⟩ := HE0.out.cells
  go_still_tail 7, (by kernel_rfl)
  change wpList _ _ _ _ _ W0.drew
  have HE1 := hide HE0.out.drew
  have HQ1 : Hid (MapU [] (w.heap.size + 2) W0.drew) := HSQ0
  have HC1 : Hid (MapU [] (w.heap.size + 3) W0.drew) := HSC0
  have HN1 : Hid (MapN 0 (w.heap.size + 4) W0.drew) := HSN0
  clear HE0 HSQ0 HSC0 HSN0 b1 x0
  generalize W0.drew = W1 at *
  go_wp2_with (go_at_call 41; refine (HP.out _ HE1.out).mono ?_; rintro e W2 ⟨⟨v, rfl⟩, hm, hb⟩; have HE2 : Hid (NewE w c (ids c.parts.l) W2) := hide ⟨⟨HE1.out.bx.1.trans (hb.below HE1.out.bx.1.size (fun k hk e => by omega)), hb.blk HE1.out.bx.2 (by omega)⟩, hb.blk HE1.out.ix (by omega), hm⟩; have HQ2 := hide (HQ1.out.but hb (by omega)); have HC2 := hide (HC1.out.but hb (by omega)); have HN2 := hide (HN1.out.but hb (by omega)); clear hm hb)
  obtain ⟨_, b4, _, _, x1, _, _⟩ := HE2.out.cells
  go_still_tail 7, (by kernel_rfl)
  change wpList _ _ _ _ _ W2.drew
  have HE3 := hide HE2.out.drew
  have HQ3 : Hid (MapU [] (w.heap.size + 2) W2.drew) := HQ2
  have HC3 : Hid (MapU [] (w.heap.size + 3) W2.drew) := HC2
  have HN3 : Hid (MapN 0 (w.heap.size + 4) W2.drew) := HN2
  clear HE2 HQ2 HC2 HN2 b4 x1 HE1 HQ1 HC1 HN1
  generalize W2.drew = W3 at *
  go_wp2_with (go_at_call 44; refine (HQ.out _ _ HE3.out HQ3.out).mono ?_; rintro e W4 ⟨⟨v, rfl⟩, hm, hb⟩; have HE4 := hide (HE3.out.but hb (by omega) (by omega)); have HC4 := hide (HC3.out.but hb (by omega)); have HN4 := hide (HN3.out.but hb (by omega)); clear hm hb)
  obtain ⟨_, _, b5, _, _, x2, _⟩ := HE4.out.cells
  go_still_tail 7, (by kernel_rfl)
  change wpList _ _ _ _ _ W4.drew
  have HE5 := hide HE4.out.drew
  have HC5 : Hid (MapU [] (w.heap.size + 3) W4.drew) := HC4
  have HN5 : Hid (MapN 0 (w.heap.size + 4) W4.drew) := HN4
  clear HE4 HC4 HN4 b5 x2 HE3 HQ3 HC3 HN3
  generalize W4.drew = W5 at *
  go_wp2_with (go_at_call 46; refine (HC.out _ _ HE5.out HC5.out).mono ?_; rintro e W6 ⟨⟨v, rfl⟩, hm, hb⟩; have HE6 := hide (HE5.out.but hb (by omega) (by omega)); have HN6 := hide (HN5.out.but hb (by omega)); clear hm hb)
  obtain ⟨_, b4, _, _, _, _, x3⟩ := HE6.out.cells
  go_still_tail 7, (by kernel_rfl)
  change wpList _ _ _ _ _ W6.drew
  have HE7 := hide HE6.out.drew
  have HN7 : Hid (MapN 0 (w.heap.size + 4) W6.drew) := HN6
  clear HE6 HN6 b4 x3 HE5 HC5 HN5
  generalize W6.drew = W7 at *
  go_wp2_with (go_at_call 48; refine (HN.out _ _ HE7.out HN7.out).mono ?_; rintro e W8 ⟨⟨v, rfl⟩, hb⟩; have HE8 := hide (HE7.out.but hb (by omega) (by omega)); clear hb)
  go_ret
  exact ⟨_, rfl, ⟨_, _, _, _, HE8.out.ix, HE8.out.mp⟩, HE8.out.bx.1⟩
set_option maxRecDepth 100000 in
set_option maxHeartbeats 2000000 in
theorem IdxPart_calls (ps : List Nat) (g k : Nat) (W : World) (h : IdxAt ps g W) (hk : k < 65536) :
    Calls Tryz.prog 51 #[.pointer (some ⟨g, 0, none⟩), .int .u16 (k : Int)] W fun e w' => e = .returned (.int .i64 (idxId ps k)) ∧ w' = W := by
  obtain ⟨b1, b2, b3, b4, hg, hm⟩ := h
  have HF := hide (find_calls ps b1 k W hm hk)
  have x0 : W.cell? ⟨g, 0, none⟩ = some (.map (some b1)) := hg.cell 0
  generalize idxId ps k = r at *
  clear hg hm hk
  go_enter Tryz.func51, Tryz.ntmps51
  go_wp2_with (go_at_call 67; refine HF.out.mono ?_; rintro e w1 ⟨rfl, rfl⟩)
  go_ret
  exact ⟨rfl, rfl⟩
end Go.Proofs.YthccadabblkalaaGreat
