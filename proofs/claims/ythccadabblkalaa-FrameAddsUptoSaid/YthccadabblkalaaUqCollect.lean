/- uniq.collect at its four instances, uniq.New, (*Index).Partition (chapter 13). Written by tools/gencollect.py. -/
import Derived.Test.YthccadabblkalaaUqMap
import Derived.Laws.EntriesVeiled
namespace Go.Proofs.Ythccadabblkalaa
open Go.RowKit Go.Sort Go.Maps Go.ChangeShapes Go.WideShapes Go.Joins
set_option linter.unusedVariables false

theorem grown_of_below {W W' : World} (h : Below W.heap.size W W') (row : Option Nat) : W.grownBy W' row := ⟨h.os, h.tape, h.output, h.size, fun k hk _ => h.block k hk⟩
/-- A map of names of ports. -/
def MapN (n b : Nat) (W : World) : Prop := ∃ D : DataW Unit, W.ownsMap Try.prog 96 (plainElem Try.prog 3) b n D
theorem MapN.kept {n b : Nat} {W W' : World} {row : Option Nat} (h : MapN n b W) (hg : W.grownBy W' row) (hne : some b ≠ row) : MapN n b W' := by
  obtain ⟨D, h1⟩ := h
  exact ⟨D, h1.kept hg hne⟩
theorem MapN.alloc {n b : Nat} {W : World} (h : MapN n b W) (o : Obj) : MapN n b (W.alloc o) := h.kept (World.grownBy_alloc W o none) (by simp)
theorem MapN.made (w : World) : MapN 0 w.heap.size (w.alloc (.map #[] 0)) := ⟨.map [], World.ownsMap_made w _ _ _⟩
theorem lawN : Keyed Try.prog 96 := Keyed.of_law (deep_law_laid laidOut (m := 2) (by omega) (of_decide_eq_true (by kernel_rfl)) (by kernel_rfl) (by kernel_rfl))
theorem keyN (p : Nat) (s : ByteArray) (hp : p < 65536) (hs : s.size ≤ 9223372036854775807) : ∃ kl, keyOf Try.prog 96 (.agg #[.int .u16 (p : Int), .string s]) = some kl := by
  have hd : DataW.Trod (H := Unit) (fun _ => ()) Try.prog default 0 (fun _ => true) true 96 (.agg #[.int .u16 (p : Int), .string s]) _ _ :=
    shut_agg2 Try.underlying96 (by kernel_rfl) (by kernel_rfl) (y0 := (.lit (.int .u16 (p : Int)), [])) (y1 := (.lit (.string s.data.toList), [])) (shut_int Try.underlying38 (wf_u16 hp)) (Go.ChangeMaps.shut_string Try.underlying9 (by simpa only [maxLen] using hs))
  exact ⟨_, (keyOf_asKey (by kernel_rfl) (by kernel_rfl) (by simp [Value.formed, Try.underlying96]; kernel_rfl) hd).1⟩
set_option maxHeartbeats 1000000 in
theorem idP_calls (y pe du : Nat) (nm : ByteArray) (w : World) : Calls Try.prog 36 #[.agg #[.int .u16 (y : Int), .string nm, .int .u64 (pe : Int), .int .u64 (du : Int)]] w fun e w' => e = .returned (.int .u16 (y : Int)) ∧ Below w.heap.size w w' := by
  go_enter Try.func36, Try.ntmps36
  go_wp2
  go_ret
  exact ⟨rfl, (Below.refl _ w).alloc (Nat.le_refl _) _⟩
set_option maxRecDepth 100000 in
set_option maxHeartbeats 4000000 in
theorem collectP_calls (B b : Nat) (r : Row PartR) (w : World) (h : RowAt partL 4 B r w) (hB : B ≤ b) (hBw : B ≤ w.heap.size) (hm : MapU [] b w) (hid : ∀ x ∈ r.l, x.id < 65536) (hn : r.l.length ≤ 1048576) :
    Calls Try.prog 35 #[.slice r.a r.l.length r.c, .func (.func 36) #[] #[], .func (.func 37) #[.map (some b)] #[]] w
      fun e w' => (∃ v : Int, e = .returned (.int .i64 v)) ∧ MapU (r.l.map (·.id)) b w' ∧ But (fun i => i = b) w w' := by
  have HAT := hide (fun W (hW : But (fun i => i = b) w W) => h.below (hW.below hBw (fun k hk e => by omega)))
  have hcap := h.2
  have HID := hide hid
  have HM0 := hide hm
  have eF : ∀ args w, (callFunc 36 args).run Try.prog w = .ok (.enter 36 args) w := enters_of Try.func36 (by kernel_rfl) rfl
  have eG : ∀ args w, (callFunc 37 args).run Try.prog w = .ok (.enter 37 args) w := enters_of Try.func37 (by kernel_rfl) rfl
  obtain ⟨l, a, c⟩ := r
  simp only at hcap HAT HID hn ⊢
  obtain ⟨n, hnn⟩ : ∃ n, n = l.length := ⟨_, rfl⟩
  have HN := hide hnn
  rw [← hnn] at hcap hn ⊢
  have hnI : (n : Int) ≤ 1048576 := by omega
  have hcI : (n : Int) ≤ (c : Int) := by omega
  clear h hcap hB hBw hm hid hnn hn
  go_enter Try.func35, Try.ntmps35
  go_wp2
  go_loopw [7, 12] (fun s v wr => ∃ (k : Nat) (f : Int), k ≤ n ∧ v = .int .i64 (k : Int) ∧ s = .int .i64 f ∧ Hid (MapU ((l.take k).map (·.id)) b wr ∧ But (fun i => i = b) w wr)) (fun _ v _ => n - (intOf v).toNat)
  case atStart => exact ⟨0, -1, Nat.zero_le _, rfl, rfl, hide ⟨HM0.out, But.refl _ _⟩⟩
  case round =>
    obtain ⟨k, f, hk, rfl, rfl, hrel⟩ := hrel
    by_cases hlt : k < n
    · have hlt2 : (k : Int) < (n : Int) := by omega
      have hkl : k < l.length := by have := HN.out; omega
      obtain ⟨bb, o, rfl, hab, x0, x1, x2, x3⟩ := part_at (HAT.out wr hrel.out.2) k hkl
      simp only at x0 x1 x2 x3
      have HLEN : Hid (((l.take k).map (·.id)).length = k) := hide (by rw [List.length_map, List.length_take]; omega)
      have HSN : Hid ((l.take (k + 1)).map (·.id) = (l.take k).map (·.id) ++ [l[k].id]) := hide (by rw [List.take_succ_eq_append_getElem hkl, List.map_append]; rfl)
      have hid2 := HID.out l[k] (List.getElem_mem _)
      have HADD := hide (fun W (hW : MapU ((l.take k).map (·.id)) b W) => add_calls _ b l[k].id W hW hid2 (by rw [HLEN.out]; omega))
      rw [HLEN.out] at HADD
      have HM := hide hrel.out.1
      have HB := hide hrel.out.2
      have hz : bb < wr.heap.size := cell_lt x0
      generalize l[k] = x at *
      have HKK := hide (fun W => idP_calls x.id x.per x.dur x.name W)
      generalize decide (x.id ∈ (l.take k).map (·.id)) = dd at *
      obtain ⟨r, hr⟩ : ∃ r, r = !dd := ⟨_, rfl⟩
      rw [← hr] at HADD
      clear hr hid2 hrel hab
      have f1 : (wr.alloc (.cells #[.int .u16 (x.id : Int), .string x.name, .int .u64 (x.per : Int), .int .u64 (x.dur : Int)] 47)).heap.size = wr.heap.size + 1 := by simp
      have HF1 := hide f1
      clear f1
      by_cases hf : f < 0
      · have f0 : decide (f < 0) = true := by simpa using hf
        cases r
        all_goals
          go_wp2_with (first
            | (go_at_call 36; refine (HKK.out _).mono ?_; rintro e w2 ⟨rfl, hb⟩; have HM2 := hide ((HM.out.alloc _).kept (grown_of_below hb none) (by simp)); have HB2 := hide ((HB.out.alloc _).trans (But.of_below hb)); clear hb)
            | (go_at_call 37; refine (HADD.out _ HM2.out).mono ?_; rintro e w3 ⟨rfl, hm3, hg3⟩; have HR3 : Hid (MapU ((l.take (k + 1)).map (·.id)) b w3 ∧ But (fun i => i = b) w w3) := hide ⟨by rw [HSN.out]; exact hm3, HB2.out.grown hg3 (fun r e => by cases e; exact .inl rfl)⟩; clear hm3 hg3))
          go_roundw
          case rel => first | exact ⟨k + 1, _, by omega, by go_num, rfl, HR3⟩
          case measure => simp [intOf]; omega
      · have f0 : decide (f < 0) = false := by simpa using hf
        cases r
        all_goals
          go_wp2_with (first
            | (go_at_call 36; refine (HKK.out _).mono ?_; rintro e w2 ⟨rfl, hb⟩; have HM2 := hide ((HM.out.alloc _).kept (grown_of_below hb none) (by simp)); have HB2 := hide ((HB.out.alloc _).trans (But.of_below hb)); clear hb)
            | (go_at_call 37; refine (HADD.out _ HM2.out).mono ?_; rintro e w3 ⟨rfl, hm3, hg3⟩; have HR3 : Hid (MapU ((l.take (k + 1)).map (·.id)) b w3 ∧ But (fun i => i = b) w w3) := hide ⟨by rw [HSN.out]; exact hm3, HB2.out.grown hg3 (fun r e => by cases e; exact .inl rfl)⟩; clear hm3 hg3))
          go_roundw
          case rel => first | exact ⟨k + 1, _, by omega, by go_num, rfl, HR3⟩
          case measure => simp [intOf]; omega
    · have hkn : k = n := by omega
      subst hkn
      have HE : Hid (MapU (l.map (·.id)) b wr) := hide (by have := hrel.out.1; rwa [List.take_of_length_le (by rw [HN.out]; exact Nat.le_refl _)] at this)
      have HB := hide hrel.out.2
      clear hlt hk hrel
      go_wp2
      go_ret
      exact ⟨⟨f, rfl⟩, HE.out, HB.out⟩
set_option maxHeartbeats 1000000 in
theorem idQ_calls (y pa sz : Nat) (nm : ByteArray) (ou qu : Bool) (w : World) : Calls Try.prog 39 #[.agg #[.int .u16 (y : Int), .int .u16 (pa : Int), .string nm, .bool ou, .bool qu, .int .u32 (sz : Int)]] w fun e w' => e = .returned (.int .u16 (y : Int)) ∧ Below w.heap.size w w' := by
  go_enter Try.func39, Try.ntmps39
  go_wp2
  go_ret
  exact ⟨rfl, (Below.refl _ w).alloc (Nat.le_refl _) _⟩
set_option maxRecDepth 100000 in
set_option maxHeartbeats 4000000 in
theorem collectQ_calls (B b : Nat) (r : Row PortR) (w : World) (h : RowAt portL 6 B r w) (hB : B ≤ b) (hBw : B ≤ w.heap.size) (hm : MapU [] b w) (hid : ∀ x ∈ r.l, x.id < 65536) (hn : r.l.length ≤ 1048576) :
    Calls Try.prog 38 #[.slice r.a r.l.length r.c, .func (.func 39) #[] #[], .func (.func 37) #[.map (some b)] #[]] w
      fun e w' => (∃ v : Int, e = .returned (.int .i64 v)) ∧ MapU (r.l.map (·.id)) b w' ∧ But (fun i => i = b) w w' := by
  have HAT := hide (fun W (hW : But (fun i => i = b) w W) => h.below (hW.below hBw (fun k hk e => by omega)))
  have hcap := h.2
  have HID := hide hid
  have HM0 := hide hm
  have eF : ∀ args w, (callFunc 39 args).run Try.prog w = .ok (.enter 39 args) w := enters_of Try.func39 (by kernel_rfl) rfl
  have eG : ∀ args w, (callFunc 37 args).run Try.prog w = .ok (.enter 37 args) w := enters_of Try.func37 (by kernel_rfl) rfl
  obtain ⟨l, a, c⟩ := r
  simp only at hcap HAT HID hn ⊢
  obtain ⟨n, hnn⟩ : ∃ n, n = l.length := ⟨_, rfl⟩
  have HN := hide hnn
  rw [← hnn] at hcap hn ⊢
  have hnI : (n : Int) ≤ 1048576 := by omega
  have hcI : (n : Int) ≤ (c : Int) := by omega
  clear h hcap hB hBw hm hid hnn hn
  go_enter Try.func38, Try.ntmps38
  go_wp2
  go_loopw [7, 12] (fun s v wr => ∃ (k : Nat) (f : Int), k ≤ n ∧ v = .int .i64 (k : Int) ∧ s = .int .i64 f ∧ Hid (MapU ((l.take k).map (·.id)) b wr ∧ But (fun i => i = b) w wr)) (fun _ v _ => n - (intOf v).toNat)
  case atStart => exact ⟨0, -1, Nat.zero_le _, rfl, rfl, hide ⟨HM0.out, But.refl _ _⟩⟩
  case round =>
    obtain ⟨k, f, hk, rfl, rfl, hrel⟩ := hrel
    by_cases hlt : k < n
    · have hlt2 : (k : Int) < (n : Int) := by omega
      have hkl : k < l.length := by have := HN.out; omega
      obtain ⟨bb, o, rfl, hab, x0, x1, x2, x3, x4, x5⟩ := port_at (HAT.out wr hrel.out.2) k hkl
      simp only at x0 x1 x2 x3 x4 x5
      have HLEN : Hid (((l.take k).map (·.id)).length = k) := hide (by rw [List.length_map, List.length_take]; omega)
      have HSN : Hid ((l.take (k + 1)).map (·.id) = (l.take k).map (·.id) ++ [l[k].id]) := hide (by rw [List.take_succ_eq_append_getElem hkl, List.map_append]; rfl)
      have hid2 := HID.out l[k] (List.getElem_mem _)
      have HADD := hide (fun W (hW : MapU ((l.take k).map (·.id)) b W) => add_calls _ b l[k].id W hW hid2 (by rw [HLEN.out]; omega))
      rw [HLEN.out] at HADD
      have HM := hide hrel.out.1
      have HB := hide hrel.out.2
      have hz : bb < wr.heap.size := cell_lt x0
      generalize l[k] = x at *
      have HKK := hide (fun W => idQ_calls x.id x.part x.size x.name x.out x.que W)
      generalize decide (x.id ∈ (l.take k).map (·.id)) = dd at *
      obtain ⟨r, hr⟩ : ∃ r, r = !dd := ⟨_, rfl⟩
      rw [← hr] at HADD
      clear hr hid2 hrel hab
      have f1 : (wr.alloc (.cells #[.int .u16 (x.id : Int), .int .u16 (x.part : Int), .string x.name, .bool x.out, .bool x.que, .int .u32 (x.size : Int)] 55)).heap.size = wr.heap.size + 1 := by simp
      have HF1 := hide f1
      clear f1
      by_cases hf : f < 0
      · have f0 : decide (f < 0) = true := by simpa using hf
        cases r
        all_goals
          go_wp2_with (first
            | (go_at_call 39; refine (HKK.out _).mono ?_; rintro e w2 ⟨rfl, hb⟩; have HM2 := hide ((HM.out.alloc _).kept (grown_of_below hb none) (by simp)); have HB2 := hide ((HB.out.alloc _).trans (But.of_below hb)); clear hb)
            | (go_at_call 37; refine (HADD.out _ HM2.out).mono ?_; rintro e w3 ⟨rfl, hm3, hg3⟩; have HR3 : Hid (MapU ((l.take (k + 1)).map (·.id)) b w3 ∧ But (fun i => i = b) w w3) := hide ⟨by rw [HSN.out]; exact hm3, HB2.out.grown hg3 (fun r e => by cases e; exact .inl rfl)⟩; clear hm3 hg3))
          go_roundw
          case rel => first | exact ⟨k + 1, _, by omega, by go_num, rfl, HR3⟩
          case measure => simp [intOf]; omega
      · have f0 : decide (f < 0) = false := by simpa using hf
        cases r
        all_goals
          go_wp2_with (first
            | (go_at_call 39; refine (HKK.out _).mono ?_; rintro e w2 ⟨rfl, hb⟩; have HM2 := hide ((HM.out.alloc _).kept (grown_of_below hb none) (by simp)); have HB2 := hide ((HB.out.alloc _).trans (But.of_below hb)); clear hb)
            | (go_at_call 37; refine (HADD.out _ HM2.out).mono ?_; rintro e w3 ⟨rfl, hm3, hg3⟩; have HR3 : Hid (MapU ((l.take (k + 1)).map (·.id)) b w3 ∧ But (fun i => i = b) w w3) := hide ⟨by rw [HSN.out]; exact hm3, HB2.out.grown hg3 (fun r e => by cases e; exact .inl rfl)⟩; clear hm3 hg3))
          go_roundw
          case rel => first | exact ⟨k + 1, _, by omega, by go_num, rfl, HR3⟩
          case measure => simp [intOf]; omega
    · have hkn : k = n := by omega
      subst hkn
      have HE : Hid (MapU (l.map (·.id)) b wr) := hide (by have := hrel.out.1; rwa [List.take_of_length_le (by rw [HN.out]; exact Nat.le_refl _)] at this)
      have HB := hide hrel.out.2
      clear hlt hk hrel
      go_wp2
      go_ret
      exact ⟨⟨f, rfl⟩, HE.out, HB.out⟩
set_option maxHeartbeats 1000000 in
theorem idC_calls (y sr dn dc : Nat) (da : Option Addr) (w : World) : Calls Try.prog 41 #[.agg #[.int .u16 (y : Int), .int .u16 (sr : Int), .slice da dn dc]] w fun e w' => e = .returned (.int .u16 (y : Int)) ∧ Below w.heap.size w w' := by
  go_enter Try.func41, Try.ntmps41
  go_wp2
  go_ret
  exact ⟨rfl, (Below.refl _ w).alloc (Nat.le_refl _) _⟩
set_option maxRecDepth 100000 in
set_option maxHeartbeats 4000000 in
theorem collectC_calls (B b : Nat) (r : Row ChanR) (w : World) (h : RowAt chanL 3 B r w) (hB : B ≤ b) (hBw : B ≤ w.heap.size) (hm : MapU [] b w) (hid : ∀ x ∈ r.l, x.id < 65536) (hn : r.l.length ≤ 1048576) :
    Calls Try.prog 40 #[.slice r.a r.l.length r.c, .func (.func 41) #[] #[], .func (.func 37) #[.map (some b)] #[]] w
      fun e w' => (∃ v : Int, e = .returned (.int .i64 v)) ∧ MapU (r.l.map (·.id)) b w' ∧ But (fun i => i = b) w w' := by
  have HAT := hide (fun W (hW : But (fun i => i = b) w W) => h.below (hW.below hBw (fun k hk e => by omega)))
  have hcap := h.2
  have HID := hide hid
  have HM0 := hide hm
  have eF : ∀ args w, (callFunc 41 args).run Try.prog w = .ok (.enter 41 args) w := enters_of Try.func41 (by kernel_rfl) rfl
  have eG : ∀ args w, (callFunc 37 args).run Try.prog w = .ok (.enter 37 args) w := enters_of Try.func37 (by kernel_rfl) rfl
  obtain ⟨l, a, c⟩ := r
  simp only at hcap HAT HID hn ⊢
  obtain ⟨n, hnn⟩ : ∃ n, n = l.length := ⟨_, rfl⟩
  have HN := hide hnn
  rw [← hnn] at hcap hn ⊢
  have hnI : (n : Int) ≤ 1048576 := by omega
  have hcI : (n : Int) ≤ (c : Int) := by omega
  clear h hcap hB hBw hm hid hnn hn
  go_enter Try.func40, Try.ntmps40
  go_wp2
  go_loopw [7, 12] (fun s v wr => ∃ (k : Nat) (f : Int), k ≤ n ∧ v = .int .i64 (k : Int) ∧ s = .int .i64 f ∧ Hid (MapU ((l.take k).map (·.id)) b wr ∧ But (fun i => i = b) w wr)) (fun _ v _ => n - (intOf v).toNat)
  case atStart => exact ⟨0, -1, Nat.zero_le _, rfl, rfl, hide ⟨HM0.out, But.refl _ _⟩⟩
  case round =>
    obtain ⟨k, f, hk, rfl, rfl, hrel⟩ := hrel
    by_cases hlt : k < n
    · have hlt2 : (k : Int) < (n : Int) := by omega
      have hkl : k < l.length := by have := HN.out; omega
      obtain ⟨bb, o, rfl, hab, x0, x1, x2⟩ := chan_at (HAT.out wr hrel.out.2) k hkl
      simp only at x0 x1 x2
      have HLEN : Hid (((l.take k).map (·.id)).length = k) := hide (by rw [List.length_map, List.length_take]; omega)
      have HSN : Hid ((l.take (k + 1)).map (·.id) = (l.take k).map (·.id) ++ [l[k].id]) := hide (by rw [List.take_succ_eq_append_getElem hkl, List.map_append]; rfl)
      have hid2 := HID.out l[k] (List.getElem_mem _)
      have HADD := hide (fun W (hW : MapU ((l.take k).map (·.id)) b W) => add_calls _ b l[k].id W hW hid2 (by rw [HLEN.out]; omega))
      rw [HLEN.out] at HADD
      have HM := hide hrel.out.1
      have HB := hide hrel.out.2
      have hz : bb < wr.heap.size := cell_lt x0
      generalize l[k] = x at *
      have HKK := hide (fun W => idC_calls x.id x.src x.dests.length x.cap x.at_ W)
      generalize decide (x.id ∈ (l.take k).map (·.id)) = dd at *
      obtain ⟨r, hr⟩ : ∃ r, r = !dd := ⟨_, rfl⟩
      rw [← hr] at HADD
      clear hr hid2 hrel hab
      have f1 : (wr.alloc (.cells #[.int .u16 (x.id : Int), .int .u16 (x.src : Int), .slice x.at_ x.dests.length x.cap] 79)).heap.size = wr.heap.size + 1 := by simp
      have HF1 := hide f1
      clear f1
      by_cases hf : f < 0
      · have f0 : decide (f < 0) = true := by simpa using hf
        cases r
        all_goals
          go_wp2_with (first
            | (go_at_call 41; refine (HKK.out _).mono ?_; rintro e w2 ⟨rfl, hb⟩; have HM2 := hide ((HM.out.alloc _).kept (grown_of_below hb none) (by simp)); have HB2 := hide ((HB.out.alloc _).trans (But.of_below hb)); clear hb)
            | (go_at_call 37; refine (HADD.out _ HM2.out).mono ?_; rintro e w3 ⟨rfl, hm3, hg3⟩; have HR3 : Hid (MapU ((l.take (k + 1)).map (·.id)) b w3 ∧ But (fun i => i = b) w w3) := hide ⟨by rw [HSN.out]; exact hm3, HB2.out.grown hg3 (fun r e => by cases e; exact .inl rfl)⟩; clear hm3 hg3))
          go_roundw
          case rel => first | exact ⟨k + 1, _, by omega, by go_num, rfl, HR3⟩
          case measure => simp [intOf]; omega
      · have f0 : decide (f < 0) = false := by simpa using hf
        cases r
        all_goals
          go_wp2_with (first
            | (go_at_call 41; refine (HKK.out _).mono ?_; rintro e w2 ⟨rfl, hb⟩; have HM2 := hide ((HM.out.alloc _).kept (grown_of_below hb none) (by simp)); have HB2 := hide ((HB.out.alloc _).trans (But.of_below hb)); clear hb)
            | (go_at_call 37; refine (HADD.out _ HM2.out).mono ?_; rintro e w3 ⟨rfl, hm3, hg3⟩; have HR3 : Hid (MapU ((l.take (k + 1)).map (·.id)) b w3 ∧ But (fun i => i = b) w w3) := hide ⟨by rw [HSN.out]; exact hm3, HB2.out.grown hg3 (fun r e => by cases e; exact .inl rfl)⟩; clear hm3 hg3))
          go_roundw
          case rel => first | exact ⟨k + 1, _, by omega, by go_num, rfl, HR3⟩
          case measure => simp [intOf]; omega
    · have hkn : k = n := by omega
      subst hkn
      have HE : Hid (MapU (l.map (·.id)) b wr) := hide (by have := hrel.out.1; rwa [List.take_of_length_le (by rw [HN.out]; exact Nat.le_refl _)] at this)
      have HB := hide hrel.out.2
      clear hlt hk hrel
      go_wp2
      go_ret
      exact ⟨⟨f, rfl⟩, HE.out, HB.out⟩
end Go.Proofs.Ythccadabblkalaa
