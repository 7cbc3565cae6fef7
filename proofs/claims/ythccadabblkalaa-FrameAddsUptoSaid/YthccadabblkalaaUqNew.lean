/- uniq.collect at ports' names, uniq.New, (*Index).Partition (chapter 13). -/
import Derived.Test.YthccadabblkalaaUqCollect
namespace Go.Proofs.Ythccadabblkalaa
open Go.RowKit Go.Sort Go.Maps Go.ChangeShapes Go.WideShapes Go.Joins
set_option linter.unusedVariables false

set_option maxHeartbeats 1000000 in
theorem nameQ_calls (y pa sz : Nat) (nm : ByteArray) (ou qu : Bool) (w : World) : Calls Try.prog 43 #[.agg #[.int .u16 (y : Int), .int .u16 (pa : Int), .string nm, .bool ou, .bool qu, .int .u32 (sz : Int)]] w fun e w' => e = .returned (.agg #[.int .u16 (pa : Int), .string nm]) ∧ Below w.heap.size w w' := by
  go_enter Try.func43, Try.ntmps43
  go_wp2
  refine bodyPost_ret (v := .agg #[.int .u16 (pa : Int), .string nm]) (by simp [results, Try.results43, go_sem]) rfl ⟨rfl, ?_⟩
  exact ((Below.refl _ w).alloc (Nat.le_refl _) _).alloc (by simp) _
set_option maxRecDepth 100000 in
set_option maxHeartbeats 2000000 in
theorem addN_calls (n b pa : Nat) (nm : ByteArray) (W : World) (h : MapN n b W) (hp : pa < 65536) (hs : nm.size ≤ 9223372036854775807) (hl : n ≤ 1048576) :
    Calls Try.prog 44 #[.map (some b), .agg #[.int .u16 (pa : Int), .string nm], .int .i64 (n : Int)] W fun e w' => (∃ r, e = .returned (.bool r)) ∧ MapN (n + 1) b w' ∧ But (fun i => i = b) W w' := by
  obtain ⟨D, hown⟩ := h
  obtain ⟨kl, hkl⟩ := keyN pa nm hp hs
  have HK := hide hkl
  have HOWN := hide (hown.alloc (.cells #[.int .u16 (pa : Int), .string nm] 96))
  have HB := hide ((But.refl (fun i => i = b) W).alloc (.cells #[.int .u16 (pa : Int), .string nm] 96))
  obtain ⟨hh, hhe⟩ : ∃ r, r = Maps.has D kl := ⟨_, rfl⟩
  have HH := hide hhe
  clear hown hkl hs hp hhe
  cases hh
  · go_enter Try.func44, Try.ntmps44
    go_wp2_with (first
      | (at_lookup; refine wpList_lookup_own_ok_int _ rfl _ _ 84 rfl 96 3 .i64 lawN Try.underlying84 Try.underlying3 (zeroI _) b n D rfl HOWN.out _ _ rfl HK.out ?_; intro c hat hwc; rw [← HH.out]; clear hat)
      | (at_mapUpdate; refine wpList_mapUpdate_own _ rfl _ _ _ 84 rfl 96 3 lawN Try.underlying84 _ b n D rfl HOWN.out (by simp only [maxLen]; omega) _ _ _ rfl rfl HK.out (.lit (.int .i64 (n : Int))) [] (plainElem_int Try.underlying3 (wf_i64 (by omega))) ?_; intro w1 hown1 hgrow1; have HO1 := hide hown1; have HB1 := hide (HB.out.grown hgrow1 (fun r e => by cases e; exact .inl rfl)); clear hown1 hgrow1))
    go_ret
    exact ⟨⟨_, rfl⟩, ⟨_, HO1.out⟩, HB1.out⟩
  · go_enter Try.func44, Try.ntmps44
    go_wp2_with (at_lookup; refine wpList_lookup_own_ok_int _ rfl _ _ 84 rfl 96 3 .i64 lawN Try.underlying84 Try.underlying3 (zeroI _) b n D rfl HOWN.out _ _ rfl HK.out ?_; intro c hat hwc; rw [← HH.out]; clear hat)
    go_ret
    exact ⟨⟨_, rfl⟩, ⟨D, HOWN.out.mono (Nat.le_succ _)⟩, HB.out⟩
set_option maxRecDepth 100000 in
set_option maxHeartbeats 4000000 in
theorem collectN_calls (B b : Nat) (r : Row PortR) (w : World) (h : RowAt portL 6 B r w) (hB : B ≤ b) (hBw : B ≤ w.heap.size) (hm : MapN 0 b w) (hid : ∀ x ∈ r.l, x.part < 65536 ∧ x.name.size ≤ 9223372036854775807) (hn : r.l.length ≤ 1048576) :
    Calls Try.prog 42 #[.slice r.a r.l.length r.c, .func (.func 43) #[] #[], .func (.func 44) #[.map (some b)] #[]] w
      fun e w' => (∃ v : Int, e = .returned (.int .i64 v)) ∧ But (fun i => i = b) w w' := by
  have HAT := hide (fun W (hW : But (fun i => i = b) w W) => h.below (hW.below hBw (fun k hk e => by omega)))
  have hcap := h.2
  have HID := hide hid
  have HM0 := hide hm
  have eF : ∀ args w, (callFunc 43 args).run Try.prog w = .ok (.enter 43 args) w := enters_of Try.func43 (by kernel_rfl) rfl
  have eG : ∀ args w, (callFunc 44 args).run Try.prog w = .ok (.enter 44 args) w := enters_of Try.func44 (by kernel_rfl) rfl
  obtain ⟨l, a, c⟩ := r
  simp only at hcap HAT HID hn ⊢
  obtain ⟨n, hnn⟩ : ∃ n, n = l.length := ⟨_, rfl⟩
  have HN := hide hnn
  rw [← hnn] at hcap hn ⊢
  have hnI : (n : Int) ≤ 1048576 := by omega
  have hcI : (n : Int) ≤ (c : Int) := by omega
  clear h hcap hB hBw hm hid hnn hn
  go_enter Try.func42, Try.ntmps42
  go_wp2
  go_loopw [7, 12] (fun s v wr => ∃ (k : Nat) (f : Int), k ≤ n ∧ v = .int .i64 (k : Int) ∧ s = .int .i64 f ∧ Hid (MapN k b wr ∧ But (fun i => i = b) w wr)) (fun _ v _ => n - (intOf v).toNat)
  case atStart => exact ⟨0, -1, Nat.zero_le _, rfl, rfl, hide ⟨HM0.out, But.refl _ _⟩⟩
  case round =>
    obtain ⟨k, f, hk, rfl, rfl, hrel⟩ := hrel
    by_cases hlt : k < n
    · have hlt2 : (k : Int) < (n : Int) := by omega
      have hkl : k < l.length := by have := HN.out; omega
      obtain ⟨bb, o, rfl, hab, x0, x1, x2, x3, x4, x5⟩ := port_at (HAT.out wr hrel.out.2) k hkl
      simp only at x0 x1 x2 x3 x4 x5
      have hid2 := HID.out l[k] (List.getElem_mem _)
      have HADD := hide (fun W (hW : MapN k b W) => addN_calls k b l[k].part l[k].name W hW hid2.1 hid2.2 (by omega))
      have HM := hide hrel.out.1
      have HB := hide hrel.out.2
      have hz : bb < wr.heap.size := cell_lt x0
      generalize l[k] = x at *
      have HKK := hide (fun W => nameQ_calls x.id x.part x.size x.name x.out x.que W)
      clear hid2 hrel hab
      by_cases hf : f < 0
      · have f0 : decide (f < 0) = true := by simpa using hf
        go_wp2_with (first
          | (go_at_call 43; refine (HKK.out _).mono ?_; rintro e w2 ⟨rfl, hb⟩; have HM2 := hide ((HM.out.alloc _).kept (grown_of_below hb none) (by simp)); have HB2 := hide ((HB.out.alloc _).trans (But.of_below hb)); clear hb)
          | (go_at_call 44; refine (HADD.out _ HM2.out).mono ?_; rintro e w3 ⟨⟨r, rfl⟩, hm3, hg3⟩; have HR3 : Hid (MapN (k + 1) b w3 ∧ But (fun i => i = b) w w3) := hide ⟨hm3, HB2.out.trans hg3⟩; clear hm3 hg3; cases r))
        all_goals
          go_wp2
          go_roundw
          case rel => first | exact ⟨k + 1, _, by omega, by go_num, rfl, HR3⟩
          case measure => simp [intOf]; omega
      · have f0 : decide (f < 0) = false := by simpa using hf
        go_wp2_with (first
          | (go_at_call 43; refine (HKK.out _).mono ?_; rintro e w2 ⟨rfl, hb⟩; have HM2 := hide ((HM.out.alloc _).kept (grown_of_below hb none) (by simp)); have HB2 := hide ((HB.out.alloc _).trans (But.of_below hb)); clear hb)
          | (go_at_call 44; refine (HADD.out _ HM2.out).mono ?_; rintro e w3 ⟨⟨r, rfl⟩, hm3, hg3⟩; have HR3 : Hid (MapN (k + 1) b w3 ∧ But (fun i => i = b) w w3) := hide ⟨hm3, HB2.out.trans hg3⟩; clear hm3 hg3; cases r))
        all_goals
          go_wp2
          go_roundw
          case rel => first | exact ⟨k + 1, _, by omega, by go_num, rfl, HR3⟩
          case measure => simp [intOf]; omega
    · have hkn : k = n := by omega
      subst hkn
      have HB := hide hrel.out.2
      clear hlt hk hrel
      go_wp2
      go_ret
      exact ⟨⟨f, rfl⟩, HB.out⟩
end Go.Proofs.Ythccadabblkalaa
