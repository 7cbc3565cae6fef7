/- The laws NumMultiples and NumMultiplies walked. -/
import Derived.Test.YtpagiomachamkaaDoorNuLaws2
import Derived.OwnWalk
import Derived.Maps.AppendAt
namespace Go.Proofs.YtpagiomachamkaaDoor
open Go.RowKit Go.Lib

set_option maxHeartbeats 2000000 in
theorem NumMultiples_calls (A : Option Addr) (len cap : Nat) (l : List Nat) (hl : l.length = len) (hlen : len ≤ 9223372036854775807) (hx : ∀ x ∈ l, x < top64) (w : World)
    (hr : Reads w w.heap.size 1 A len (l.map U64)) (hv : Vars w) :
    Calls Tryd.prog 5 #[.slice A len cap] w fun e w' => e = .returned (.bool true) ∧ Below w.heap.size w w' := by
  have HV := hide hv
  have HR := hide hr
  have HL := hide hl
  have HX := hide hx
  by_cases hn : len ≤ 300
  · have h1 := Lcm_calls A len cap l hl (by omega) hx w hr
    have h2 := fun W (hb : Below w.heap.size w W) => RefLcm_calls A len cap l hl (by omega) hx W ((hr.below hb).more hb.size)
    unfold FoldV at h1 h2
    cases hR : foldO commonO 1 l with
    | none =>
      rw [hR, optV] at h1 h2
      have H1 := hide h1
      have H2 := hide h2
      clear h1 h2 hr hx hv hl hR
      go_enter Tryd.func5, Tryd.ntmps5
      go_wp2_with (first
        | (go_at_call 18; refine H1.out.mono ?_; rintro e w1 ⟨rfl, hb1⟩)
        | (go_at_call 19; refine (H2.out _ hb1).mono ?_; rintro e w2 ⟨rfl, hbx⟩; have hb2 := hb1.trans (hbx.mono hb1.size); clear hbx))
      go_loopw [33] (fun i wr => ∃ k : Nat, k ≤ len ∧ i = .int .i64 (k : Int) ∧ Below w.heap.size w wr) (fun i _ => len - (RowKit.intOf i).toNat)
      case atStart => exact ⟨0, Nat.zero_le _, rfl, hb2⟩
      case round =>
        obtain ⟨k, hk, rfl, hbl⟩ := hrel
        by_cases hlt : k < len
        · obtain ⟨ad, x, hA, hbk, hcell, hxl, hdrop⟩ := reads_at HR.out HL.out HX.out hlt hbl
          subst hA
          clear hdrop hxl
          go_wp2_with fail
          go_roundw
          case rel => first | exact ⟨k + 1, by omega, by go_num, hbl⟩ | ((repeat apply Exists.intro); exact ⟨⟨k + 1, by omega, by go_num, hbl⟩, rfl⟩)
          case measure => simp [RowKit.intOf]; omega
        · obtain rfl : k = len := by omega
          go_wp2_with (go_at_call 9; refine (alive_calls _ (HV.out.below hbl)).mono ?_; rintro e w6 ⟨rfl, hb6⟩)
          go_ret
          exact ⟨rfl, hbl.trans (hb6.mono hbl.size)⟩
    | some n =>
      have hdv : ∀ x ∈ l, divB x n = true := fun x hx => by
        obtain ⟨_, _, h3⟩ := fold_common l 1 n (by omega) hR
        obtain ⟨h4, h5⟩ := h3 x hx
        unfold divB
        exact decide_eq_true ⟨h4, Nat.mod_eq_zero_of_dvd h5⟩
      have HD := hide hdv
      rw [hR, optV] at h1 h2
      have H1 := hide h1
      have H2 := hide h2
      clear h1 h2 hr hx hv hl hR hdv
      go_enter Tryd.func5, Tryd.ntmps5
      go_wp2_with (first
        | (go_at_call 18; refine H1.out.mono ?_; rintro e w1 ⟨rfl, hb1⟩)
        | (go_at_call 19; refine (H2.out _ hb1).mono ?_; rintro e w2 ⟨rfl, hbx⟩; have hb2 := hb1.trans (hbx.mono hb1.size); clear hbx))
      go_loopw [33] (fun i wr => ∃ k : Nat, k ≤ len ∧ i = .int .i64 (k : Int) ∧ Below w.heap.size w wr) (fun i _ => len - (RowKit.intOf i).toNat)
      case atStart => exact ⟨0, Nat.zero_le _, rfl, hb2⟩
      case round =>
        obtain ⟨k, hk, rfl, hbl⟩ := hrel
        by_cases hlt : k < len
        · obtain ⟨ad, x, hA, hbk, hcell, hxl, hdrop⟩ := reads_at HR.out HL.out HX.out hlt hbl
          subst hA
          have hD := fun W => Divides_calls x n W
          rw [HD.out x (List.mem_of_mem_drop (i := k) (by rw [hdrop]; simp))] at hD
          have HD2 := hide hD
          clear hdrop hxl hD
          go_wp2_with (go_at_call 20; refine (HD2.out _).mono ?_; rintro e w4 ⟨rfl, rfl⟩)
          go_roundw
          case rel => first | exact ⟨k + 1, by omega, by go_num, hbl⟩ | ((repeat apply Exists.intro); exact ⟨⟨k + 1, by omega, by go_num, hbl⟩, rfl⟩)
          case measure => simp [RowKit.intOf]; omega
        · obtain rfl : k = len := by omega
          go_wp2_with (go_at_call 9; refine (alive_calls _ (HV.out.below hbl)).mono ?_; rintro e w6 ⟨rfl, hb6⟩)
          go_ret
          exact ⟨rfl, hbl.trans (hb6.mono hbl.size)⟩
  · have hni : (300 : Int) < (len : Int) := by omega
    clear hr hx hv hl
    go_enter Tryd.func5, Tryd.ntmps5
    go_wp2_with (go_at_call 9; refine (alive_calls _ HV.out).mono ?_; rintro e w6 ⟨rfl, hb6⟩)
    go_ret
    exact ⟨rfl, hb6⟩

theorem own_low_ {w : World} {X n size : Nat} {e : TypeId} {v : Value} {xs : List Value} (h : w.ownsRow X e size v n xs) : ∀ k, v.ownBlock = some k → X ≤ k := by
  intro k hk
  rcases h.2 with ⟨rfl, _⟩ | ⟨g, cap, cur, rfl, hb, _⟩
  · simp [Value.ownBlock] at hk
  · simp [Value.ownBlock] at hk; omega
theorem own_slice_ {w : World} {base : Nat} {e : TypeId} {v : Value} {n : Nat} {xs : List Value} (h : w.ownsRow base e 1 v n xs) : ∃ a c, v = .slice a n c := by
  rcases h.2 with ⟨rfl, h0⟩ | ⟨g, cap, cur, rfl, _⟩
  · rw [h0]; exact ⟨_, _, rfl⟩
  · exact ⟨_, _, rfl⟩
theorem u64_info : (Tryd.prog.info? 24).map (fun i => (i.zero, i.size, i.bytes)) = some (some (.int .u64 0), 1, 8) := by kernel_rfl
theorem mulL_reverse (l : List Nat) : mulL l.reverse = mulL l := by
  unfold mulL
  by_cases h : 0 ∈ l
  · rw [if_pos h, if_pos (by simpa using h)]
  · rw [if_neg h, if_neg (by simpa using h), fold_times _ 1 (by decide) (by simpa using h), fold_times _ 1 (by decide) h, prod_reverse]
theorem rev_at (l : List Nat) (k : Nat) (hk : k < l.length) : l.reverse.take (k + 1) = l.reverse.take k ++ [l[l.length - 1 - k]'(by omega)] := by
  rw [List.take_succ_eq_append_getElem (by simpa using hk), List.getElem_reverse]
theorem reads_val {w wr : World} {A : Option Addr} {len k : Nat} {l : List Nat} (hr : Reads w w.heap.size 1 A len (l.map U64)) (hl : l.length = len) (hk : k < l.length) (hb : Below w.heap.size w wr) :
    ∃ (ad : Addr), A = some ad ∧ wr.cell? (ad.add k) = some (.int .u64 (l[k] : Int)) := by
  obtain ⟨ad, u, hA, hbk, hu, hc⟩ := (hr.below hb).at_ (k := k) (by omega)
  rw [List.getElem?_map, List.getElem?_eq_getElem hk] at hu
  injection hu with hu
  subst hu
  exact ⟨ad, hA, hc⟩

set_option maxHeartbeats 2000000 in
theorem NumMultiplies_calls (A : Option Addr) (len cap : Nat) (l : List Nat) (hl : l.length = len) (hlen : len ≤ 9223372036854775807) (hx : ∀ x ∈ l, x < top64) (w : World)
    (hr : Reads w w.heap.size 1 A len (l.map U64)) (hv : Vars w) :
    Calls Tryd.prog 7 #[.slice A len cap] w fun e w' => e = .returned (.bool true) ∧ Below w.heap.size w w' := by
  have HV := hide hv
  have HR := hide hr
  have HL := hide hl
  have HX := hide hx
  by_cases hn : len ≤ 300
  · obtain ⟨i0, hi, hz0, hz1, hz2⟩ := info_parts u64_info
    have h1 := Mul_calls A len cap l hl (by omega) hx w hr
    have h2 := fun W (hb : Below w.heap.size w W) => RefMul_calls A len cap l hl (by omega) hx W ((hr.below hb).more hb.size)
    have h3 := fun W (B : Option Addr) (c : Nat) (hB : Reads W W.heap.size 1 B len (l.reverse.map U64)) => Mul_calls B len c l.reverse (by simpa using hl) (by omega) (fun x h => hx x (by simpa using h)) W hB
    rw [mulL_reverse] at h3
    unfold FoldV at h1 h2 h3
    obtain ⟨m, q, hs⟩ := optV_shape (mulL l)
    rw [hs] at h1 h2 h3
    have H1 := hide h1
    have H2 := hide h2
    have H3 := hide h3
    clear h1 h2 h3 hr hx hv hl hs
    go_enter Tryd.func7, Tryd.ntmps7
    go_wp2_with (first
      | (go_at_call 23; refine H1.out.mono ?_; rintro e w1 ⟨rfl, hb1⟩)
      | (go_at_call 24; refine (H2.out _ hb1).mono ?_; rintro e w2 ⟨rfl, hbx⟩; have hb2 := hb1.trans (hbx.mono hb1.size); clear hbx))
    go_loopw [7, 27] (fun v i wr => ∃ k : Nat, k ≤ len ∧ i = .int .i64 (k : Int) ∧ Hid (wr.ownsRow w.heap.size 24 1 v k ((l.reverse.take k).map U64)) ∧ Below w.heap.size w wr) (fun _ i _ => len - (RowKit.intOf i).toNat)
    case atStart => exact ⟨0, Nat.zero_le _, rfl, ⟨by simp, .inl ⟨rfl, rfl⟩⟩, hb2⟩
    case round =>
      obtain ⟨k, hk, rfl, hown, hbl⟩ := hrel
      by_cases hlt : k < len
      · have hkl : l.length - 1 - k < l.length := by have := HL.out; omega
        obtain ⟨ad, hA, hcell⟩ := reads_val HR.out HL.out hkl hbl
        have hrev := hide (rev_at l k (by have := HL.out; omega))
        obtain ⟨x, hxx⟩ : ∃ x, x = l[l.length - 1 - k] := ⟨_, rfl⟩
        rw [← hxx] at hcell hrev
        have hadr : l.length - 1 - k = len - 1 - k := by rw [HL.out]
        rw [hadr] at hcell
        clear hxx hadr hkl
        subst hA
        obtain ⟨a, c, hvs⟩ := own_slice_ hown.out
        subst hvs
        have h1c : ∀ u ∈ [Value.int .u64 (x : Int)], u.oneCell' = true := by intro u hu; simp at hu; rw [hu]; rfl
        have hsz := hbl.size
        go_wp2_with (at_builtin; go_must (refine wpList_append_own_at _ rfl (.tmp 30) (.tmp 39) 22 rfl w.heap.size 24 i0 _ 1 8 Tryd.underlying22 hi hz0 hz1 hz2 rfl (by decide) (.slice a k c) k ((l.reverse.take k).map U64) rfl (hown.out.alloc _) _ 1 1 [.int .u64 (x : Int)] rfl rfl (cell_one_at _ _ _ _ rfl) h1c (by simp only [maxLen]; omega) (by omega) (by simp; omega) ?_); intro v' w3 hown' hg hnl hat; have HO := hide (show w3.ownsRow w.heap.size 24 1 v' (k + 1) ((l.reverse.take (k + 1)).map U64) by rw [hrev.out, List.map_append]; exact hown'); have hb3 := (hbl.alloc hsz _).grown hg (by simp; omega) (own_low_ hown.out); have HB := hide hb3; clear hown' hg hnl hat hb3)
        go_roundw
        case rel => first | exact ⟨k + 1, by omega, by go_num, HO, HB.out⟩ | ((repeat apply Exists.intro); exact ⟨⟨k + 1, by omega, by go_num, HO, HB.out⟩, rfl⟩)
        case measure => simp [RowKit.intOf]; omega
      · obtain rfl : k = len := by omega
        obtain ⟨a, c, hvs⟩ := own_slice_ hown.out
        subst hvs
        have hRv := hide (show Reads wr wr.heap.size 1 a k (l.reverse.map U64) from by
          have h := hown.out
          rw [List.take_of_length_le (by simp; have := HL.out; omega)] at h
          exact Reads.of_own h)
        go_wp2_with (first
          | (go_at_call 23; refine (H3.out _ _ _ hRv.out).mono ?_; rintro e w4 ⟨rfl, hbx⟩; have hb4 := hbl.trans (hbx.mono hbl.size); clear hbx)
          | (go_at_call 9; refine (alive_calls _ (HV.out.below hb4)).mono ?_; rintro e w6 ⟨rfl, hb6⟩))
        go_ret
        exact ⟨rfl, hb4.trans (hb6.mono hb4.size)⟩
  · have hni : (300 : Int) < (len : Int) := by omega
    clear hr hx hv hl
    go_enter Tryd.func7, Tryd.ntmps7
    go_wp2_with (go_at_call 9; refine (alive_calls _ HV.out).mono ?_; rintro e w6 ⟨rfl, hb6⟩)
    go_ret
    exact ⟨rfl, hb6⟩
end Go.Proofs.YtpagiomachamkaaDoor
