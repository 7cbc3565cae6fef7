/- The walk of name.Unpad. -/
import Derived.Test.YtjmbpnakifefeaaNmUnpad0
import Derived.Deep.RegionHeld3
import Derived.Deep.RegionWith
import Derived.StillTactics
namespace Go.Proofs.Ytjmbpnakifefeaa
open Go.RowKit Go.Lib

set_option maxRecDepth 100000 in
set_option maxHeartbeats 1000000 in
theorem Unpad_calls (b : List UInt8) (hb : b.length = 30) (n : Int) (w : World) :
    Calls Try.prog 16 #[arrV b, .int .i64 n] w fun e w' => e = .returned (unpadV b n) ∧ Below w.heap.size w w' := by
  obtain ⟨br, hbr⟩ : ∃ br, br = (b.map byteV).toArray := ⟨_, rfl⟩
  have hsz : br.size = 30 := by rw [hbr]; simp [hb]
  rw [arrV, ← hbr]
  have Hbr := hide hbr
  by_cases hr : n < 0 ∨ 30 < n
  · have hV := hide (unpadV_out b n hr)
    clear hbr hb hsz
    rcases hr with hr | hr
    all_goals
      go_enter Try.func16, Try.ntmps16
      go_wp2_with fail
      go_ret2
      exact ⟨by rw [hV.out]; rfl, (Below.refl _ _).alloc (Nat.le_refl _) _⟩
  obtain ⟨k, rfl⟩ := Int.eq_ofNat_of_zero_le (by omega : 0 ≤ n)
  have hk : k ≤ 30 := by omega
  have hB : Blk (w.alloc (.cells br 32)) w.heap.size 32 br := Blk.new w _ _
  have hstr := str_take (w.alloc (.cells br 32)) w.heap.size b k hk hb (by rw [← hbr]; exact hB)
  have hne := fun x hx w => arr_neq x b hx hb w
  rw [← hbr] at hne
  have Hne := hide hne
  have Hpb := hide (pad_back b k hb hk)
  have HB := hide hB
  have Hsz := hide hsz
  have hS0 : Hid (Keeps w w.heap.size br (w.alloc (.cells br 32))) := ⟨hB, (Below.refl _ _).alloc (Nat.le_refl _) _⟩
  clear hne hbr hB hsz
  have hst2 : ∃ st, st = (⟨(b.take k).toArray⟩ : ByteArray) := ⟨_, rfl⟩
  obtain ⟨st, hst⟩ := hst2
  rw [← hst] at hstr
  have Hst := hide hst
  clear hst
  go_enter Try.func16, Try.ntmps16
  go_wp2_with fail
  have hu := Try.underlying32
  have hi : (Try.prog.info? 32).map (·.size) = some br.toList.length := by rw [Array.length_toList, Hsz.out]; exact arr_info
  have hl30 : br.toList.length = 30 := by rw [Array.length_toList]; exact Hsz.out
  have h1 : ∀ v ∈ br.toList, v.oneCell' = true := by
    intro v hv; rw [Hbr.out] at hv; simp at hv; obtain ⟨c, _, rfl⟩ := hv; rfl
  obtain ⟨pr, hpr⟩ : ∃ pr, pr = ((padL st).map byteV).toArray := ⟨_, rfl⟩
  have Hpad := hide (fun W => Pad_calls st W)
  have hPv : Hid (arrV (padL st) = .agg pr) := by show _ = _; rw [arrV, hpr]
  have hq := Hne.out (padL st) (padL_length st)
  rw [← hpr] at hq
  have hle : w.heap.size ≤ w.heap.size := Nat.le_refl _
  generalize hq0 : (padL st == b) = q at hq
  have hvst : validS st = validL (b.take k) := by rw [Hst.out]; rfl
  cases hv : validS st
  · have hV := hide (unpadV_no b k (by unfold unpadOk; rw [← hvst, hv]; rfl))
    have Hv := hide hv
    clear hv hpr hq0 hvst
    cases q
    · refine wp_region_noPanic ?_
      refine wp_region_held_drew (S := fun w' => w'.rangeAt w.heap.size 0 br.toList ∧ Keeps w w.heap.size br w') (by kernel_rfl) (keep0 hS0.out) (fun hHeld => ?_)
      refine wpAnyH_take (i := 0) (v := ?_) rfl (by kernel_rfl) (by kernel_rfl) (by kernel_rfl) (fun _ _ _ h => h) (Or.inl ⟨by rfl, ?_⟩) (by assumption) ?_
      rotate_left
      · intro w hSw; go_simp; with_reducible rfl
      try simp only [Act.put]
      try simp only [List.setIfInBounds_toArray]
      refine' wpAnyH_take (i := 2) (v := _) rfl (by kernel_rfl) (by kernel_rfl) (by kernel_rfl) (fun _ _ _ h => h) (yieldsIf_load_mid (by rfl) _ _ rfl _ _ rfl _ _ ?hS ?hu ?hd ?hi) (by assumption) ?rest
      case hS => (intro w hSw; (try dsimp only at hSw); go_split_ands; assumption)
      case hu => assumption
      case hd => rfl
      case hi => assumption
      try simp only [Act.put]
      try simp only [List.setIfInBounds_toArray]
      refine wpAnyH_ready (rs := [1]) (by kernel_rfl) (by simp) ?_
      refine AllReadyH.cons (o := { dst := some 17, op := Op.call { callee := Callee.value (Operand.func 15), args := #[Operand.tmp 16], argTypes := #[9] }, type := 32, pos := "name.go:95", after := #[{ on := 0, ground := Ground.data }], guard := none }) rfl (fun K hK => ?_) AllReadyH.nil
      go_simp
      go_at_call 15; refine (Hpad.out _).mono ?_; rintro e w2 ⟨rfl, hbx⟩; rw [hPv.out]
      refine hK.out _ _ (keep1 hbx (by assumption) hle) (fun hHeld => ?_)
      clear hK K
      try simp only [Act.put]
      try simp only [List.setIfInBounds_toArray]
      refine wpAnyH_take (i := 3) (v := ?_) rfl (by kernel_rfl) (by kernel_rfl) (by kernel_rfl) (fun _ _ _ h => h) (Or.inl ⟨by rfl, ?_⟩) (by assumption) ?_
      rotate_left
      · intro w hSw; go_simp; with_reducible rfl
      try simp only [Act.put]
      try simp only [List.setIfInBounds_toArray]
      refine wpAnyH_take (i := 4) (v := ?_) rfl (by kernel_rfl) (by kernel_rfl) (by kernel_rfl) (fun _ _ _ h => h) (Or.inl ⟨by rfl, ?_⟩) (by assumption) ?_
      rotate_left
      · intro w hSw; go_simp; with_reducible rfl
      try simp only [Act.put]
      try simp only [List.setIfInBounds_toArray]
      refine wpAnyH_take (i := 5) rfl (by kernel_rfl) (by kernel_rfl) (by kernel_rfl) (fun _ _ _ h => h) (Or.inr ⟨by rfl, rfl⟩) (by assumption) ?_
      try simp only [Act.put]
      try simp only [List.setIfInBounds_toArray]
      refine wpAnyH_take (i := 6) rfl (by kernel_rfl) (by kernel_rfl) (by kernel_rfl) (fun _ _ _ h => h) (Or.inr ⟨by rfl, rfl⟩) (by assumption) ?_
      try simp only [Act.put]
      try simp only [List.setIfInBounds_toArray]
      refine wpAnyH_take (i := 7) rfl (by kernel_rfl) (by kernel_rfl) (by kernel_rfl) (fun _ _ _ h => h) (Or.inr ⟨by rfl, rfl⟩) (by assumption) ?_
      try simp only [Act.put]
      try simp only [List.setIfInBounds_toArray]
      refine wpAnyH_take (i := 8) (v := ?_) rfl (by kernel_rfl) (by kernel_rfl) (by kernel_rfl) (fun _ _ _ h => h) (Or.inl ⟨by rfl, ?_⟩) (by assumption) ?_
      rotate_left
      · intro w hSw; go_simp; with_reducible rfl
      try simp only [Act.put]
      try simp only [List.setIfInBounds_toArray]
      refine wpAnyH_done (by kernel_rfl) ?_ _
      refine NoPanic.normal ?_
      go_wp2
      go_ret2
      exact ⟨by rw [hV.out]; rfl, (And.right (by assumption : _ ∧ Keeps w w.heap.size br _)).2⟩
    · go_region_held3 (fun w' => w'.rangeAt w.heap.size 0 br.toList ∧ Keeps w w.heap.size br w') (first | assumption | exact keep0 hS0.out | exact keep1 hbx (by assumption) hle)
        (first | (go_at_call 15; refine (Hpad.out _).mono ?_; rintro e w2 ⟨rfl, hbx⟩; rw [hPv.out]) | (go_at_call 9; refine (Valid_calls _ _).mono ?_; rintro e w3 ⟨rfl, hbx⟩; rw [Hv.out]))
      go_wp2
      go_ret2
      exact ⟨by rw [hV.out]; rfl, (And.right (by assumption : _ ∧ Keeps w w.heap.size br _)).2⟩
  · have hpb := Hpb.out (by rw [← hvst]; exact hv)
    rw [← Hst.out, hq0] at hpb
    cases q
    · have hV := hide (unpadV_no b k (by unfold unpadOk; rw [← hvst, hv, ← hpb]; rfl))
      have Hv := hide hv
      clear hv hpr hq0 hvst hpb
      refine wp_region_noPanic ?_
      refine wp_region_held_drew (S := fun w' => w'.rangeAt w.heap.size 0 br.toList ∧ Keeps w w.heap.size br w') (by kernel_rfl) (keep0 hS0.out) (fun hHeld => ?_)
      refine wpAnyH_take (i := 0) (v := ?_) rfl (by kernel_rfl) (by kernel_rfl) (by kernel_rfl) (fun _ _ _ h => h) (Or.inl ⟨by rfl, ?_⟩) (by assumption) ?_
      rotate_left
      · intro w hSw; go_simp; with_reducible rfl
      try simp only [Act.put]
      try simp only [List.setIfInBounds_toArray]
      refine' wpAnyH_take (i := 2) (v := _) rfl (by kernel_rfl) (by kernel_rfl) (by kernel_rfl) (fun _ _ _ h => h) (yieldsIf_load_mid (by rfl) _ _ rfl _ _ rfl _ _ ?hSB ?huB ?hdB ?hiB) (by assumption) ?restB
      case hSB => (intro w hSw; (try dsimp only at hSw); go_split_ands; assumption)
      case huB => assumption
      case hdB => rfl
      case hiB => assumption
      try simp only [Act.put]
      try simp only [List.setIfInBounds_toArray]
      refine wpAnyH_ready (rs := [1]) (by kernel_rfl) (by simp) ?_
      refine AllReadyH.cons (o := { dst := some 17, op := Op.call { callee := Callee.value (Operand.func 15), args := #[Operand.tmp 16], argTypes := #[9] }, type := 32, pos := "name.go:95", after := #[{ on := 0, ground := Ground.data }], guard := none }) rfl (fun K hK => ?_) AllReadyH.nil
      go_simp
      go_at_call 15; refine (Hpad.out _).mono ?_; rintro e w2 ⟨rfl, hbx⟩; rw [hPv.out]
      refine hK.out _ _ (keep1 hbx (by assumption) hle) (fun hHeld => ?_)
      clear hK K
      try simp only [Act.put]
      try simp only [List.setIfInBounds_toArray]
      refine wpAnyH_take (i := 3) (v := ?_) rfl (by kernel_rfl) (by kernel_rfl) (by kernel_rfl) (fun _ _ _ h => h) (Or.inl ⟨by rfl, ?_⟩) (by assumption) ?_
      rotate_left
      · intro w hSw; go_simp; with_reducible rfl
      try simp only [Act.put]
      try simp only [List.setIfInBounds_toArray]
      refine wpAnyH_take (i := 4) (v := ?_) rfl (by kernel_rfl) (by kernel_rfl) (by kernel_rfl) (fun _ _ _ h => h) (Or.inl ⟨by rfl, ?_⟩) (by assumption) ?_
      rotate_left
      · intro w hSw; go_simp; with_reducible rfl
      try simp only [Act.put]
      try simp only [List.setIfInBounds_toArray]
      refine wpAnyH_take (i := 5) rfl (by kernel_rfl) (by kernel_rfl) (by kernel_rfl) (fun _ _ _ h => h) (Or.inr ⟨by rfl, rfl⟩) (by assumption) ?_
      try simp only [Act.put]
      try simp only [List.setIfInBounds_toArray]
      refine wpAnyH_take (i := 6) rfl (by kernel_rfl) (by kernel_rfl) (by kernel_rfl) (fun _ _ _ h => h) (Or.inr ⟨by rfl, rfl⟩) (by assumption) ?_
      try simp only [Act.put]
      try simp only [List.setIfInBounds_toArray]
      refine wpAnyH_take (i := 7) rfl (by kernel_rfl) (by kernel_rfl) (by kernel_rfl) (fun _ _ _ h => h) (Or.inr ⟨by rfl, rfl⟩) (by assumption) ?_
      try simp only [Act.put]
      try simp only [List.setIfInBounds_toArray]
      refine wpAnyH_take (i := 8) (v := ?_) rfl (by kernel_rfl) (by kernel_rfl) (by kernel_rfl) (fun _ _ _ h => h) (Or.inl ⟨by rfl, ?_⟩) (by assumption) ?_
      rotate_left
      · intro w hSw; go_simp; with_reducible rfl
      try simp only [Act.put]
      try simp only [List.setIfInBounds_toArray]
      refine wpAnyH_done (by kernel_rfl) ?_ _
      refine NoPanic.normal ?_
      go_wp2
      go_ret2
      exact ⟨by rw [hV.out]; rfl, (And.right (by assumption : _ ∧ Keeps w w.heap.size br _)).2⟩
    · have hV := hide (unpadV_yes b k hk (by unfold unpadOk; rw [← hvst, hv, ← hpb]; rfl))
      have Hv := hide hv
      clear hv hpr hq0 hvst hpb
      go_region_held3 (fun w' => w'.rangeAt w.heap.size 0 br.toList ∧ Keeps w w.heap.size br w') (first | assumption | exact keep0 hS0.out | exact keep1 hbx (by assumption) hle)
        (first | (go_at_call 15; refine (Hpad.out _).mono ?_; rintro e w2 ⟨rfl, hbx⟩; rw [hPv.out]) | (go_at_call 9; refine (Valid_calls _ _).mono ?_; rintro e w3 ⟨rfl, hbx⟩; rw [Hv.out]))
      go_wp2
      go_ret2
      exact ⟨by rw [hV.out, ← Hst.out]; rfl, (And.right (by assumption : _ ∧ Keeps w w.heap.size br _)).2⟩
end Go.Proofs.Ytjmbpnakifefeaa
