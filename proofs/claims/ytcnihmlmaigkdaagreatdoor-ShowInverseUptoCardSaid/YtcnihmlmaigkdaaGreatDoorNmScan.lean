/- The walk of name.Scan, with its two states. -/
import Derived.Test.YtcnihmlmaigkdaaGreatDoorNmRefScan
import Derived.Test.YtcnihmlmaigkdaaGreatDoorNmValid
import Derived.OwnWalk
import Derived.Maps.AppendAt
import Derived.Outline
import Derived.Deep.DeepMust
namespace Go.Proofs.YtcnihmlmaigkdaaGreatDoor
open Go.RowKit Go.Lib

theorem byte_info : (Tryz.prog.info? 5).map (fun i => (i.zero, i.size, i.bytes)) = some (some (.int .u8 0), 1, 1) := by kernel_rfl

/-- A scanner in its block X, and the bytes that it has. -/
def Scanner (w : World) (X : Nat) (d o : Bool) (acc : List UInt8) : Prop :=
  ∃ v, Blk w X 405 #[v, .bool d, .bool o] ∧ w.ownsRow X 5 1 v acc.length (acc.map byteV) ∧ ((∃ a n c, v = .slice a n c))

theorem Scanner.lt {w : World} {X : Nat} {d o : Bool} {acc : List UInt8} (h : Scanner w X d o acc) : X < w.heap.size := by
  obtain ⟨v, hB, _⟩ := h; exact hB.lt
/-- Behind a state's call: what the scanner holds; nothing below its block has turned. -/
def After (w : World) (X : Nat) (v : Value) (d o : Bool) (acc : List UInt8) (e : Ending) (w' : World) : Prop :=
  e = .returned v ∧ Scanner w' X d o acc ∧ Below X w w'

theorem own_low {w : World} {X n : Nat} {v : Value} {xs : List Value} (h : w.ownsRow X 5 1 v n xs) : ∀ k, v.ownBlock = some k → X ≤ k := by
  intro k hk
  rcases h.2 with ⟨rfl, _⟩ | ⟨g, cap, cur, rfl, hb, _⟩
  · simp [Value.ownBlock] at hk
  · simp [Value.ownBlock] at hk; omega
theorem scanner_more {w1 : World} {X g cap : Nat} {d o : Bool} {acc : List UInt8} {c : UInt8} {v v' : Value} {cs : Array Value} (hcs : cs = #[v, .bool d, .bool o])
    (hB : Blk w1 X 405 cs) (hown : w1.ownsRow X 5 1 v' (acc.length + 1) (acc.map byteV ++ [byteV c])) (hv : v' = .slice (some ⟨g, 0, none⟩) (acc.length + 1) cap) :
    Scanner (w1.setCell ⟨X, 0, none⟩ (.slice (some ⟨g, 0, none⟩) (acc.length + 1) cap)) X d o (acc ++ [c]) := by
  subst hcs
  subst hv
  have hne : (Value.slice (some ⟨g, 0, none⟩) (acc.length + 1) cap).ownBlock ≠ some X := own_blk_ne (t := 405) hown hB (by decide)
  refine ⟨_, hB.set_ 0 _, ?_, _, _, _, rfl⟩
  rw [List.length_append, List.length_singleton, List.map_append]
  exact ownsRow_setCell_other hown hne _

set_option maxRecDepth 100000 in
set_option maxHeartbeats 1000000 in
theorem escaped_calls (X : Nat) (d o : Bool) (acc : List UInt8) (c : UInt8) (w : World) (hS : Scanner w X d o acc) (hl : acc.length ≤ 100000000000000) :
    Calls Tryz.prog 357 #[.pointer (some ⟨X, 0, none⟩), .int .u8 (c.toNat : Int)] w (After w X (.tuple #[]) d (o && isEsc c) (acc ++ [c])) := by
  obtain ⟨v, hB, hown, a, n, cp, rfl⟩ := hS
  obtain ⟨i0, hi, hz0, hz1, hz2⟩ := info_parts byte_info
  have hX := hB.lt
  have k0 : w.cell? ⟨X, 0, none⟩ = some (.slice a n cp) := hB.cell 0
  have k2 : w.cell? ⟨X, 2, none⟩ = some (.bool o) := hB.cell 2
  have kf := fun i => hB.frozen i
  have h256 := UInt8.toNat_lt c
  have Hown := hide hown
  have HB := hide hB
  clear hown hB
  have hne : (Value.slice a n cp).ownBlock ≠ some X := own_blk_ne (t := 405) Hown.out HB.out (by decide)
  have hne2 : some X ≠ (Value.slice a n cp).ownBlock := fun h => hne h.symm
  have h1c : ∀ u ∈ [byteV c], u.oneCell' = true := by intro u hu; simp at hu; rw [hu]; rfl
  cases hx : isEsc c
  · have n34 := mt (byte_of c 34 (by omega)).1 (fun h => by rw [h] at hx; exact absurd hx (by decide))
    have n92 := mt (byte_of c 92 (by omega)).1 (fun h => by rw [h] at hx; exact absurd hx (by decide))
    have hc34 : (((c.toNat : Nat) : Int) == 34) = false := by simp; omega
    have hc92 : (((c.toNat : Nat) : Int) == 92) = false := by simp; omega
    rw [Bool.and_false]
    clear hx
    cases o
    all_goals
      go_enter Tryz.func357, Tryz.ntmps357
      go_wp2_with (at_builtin; go_must (refine wpList_append_own_at _ rfl (.tmp 23) (.tmp 25) 97 rfl X 5 i0 _ 1 1 Tryz.underlying97 hi hz0 hz1 hz2 rfl (by decide) (.slice a n cp) acc.length (acc.map byteV) rfl ((ownsRow_setCell_other Hown.out hne _).alloc _) _ 1 1 [byteV c] rfl rfl (cell_one_at _ _ _ _ (by simp [World.setCell])) h1c (by simp only [maxLen]; omega) (by omega) (by simp [World.setCell]; omega) ?_); intro v' w1 hown' hg hnl hat; obtain ⟨g, cap, hv, hgb, hgl, _, _, _, _⟩ := own_form hown' (by omega); have hB1 := ((HB.out.set_ 2 (.bool false)).alloc _).grown hg hne2; have q0 : w1.cell? ⟨X, 0, none⟩ = some (.slice a n cp) := hB1.cell 0; have qf := fun i => hB1.frozen i; have hbl := (((Below.refl X w).setCell (p := ⟨X, 2, none⟩) (Nat.le_refl _) (.bool false)).alloc (by simp [World.setCell]; omega) _).grown hg (by simp [World.setCell]; omega) (own_low Hown.out); have Hown' := hide hown'; have Hbl := hide hbl; have HB1 := hide hB1; rw [hv]; have Hv := hide hv; clear hv hown' hg hnl hat hB1 hbl)
      go_end0
      exact ⟨rfl, scanner_more (v := .slice a n cp) rfl HB1.out Hown'.out Hv.out, Hbl.out.setCell (p := ⟨X, 0, none⟩) (Nat.le_refl _) _⟩
  · have h0 : c.toNat = 34 ∨ c.toNat = 92 := by
      simp only [isEsc, Bool.or_eq_true, beq_iff_eq] at hx
      rcases hx with rfl | rfl
      · exact .inl rfl
      · exact .inr rfl
    rw [Bool.and_true]
    clear hx
    cases o
    · go_enter Tryz.func357, Tryz.ntmps357
      go_wp2_with (at_builtin; go_must (refine wpList_append_own_at _ rfl (.tmp 23) (.tmp 25) 97 rfl X 5 i0 _ 1 1 Tryz.underlying97 hi hz0 hz1 hz2 rfl (by decide) (.slice a n cp) acc.length (acc.map byteV) rfl ((ownsRow_setCell_other Hown.out hne _).alloc _) _ 1 1 [byteV c] rfl rfl (cell_one_at _ _ _ _ (by simp [World.setCell])) h1c (by simp only [maxLen]; omega) (by omega) (by simp [World.setCell]; omega) ?_); intro v' w1 hown' hg hnl hat; obtain ⟨g, cap, hv, hgb, hgl, _, _, _, _⟩ := own_form hown' (by omega); have hB1 := ((HB.out.set_ 2 (.bool false)).alloc _).grown hg hne2; have q0 : w1.cell? ⟨X, 0, none⟩ = some (.slice a n cp) := hB1.cell 0; have qf := fun i => hB1.frozen i; have hbl := (((Below.refl X w).setCell (p := ⟨X, 2, none⟩) (Nat.le_refl _) (.bool false)).alloc (by simp [World.setCell]; omega) _).grown hg (by simp [World.setCell]; omega) (own_low Hown.out); have Hown' := hide hown'; have Hbl := hide hbl; have HB1 := hide hB1; rw [hv]; have Hv := hide hv; clear hv hown' hg hnl hat hB1 hbl)
      go_end0
      exact ⟨rfl, scanner_more (v := .slice a n cp) rfl HB1.out Hown'.out Hv.out, Hbl.out.setCell (p := ⟨X, 0, none⟩) (Nat.le_refl _) _⟩
    · rcases h0 with h0 | h0
      · have hc34 : (((c.toNat : Nat) : Int) == 34) = true := by simp; omega
        clear h0
        go_enter Tryz.func357, Tryz.ntmps357
        go_wp2_with (at_builtin; go_must (refine wpList_append_own_at _ rfl (.tmp 23) (.tmp 25) 97 rfl X 5 i0 _ 1 1 Tryz.underlying97 hi hz0 hz1 hz2 rfl (by decide) (.slice a n cp) acc.length (acc.map byteV) rfl ((ownsRow_setCell_other Hown.out hne _).alloc _) _ 1 1 [byteV c] rfl rfl (cell_one_at _ _ _ _ (by simp [World.setCell])) h1c (by simp only [maxLen]; omega) (by omega) (by simp [World.setCell]; omega) ?_); intro v' w1 hown' hg hnl hat; obtain ⟨g, cap, hv, hgb, hgl, _, _, _, _⟩ := own_form hown' (by omega); have hB1 := ((HB.out.set_ 2 (.bool true)).alloc _).grown hg hne2; have q0 : w1.cell? ⟨X, 0, none⟩ = some (.slice a n cp) := hB1.cell 0; have qf := fun i => hB1.frozen i; have hbl := (((Below.refl X w).setCell (p := ⟨X, 2, none⟩) (Nat.le_refl _) (.bool true)).alloc (by simp [World.setCell]; omega) _).grown hg (by simp [World.setCell]; omega) (own_low Hown.out); have Hown' := hide hown'; have Hbl := hide hbl; have HB1 := hide hB1; rw [hv]; have Hv := hide hv; clear hv hown' hg hnl hat hB1 hbl)
        go_end0
        exact ⟨rfl, scanner_more (v := .slice a n cp) rfl HB1.out Hown'.out Hv.out, Hbl.out.setCell (p := ⟨X, 0, none⟩) (Nat.le_refl _) _⟩
      · have hc34 : (((c.toNat : Nat) : Int) == 34) = false := by simp; omega
        have hc92 : (((c.toNat : Nat) : Int) == 92) = true := by simp; omega
        clear h0
        go_enter Tryz.func357, Tryz.ntmps357
        go_wp2_with (at_builtin; go_must (refine wpList_append_own_at _ rfl (.tmp 23) (.tmp 25) 97 rfl X 5 i0 _ 1 1 Tryz.underlying97 hi hz0 hz1 hz2 rfl (by decide) (.slice a n cp) acc.length (acc.map byteV) rfl ((ownsRow_setCell_other Hown.out hne _).alloc _) _ 1 1 [byteV c] rfl rfl (cell_one_at _ _ _ _ (by simp [World.setCell])) h1c (by simp only [maxLen]; omega) (by omega) (by simp [World.setCell]; omega) ?_); intro v' w1 hown' hg hnl hat; obtain ⟨g, cap, hv, hgb, hgl, _, _, _, _⟩ := own_form hown' (by omega); have hB1 := ((HB.out.set_ 2 (.bool true)).alloc _).grown hg hne2; have q0 : w1.cell? ⟨X, 0, none⟩ = some (.slice a n cp) := hB1.cell 0; have qf := fun i => hB1.frozen i; have hbl := (((Below.refl X w).setCell (p := ⟨X, 2, none⟩) (Nat.le_refl _) (.bool true)).alloc (by simp [World.setCell]; omega) _).grown hg (by simp [World.setCell]; omega) (own_low Hown.out); have Hown' := hide hown'; have Hbl := hide hbl; have HB1 := hide hB1; rw [hv]; have Hv := hide hv; clear hv hown' hg hnl hat hB1 hbl)
        go_end0
        exact ⟨rfl, scanner_more (v := .slice a n cp) rfl HB1.out Hown'.out Hv.out, Hbl.out.setCell (p := ⟨X, 0, none⟩) (Nat.le_refl _) _⟩

/-- What 'plain' leaves: nothing new but 'done'; or the state behind a backslash; or a byte more. -/
theorem plain_quote (X : Nat) (d o : Bool) (acc : List UInt8) (w : World) (hS : Scanner w X d o acc) :
    Calls Tryz.prog 332 #[.pointer (some ⟨X, 0, none⟩), .int .u8 34] w (After w X .nilFunc true o acc) := by
  obtain ⟨v, hB, hown, a, n, cp, rfl⟩ := hS
  have k1 : w.cell? ⟨X, 1, none⟩ = some (.bool d) := hB.cell 1
  have kf := fun i => hB.frozen i
  have Hown := hide hown
  have HB := hide hB
  have hne : (Value.slice a n cp).ownBlock ≠ some X := own_blk_ne (t := 405) Hown.out HB.out (by decide)
  clear hown hB
  go_enter Tryz.func332, Tryz.ntmps332
  go_wp2
  go_ret
  exact ⟨rfl, ⟨_, HB.out.set_ 1 _, ownsRow_setCell_other Hown.out hne _, _, _, _, rfl⟩, (Below.refl X w).setCell (p := ⟨X, 1, none⟩) (Nat.le_refl _) _⟩

theorem plain_back (X : Nat) (d o : Bool) (acc : List UInt8) (w : World) (hS : Scanner w X d o acc) :
    Calls Tryz.prog 332 #[.pointer (some ⟨X, 0, none⟩), .int .u8 92] w (After w X (.func (.func 357) #[.pointer (some ⟨X, 0, none⟩)] #[]) d o acc) := by
  have HS := hide hS
  have hmf : ∀ (fn : Fn) (first cap : Array Value) (w : World), (Instr.makeFunc fn first cap).run Tryz.prog w = .ok (.func fn first cap) w := fun _ _ _ _ => rfl
  clear hS
  go_enter Tryz.func332, Tryz.ntmps332
  go_wp2
  go_ret
  exact ⟨rfl, HS.out, Below.refl X w⟩

set_option maxRecDepth 100000 in
set_option maxHeartbeats 1000000 in
theorem plain_calls (X : Nat) (d o : Bool) (acc : List UInt8) (c : UInt8) (w : World) (hS : Scanner w X d o acc) (hl : acc.length ≤ 100000000000000) (h34 : c ≠ 34) (h92 : c ≠ 92) :
    Calls Tryz.prog 332 #[.pointer (some ⟨X, 0, none⟩), .int .u8 (c.toNat : Int)] w (After w X .nilFunc d o (acc ++ [c])) := by
  obtain ⟨v, hB, hown, a, n, cp, rfl⟩ := hS
  obtain ⟨i0, hi, hz0, hz1, hz2⟩ := info_parts byte_info
  have hX := hB.lt
  have k0 : w.cell? ⟨X, 0, none⟩ = some (.slice a n cp) := hB.cell 0
  have kf := fun i => hB.frozen i
  have h256 := UInt8.toNat_lt c
  have Hown := hide hown
  have HB := hide hB
  clear hown hB
  have hne : (Value.slice a n cp).ownBlock ≠ some X := own_blk_ne (t := 405) Hown.out HB.out (by decide)
  have hne2 : some X ≠ (Value.slice a n cp).ownBlock := fun h => hne h.symm
  have h1c : ∀ u ∈ [byteV c], u.oneCell' = true := by intro u hu; simp at hu; rw [hu]; rfl
  have n34 := mt (byte_of c 34 (by omega)).1 h34
  have n92 := mt (byte_of c 92 (by omega)).1 h92
  have hc34 : (((c.toNat : Nat) : Int) == 34) = false := by simp; omega
  have hc92 : (((c.toNat : Nat) : Int) == 92) = false := by simp; omega
  clear h34 h92
  go_enter Tryz.func332, Tryz.ntmps332
  go_wp2_with (at_builtin; go_must (refine wpList_append_own_at _ rfl (.tmp 10) (.tmp 12) 97 rfl X 5 i0 _ 1 1 Tryz.underlying97 hi hz0 hz1 hz2 rfl (by decide) (.slice a n cp) acc.length (acc.map byteV) rfl (Hown.out.alloc _) _ 1 1 [byteV c] rfl rfl (cell_one_at _ _ _ _ rfl) h1c (by simp only [maxLen]; omega) (by omega) (by simp; omega) ?_); intro v' w1 hown' hg hnl hat; obtain ⟨g, cap, hv, hgb, hgl, _, _, _, _⟩ := own_form hown' (by omega); have hB1 := (HB.out.alloc _).grown hg hne2; have q0 : w1.cell? ⟨X, 0, none⟩ = some (.slice a n cp) := hB1.cell 0; have qf := fun i => hB1.frozen i; have hbl := ((Below.refl X w).alloc (by omega) _).grown hg (by simp; omega) (own_low Hown.out); have Hown' := hide hown'; have Hbl := hide hbl; have HB1 := hide hB1; rw [hv]; have Hv := hide hv; clear hv hown' hg hnl hat hB1 hbl)
  go_wp2
  go_ret
  exact ⟨rfl, scanner_more (v := .slice a n cp) rfl HB1.out Hown'.out Hv.out, Hbl.out.setCell (p := ⟨X, 0, none⟩) (Nat.le_refl _) _⟩
end Go.Proofs.YtcnihmlmaigkdaaGreatDoor
