/- The walk of the law LexSpaces (chapter 06). -/
import Derived.Test.YtglkpncjmmeihaaDoorLxSame
import Derived.Test.YtglkpncjmmeihaaDoorLxSpaceSpec
namespace Go.Proofs.YtglkpncjmmeihaaDoor
open Go.RowKit Go.Lib

theorem toks_code (s : ByteArray) : ∀ (f k c i j : Nat), toks s f k = .bad c i j → c ≠ 0 := by
  intro f
  induction f with
  | zero => intro k c i j h; cases h
  | succ f ih =>
    intro k c i j h
    rw [toks] at h
    split at h
    · rename_i e he
      injection h with h1 _ _
      rw [← h1]; exact tokAt_code s _ e he
    · split at h
      · cases h
      · rename_i kind text v stop _ _
        cases hr : toks s f stop with
        | ok r => rw [hr] at h; cases h
        | bad e a b =>
          rw [hr] at h
          injection h with h1 _ _
          rw [← h1]; exact ih stop e a b hr
theorem outOf_code (s : ByteArray) (c i j : Nat) (h : outOf s = .bad c i j) : c ≠ 0 := by
  unfold outOf at h
  split at h
  · exact toks_code s _ _ c i j h
  · injection h with h1 _ _; omega
/-- Behind the reference's Tokens, whatever it comes to. -/
theorem RefTokens_any (s : ByteArray) (hs0 : s.size ≤ 100000000000000) (w : World) : Calls Tryd.prog 9 #[.string s] w fun e w' =>
    Below w.heap.size w w' ∧ ∃ (A : Option Addr) (n c : Nat) (q1 q2 q3 : Nat), e = .returned (.tuple #[.slice A n c, .int .i64 (q1 : Int), .int .i64 (q2 : Int), .int .i64 (q3 : Int)]) := by
  refine (RefTokens_calls s hs0 w).mono ?_
  intro e w' h
  cases ho : outOf s with
  | bad c i j => rw [ho] at h; exact ⟨h.1, none, 0, 0, c, i, j, h.2⟩
  | ok l =>
    rw [ho] at h
    obtain ⟨hb, v, he, hown⟩ := h
    obtain ⟨A, c, rfl⟩ := own_slice5 hown
    exact ⟨hb, A, l.length, c, 0, 0, 0, he⟩

theorem cut_str (a : ByteArray) : (a.extract 0 (min (a.size : Int) 1000).toNat).size ≤ 1000 := by
  rw [ByteArray.size_extract]
  omega
theorem cut_all (a : ByteArray) (h : a.size ≤ 1000) : a.extract 0 (min (a.size : Int) 1000).toNat = a := by
  rw [show (min (a.size : Int) 1000).toNat = a.size by omega]
  apply ByteArray.ext
  apply Array.toList_inj.1
  rw [extract_piece a 0 a.size]
  unfold piece
  rw [List.drop_zero, Nat.sub_zero, List.take_of_length_le (by rw [← Lib.size_eq]; exact Nat.le_refl _)]

set_option maxHeartbeats 4000000 in
theorem LexSpaces_dead (a b : ByteArray) (w : World) (hv : Vars w) (q : Bool) (ha : q = true → 1000 < a.size) (hb : q = false → a.size ≤ 1000 ∧ 1000 < b.size) :
    Calls Tryd.prog 4 #[.string a, .string b] w fun e w' => e = .returned (.bool true) ∧ Below w.heap.size w w' := by
  have HV := hide hv
  have HX := hide (fun (s : ByteArray) W (hs : s.size ≤ 1000) => RefTokens_any s (by omega) W)
  have hbz := Below.refl w.heap.size w
  cases q with
  | true =>
    have h1 := ha rfl
    have hd1 : decide ((1000 : Int) < (a.size : Int)) = true := by simp; omega
    clear hv ha hb h1
    go_enter Tryd.func4, Tryd.ntmps4
    go_wp2_with (first
      | (go_at_call 9; refine (HX.out _ _ (cut_str _)).mono ?_; rintro e w1 ⟨hbx, A1, n1, k1, p1, p2, p3, rfl⟩; replace hbz := hbz.trans (hbx.mono hbz.size); clear hbx)
      | (go_at_call 7; refine (alive_calls _ (HV.out.below hbz)).mono ?_; rintro e w3 ⟨rfl, hbx⟩; replace hbz := hbz.trans (hbx.mono hbz.size); clear hbx))
    go_ret
    exact ⟨rfl, hbz⟩
  | false =>
    obtain ⟨h1, h2⟩ := hb rfl
    have hd1 : decide ((1000 : Int) < (a.size : Int)) = false := by simp; omega
    have hd2 : decide ((1000 : Int) < (b.size : Int)) = true := by simp; omega
    clear hv ha hb h1 h2
    go_enter Tryd.func4, Tryd.ntmps4
    go_wp2_with (first
      | (go_at_call 9; refine (HX.out _ _ (cut_str _)).mono ?_; rintro e w1 ⟨hbx, A1, n1, k1, p1, p2, p3, rfl⟩; replace hbz := hbz.trans (hbx.mono hbz.size); clear hbx)
      | (go_at_call 7; refine (alive_calls _ (HV.out.below hbz)).mono ?_; rintro e w3 ⟨rfl, hbx⟩; replace hbz := hbz.trans (hbx.mono hbz.size); clear hbx))
    go_ret
    exact ⟨rfl, hbz⟩
theorem any_of {o : Out} {w w' : World} {e : Ending} (h : RefTokensV o w e w') :
    Below w.heap.size w w' ∧ ∃ (A : Option Addr) (n c : Nat) (q1 q2 q3 : Nat), e = .returned (.tuple #[.slice A n c, .int .i64 (q1 : Int), .int .i64 (q2 : Int), .int .i64 (q3 : Int)]) := by
  cases o with
  | bad c i j => exact ⟨h.1, none, 0, 0, c, i, j, h.2⟩
  | ok l =>
    obtain ⟨hb, v, he, hown⟩ := h
    obtain ⟨A, c, rfl⟩ := own_slice5 hown
    exact ⟨hb, A, l.length, c, 0, 0, 0, he⟩
theorem RefTokens_cut (c : ByteArray) (hc : c.size ≤ 1000) (w : World) : Calls Tryd.prog 9 #[.string (c.extract 0 (min (c.size : Int) 1000).toNat)] w (RefTokensV (outOf c) w) := by
  have h := RefTokens_calls c (by omega) w
  have e : Value.string (c.extract 0 (min (c.size : Int) 1000).toNat) = Value.string c := congrArg _ (cut_all c hc)
  rw [e]; exact h

set_option maxHeartbeats 4000000 in
theorem LexSpaces_bad1 (a b : ByteArray) (w : World) (hv : Vars w) (h1 : a.size ≤ 1000) (h2 : b.size ≤ 1000) (c i j : Nat) (hoa : outOf a = .bad c i j) :
    Calls Tryd.prog 4 #[.string a, .string b] w fun e w' => e = .returned (.bool true) ∧ Below w.heap.size w w' := by
  have HV := hide hv
  have hc0 := outOf_code a c i j hoa
  have hcn : ((c : Int) != 0) = true := by simp; omega
  have hd1 : decide ((1000 : Int) < (a.size : Int)) = false := by simp; omega
  have hd2 : decide ((1000 : Int) < (b.size : Int)) = false := by simp; omega
  have HR := hide (fun (c : ByteArray) W (hc : c.size ≤ 1000) => RefTokens_cut c hc W)
  have hbz := Below.refl w.heap.size w
  have HOA := hide hoa
  have H12 := hide (And.intro h1 h2)
  clear hv hoa hc0 h1 h2
  go_enter Tryd.func4, Tryd.ntmps4
  go_wp2_with (first
    | (go_at_call 9; refine (HR.out _ _ (by first | exact H12.out.1 | exact H12.out.2)).mono ?_; rintro e w1 h; first | (rw [HOA.out] at h; obtain ⟨hbx, rfl⟩ := h; replace hbz := hbz.trans (hbx.mono hbz.size); clear hbx) | (obtain ⟨hbx, A1, n1, k1, p1, p2, p3, rfl⟩ := any_of h; replace hbz := hbz.trans (hbx.mono hbz.size); clear hbx h))
    | (go_at_call 7; refine (alive_calls _ (HV.out.below hbz)).mono ?_; rintro e w3 ⟨rfl, hbx⟩; replace hbz := hbz.trans (hbx.mono hbz.size); clear hbx))
  go_ret
  exact ⟨rfl, hbz⟩

set_option maxHeartbeats 4000000 in
theorem LexSpaces_bad2 (a b : ByteArray) (w : World) (hv : Vars w) (h1 : a.size ≤ 1000) (h2 : b.size ≤ 1000) (x : List Token) (hoa : outOf a = .ok x) (c i j : Nat) (hob : outOf b = .bad c i j) :
    Calls Tryd.prog 4 #[.string a, .string b] w fun e w' => e = .returned (.bool true) ∧ Below w.heap.size w w' := by
  have HV := hide hv
  have hc0 := outOf_code b c i j hob
  have hcn : ((c : Int) != 0) = true := by simp; omega
  have hd1 : decide ((1000 : Int) < (a.size : Int)) = false := by simp; omega
  have hd2 : decide ((1000 : Int) < (b.size : Int)) = false := by simp; omega
  have HR := hide (fun (c : ByteArray) W (hc : c.size ≤ 1000) => RefTokens_cut c hc W)
  have hbz := Below.refl w.heap.size w
  have HOA := hide hoa
  have HOB := hide hob
  have H12 := hide (And.intro h1 h2)
  clear hv hoa hob hc0 h1 h2
  go_enter Tryd.func4, Tryd.ntmps4
  go_wp2_with (first
    | (go_at_call 9; refine (HR.out _ _ (by first | exact H12.out.1 | exact H12.out.2)).mono ?_; rintro e w1 h; first | (rw [HOA.out] at h; obtain ⟨hbx, v1, rfl, hown⟩ := h; obtain ⟨A1, k1, rfl⟩ := own_slice5 hown; clear hown; replace hbz := hbz.trans (hbx.mono hbz.size); clear hbx) | (rw [HOB.out] at h; obtain ⟨hbx, rfl⟩ := h; replace hbz := hbz.trans (hbx.mono hbz.size); clear hbx))
    | (go_at_call 7; refine (alive_calls _ (HV.out.below hbz)).mono ?_; rintro e w3 ⟨rfl, hbx⟩; replace hbz := hbz.trans (hbx.mono hbz.size); clear hbx))
  go_ret
  exact ⟨rfl, hbz⟩
end Go.Proofs.YtglkpncjmmeihaaDoor
