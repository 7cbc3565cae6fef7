/- The law NameInverse is walked: Scan inverts Quote, whatever stands in front of the form and follows it. -/
import Derived.Test.YtjmbpnakifefeaaNmAlive
namespace Go.Proofs.Ytjmbpnakifefeaa
open Go.RowKit Go.Lib

theorem goL_quoteL (r : List UInt8) : ∀ (l acc : List UInt8) (ok : Bool) (i : Nat),
    final (goL false ok acc (quoteL l ++ 34 :: r)) i = okR ok (acc ++ l) (i + (quoteL l).length + 1)
  | [], acc, ok, i => by
    show final (goL false ok acc (34 :: r)) i = _
    rw [goL, if_neg (by decide), if_pos rfl, List.append_nil]; rfl
  | c :: l, acc, ok, i => by
    have e : quoteL (c :: l) = quoteB c ++ quoteL l := rfl
    rw [e, quoteB_eq]
    cases hx : isEsc c
    · have h34 : ¬ c = 34 := fun h => by rw [h] at hx; exact absurd hx (by decide)
      have h92 : ¬ c = 92 := fun h => by rw [h] at hx; exact absurd hx (by decide)
      rw [if_neg (by decide)]
      show final (goL false ok acc (c :: (quoteL l ++ 34 :: r))) i = _
      rw [goL, if_neg (by decide), if_neg h34, if_neg h92, final_map, goL_quoteL r l]
      simp only [List.append_assoc, List.singleton_append, List.length_cons]
      rw [show i + 1 + (quoteL l).length + 1 = i + ((quoteL l).length + 1) + 1 from by omega]
    · rw [if_pos rfl]
      show final (goL false ok acc (92 :: c :: (quoteL l ++ 34 :: r))) i = _
      rw [goL, if_neg (by decide), if_neg (by decide), if_pos rfl, final_map, goL, if_pos rfl, final_map, hx, Bool.and_true, goL_quoteL r l]
      simp only [List.append_assoc, List.cons_append, List.nil_append, List.length_cons]
      rw [show i + 1 + 1 + (quoteL l).length + 1 = i + ((quoteL l).length + 1 + 1) + 1 from by omega]

theorem scan_quote (s a b : ByteArray) (h : validS s = true) : scanR (a ++ quoteS s ++ b) (a.size : Int) = (s.data.toList, a.size + (quoteS s).size, 0) := by
  have hd : (a ++ quoteS s ++ b).data.toList = a.data.toList ++ (34 :: (quoteL s.data.toList ++ 34 :: b.data.toList)) := by
    rw [quoteS_yes s h]; simp
  have hq : (quoteS s).size = (quoteL s.data.toList).length + 2 := by
    rw [quoteS_yes s h]; show (34 :: (quoteL s.data.toList ++ [34])).toArray.size = _; simp
  have hl : a.data.toList.length = a.size := by simp
  unfold scanR
  rw [if_pos, Int.toNat_natCast, hd]
  · rw [show a.size + 1 = a.data.toList.length + 1 from by rw [hl], ← List.drop_drop, List.drop_left]
    show final (goL false true [] (quoteL s.data.toList ++ 34 :: b.data.toList)) _ = _
    rw [goL_quoteL, hq, hl, okR, List.nil_append]
    have hv : validL s.data.toList = true := h
    rw [hv]
    show (s.data.toList, _, 0) = _
    rw [show a.size + 1 + (quoteL s.data.toList).length + 1 = a.size + ((quoteL s.data.toList).length + 2) from by omega]
  · refine ⟨by omega, ?_, ?_⟩
    · have h2 := congrArg List.length hd
      simp only [List.length_append, List.length_cons] at h2
      have h3 : (a ++ quoteS s ++ b).data.toList.length = (a ++ quoteS s ++ b).size := Array.length_toList
      omega
    · rw [Int.toNat_natCast, hd, ← hl, List.getElem?_append_right (Nat.le_refl _), Nat.sub_self]; rfl

theorem quoteS_size (s : ByteArray) (h : validS s = true) : (quoteS s).size ≤ 62 := by
  have h1 := validS_size s h
  have h2 := quoteL_length s.data.toList
  have h3 : s.data.toList.length = s.size := by simp
  rw [quoteS_yes s h]
  show (34 :: (quoteL s.data.toList ++ [34])).toArray.size ≤ _
  simp only [List.size_toArray, List.length_cons, List.length_append, List.length_nil]
  omega
theorem list_bytes (s : ByteArray) : (⟨s.data.toList.toArray⟩ : ByteArray) = s := by
  apply ByteArray.ext; simp

set_option maxRecDepth 100000 in
set_option maxHeartbeats 1000000 in
theorem NameInverse_calls (s a b : ByteArray) (w : World) (hs : s.size ≤ 9223372036854775807) (_ha : a.size ≤ 9223372036854775807) (_hb : b.size ≤ 9223372036854775807) :
    Calls Try.prog 5 #[.string s, .string a, .string b] w fun e w' => e = .returned (.bool true) ∧ Below w.heap.size w w' := by
  cases hv : validS s
  · have Hv := hide hv
    clear hv
    go_enter Try.func5, Try.ntmps5
    go_wp2_with (first
      | (go_at_call 8; refine (alive_calls _).mono ?_; rintro e w1 ⟨rfl, hb1⟩)
      | (go_at_call 10; refine (RefValid_calls _ _ hs).mono ?_; rintro e w3 ⟨rfl, rfl⟩; rw [Hv.out]))
    go_ret
    exact ⟨rfl, hb1⟩
  by_cases ha : (a.size : Int) ≤ 100
  · by_cases hb : (b.size : Int) ≤ 100
    · have Hv := hide hv
      have hqs := quoteS_size s hv
      have hR : Hid (scanV (scanR (a ++ quoteS s ++ b) (a.size : Int)) = .tuple #[.string s, .int .i64 (((a.size + (quoteS s).size : Nat)) : Int), .int .i64 0]) := by
        show _ = _
        rw [scan_quote s a b hv, scanV, list_bytes]; rfl
      clear hv
      have hQ := fun w => Quote_calls s w
      generalize quoteS s = q at *
      have HQ := hide hQ
      have hsz : a.size + q.size + b.size ≤ 100000000000000 := by omega
      have hsz2 : (a ++ q ++ b).size ≤ 100000000000000 := by simp only [ByteArray.size_append]; omega
      have Hsz2 := hide hsz2
      clear hQ hsz2
      go_enter Try.func5, Try.ntmps5
      go_wp2_with (first
        | (go_at_call 8; refine (alive_calls _).mono ?_; rintro e w1 ⟨rfl, hb1⟩)
        | (go_at_call 10; refine (RefValid_calls _ _ hs).mono ?_; rintro e w3 ⟨rfl, rfl⟩; rw [Hv.out])
        | (go_at_call 11; refine (HQ.out _).mono ?_; rintro e w4 ⟨rfl, hb4⟩)
        | (go_at_call 13; refine (Scan_calls _ _ _ Hsz2.out).mono ?_; rintro e w5 ⟨rfl, hb5⟩; rw [hR.out]))
      have h5 := hb4.trans (hb5.mono hb4.size)
      go_ret
      exact ⟨rfl, h5.trans (hb1.mono h5.size)⟩
    · have Hv := hide hv
      clear hv
      go_enter Try.func5, Try.ntmps5
      go_wp2_with (first
        | (go_at_call 8; refine (alive_calls _).mono ?_; rintro e w1 ⟨rfl, hb1⟩)
        | (go_at_call 10; refine (RefValid_calls _ _ hs).mono ?_; rintro e w3 ⟨rfl, rfl⟩; rw [Hv.out]))
      go_ret
      exact ⟨rfl, hb1⟩
  · have Hv := hide hv
    clear hv
    go_enter Try.func5, Try.ntmps5
    go_wp2_with (first
      | (go_at_call 8; refine (alive_calls _).mono ?_; rintro e w1 ⟨rfl, hb1⟩)
      | (go_at_call 10; refine (RefValid_calls _ _ hs).mono ?_; rintro e w3 ⟨rfl, rfl⟩; rw [Hv.out]))
    go_ret
    exact ⟨rfl, hb1⟩
end Go.Proofs.Ytjmbpnakifefeaa
