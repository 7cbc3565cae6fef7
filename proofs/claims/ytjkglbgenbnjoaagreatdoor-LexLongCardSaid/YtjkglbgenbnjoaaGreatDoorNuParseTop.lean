/- The walk of num.Parse (chapter 01). -/
import Derived.Test.YtjkglbgenbnjoaaGreatDoorNuParse
import Derived.Test.YtjkglbgenbnjoaaGreatDoorNuV
namespace Go.Proofs.YtjkglbgenbnjoaaGreatDoor
open Go.RowKit Go.Lib

theorem cut_yes (s : ByteArray) (hp : s.data.toList.take 2 = [48, 120]) (w : World) :
    Calls Tryz.prog 56 #[.string s, .string ⟨#[48, 120]⟩] w fun e w' => e = .returned (.tuple #[.string ⟨(s.data.toList.drop 2).toArray⟩, .bool true]) ∧ w' = w := by
  have h := Tryz.strings_CutPrefix s ⟨#[48, 120]⟩ w
  have e : Lib.hasPrefix s.data.toList [48, 120] = true := by
    unfold Lib.hasPrefix
    rw [List.isPrefixOf_iff_prefix, List.prefix_iff_eq_take]
    exact hp.symm
  have e2 : (⟨#[48, 120]⟩ : ByteArray).data.toList = [48, 120] := rfl
  rw [e2, e, Lib.trimPrefix, e, if_pos rfl] at h
  exact h
theorem cut_no (s : ByteArray) (hp : ¬ s.data.toList.take 2 = [48, 120]) (w : World) :
    Calls Tryz.prog 56 #[.string s, .string ⟨#[48, 120]⟩] w fun e w' => e = .returned (.tuple #[.string s, .bool false]) ∧ w' = w := by
  have h := Tryz.strings_CutPrefix s ⟨#[48, 120]⟩ w
  have e : Lib.hasPrefix s.data.toList [48, 120] = false := by
    rw [Bool.eq_false_iff]
    intro h
    unfold Lib.hasPrefix at h
    rw [List.isPrefixOf_iff_prefix, List.prefix_iff_eq_take] at h
    exact hp h.symm
  have e2 : (⟨#[48, 120]⟩ : ByteArray).data.toList = [48, 120] := rfl
  rw [e2, e, Lib.trimPrefix, e, if_neg (by decide)] at h
  exact h
theorem parseN_no (s : List UInt8) (hp : ¬ s.take 2 = [48, 120]) : parseN s = (match r10 s with | some n => if digL 10 n = s then some n else none | none => none) := by
  unfold parseN r10
  rw [if_neg hp]
  cases parseMag s <;> rfl
theorem parseN_yes (s : List UInt8) (hp : s.take 2 = [48, 120]) : parseN s = (match r16 (s.drop 2) with | some n => if hexL n = s then some n else none | none => none) := by
  unfold parseN r16
  rw [if_pos hp]
  split
  · rfl
  · rfl
theorem r10_lt {s : List UInt8} {n : Nat} (h : r10 s = some n) : n < top64 := by
  unfold r10 at h
  split at h
  · injection h with h; subst h; exact parseMag_lt (by assumption)
  · cases h
theorem r16_lt {s : List UInt8} {n : Nat} (h : r16 s = some n) : n < top64 := by
  unfold r16 at h
  split at h
  · cases h
  · exact scan16_lt _ 0 n (by decide) h
theorem same_no {l : List UInt8} {s : ByteArray} (h : (!l == s.toList) = true) : ¬ l = s.data.toList := by
  rw [ByteArray.toList_eq] at h
  intro e
  rw [e] at h
  simp at h
theorem same_yes {l : List UInt8} {s : ByteArray} (h : (!l == s.toList) = false) : l = s.data.toList := by
  rw [ByteArray.toList_eq] at h
  simpa using h

set_option maxHeartbeats 1000000 in
theorem Parse_calls (s : ByteArray) (hs : s.size ≤ 100000000000000) (w : World) (hv : Vars w) :
    Calls Tryz.prog 50 #[.string s] w (FoldV (parseN s.data.toList) w) := by
  have HV := hide hv
  by_cases hp : s.data.toList.take 2 = [48, 120]
  · have HC := hide (cut_yes s hp)
    have hU := pu16 ⟨(s.data.toList.drop 2).toArray⟩ (by
      show (s.data.toList.drop 2).toArray.size ≤ 100000000000000
      have h2 := Lib.size_eq s
      rw [List.size_toArray, List.length_drop]; omega) w hv
    have hd : (⟨(s.data.toList.drop 2).toArray⟩ : ByteArray).data.toList = s.data.toList.drop 2 := rfl
    rw [hd] at hU
    have hN := parseN_yes s.data.toList hp
    cases hr : r16 (s.data.toList.drop 2) with
    | none =>
      rw [hr] at hU hN
      have H := hide hU
      have HN := hide hN
      clear hU hv hN hr hp hs hd
      go_enter Tryz.func50, Tryz.ntmps50
      go_wp2_with (first
        | (go_at_call 56; refine (HC.out _).mono ?_; rintro e w' ⟨rfl, rfl⟩)
        | (go_at_call 58; refine H.out.mono ?_; rintro e w2 ⟨hb2, m, N, rfl⟩))
      go_ret2
      exact ⟨by rw [HN.out]; rfl, hb2⟩
    | some n =>
      rw [hr] at hU hN
      have hn := r16_lt hr
      have hD := fun W (hV : Vars W) => Hex_calls n hn W hV.2.1
      have H := hide hU
      have HD := hide hD
      have HN := hide hN
      clear hU hD hn hv hN hr hp hs hd
      go_enter Tryz.func50, Tryz.ntmps50
      go_wp2_with (first
        | (go_at_call 56; refine (HC.out _).mono ?_; rintro e w' ⟨rfl, rfl⟩)
        | (go_at_call 58; refine H.out.mono ?_; rintro e w2 ⟨hb2, rfl⟩)
        | (go_at_call 57; refine (HD.out _ (HV.out.below hb2)).mono ?_; rintro e w3 ⟨rfl, hb3⟩))
      · have hno := same_no (by assumption)
        go_ret2
        exact ⟨by rw [HN.out]; show _ = Ending.returned (optV (if hexL n = s.data.toList then some n else none)); rw [if_neg hno]; rfl, hb2.trans (hb3.mono hb2.size)⟩
      · have hno := same_yes (by assumption)
        go_ret2
        exact ⟨by rw [HN.out]; show _ = Ending.returned (optV (if hexL n = s.data.toList then some n else none)); rw [if_pos hno]; rfl, hb2.trans (hb3.mono hb2.size)⟩
  · have HC := hide (cut_no s hp)
    have hU := pu10 s hs w hv
    have hN := parseN_no s.data.toList hp
    cases hr : r10 s.data.toList with
    | none =>
      rw [hr] at hU hN
      have H := hide hU
      have HN := hide hN
      clear hU hv hN hr hp hs
      go_enter Tryz.func50, Tryz.ntmps50
      go_wp2_with (first
        | (go_at_call 56; refine (HC.out _).mono ?_; rintro e w' ⟨rfl, rfl⟩)
        | (go_at_call 58; refine H.out.mono ?_; rintro e w2 ⟨hb2, m, N, rfl⟩))
      go_ret2
      exact ⟨by rw [HN.out]; rfl, hb2⟩
    | some n =>
      rw [hr] at hU hN
      have hn := r10_lt hr
      have hD := fun W (hV : Vars W) => Decimal_calls n hn W hV.1
      have H := hide hU
      have HD := hide hD
      have HN := hide hN
      clear hU hD hn hv hN hr hp hs
      go_enter Tryz.func50, Tryz.ntmps50
      go_wp2_with (first
        | (go_at_call 56; refine (HC.out _).mono ?_; rintro e w' ⟨rfl, rfl⟩)
        | (go_at_call 58; refine H.out.mono ?_; rintro e w2 ⟨hb2, rfl⟩)
        | (go_at_call 55; refine (HD.out _ (HV.out.below hb2)).mono ?_; rintro e w3 ⟨rfl, hb3⟩))
      · have hno := same_no (by assumption)
        go_ret2
        exact ⟨by rw [HN.out]; show _ = Ending.returned (optV (if digL 10 n = s.data.toList then some n else none)); rw [if_neg hno]; rfl, hb2.trans (hb3.mono hb2.size)⟩
      · have hno := same_yes (by assumption)
        go_ret2
        exact ⟨by rw [HN.out]; show _ = Ending.returned (optV (if digL 10 n = s.data.toList then some n else none)); rw [if_pos hno]; rfl, hb2.trans (hb3.mono hb2.size)⟩
end Go.Proofs.YtjkglbgenbnjoaaGreatDoor
