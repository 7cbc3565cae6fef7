/- The reading of a quoted name, byte by byte, in plain words. -/
import Derived.Test.YtgjdhndlbhbjhaaGreatNmSpec
namespace Go.Proofs.YtgjdhndlbhbjhaaGreat
open Go.RowKit

/-- Bytes are read: behind a backslash or not; right so far or not; the name so far. It ends with the closing sign: the name, whether it was right, how many bytes were read. -/
def goL (esc ok : Bool) (acc : List UInt8) : List UInt8 → Option (List UInt8 × Bool × Nat)
  | [] => none
  | c :: r =>
    if esc = true then (goL false (ok && isEsc c) (acc ++ [c]) r).map (fun x => (x.1, x.2.1, x.2.2 + 1))
    else if c = 34 then some (acc, ok, 1)
    else if c = 92 then (goL true ok acc r).map (fun x => (x.1, x.2.1, x.2.2 + 1))
    else (goL false ok (acc ++ [c]) r).map (fun x => (x.1, x.2.1, x.2.2 + 1))

def badR : List UInt8 × Nat × Nat := ([], 0, 6)
def okR (ok : Bool) (n : List UInt8) (i : Nat) : List UInt8 × Nat × Nat := if (ok && validL n) = true then (n, i, 0) else badR
def final (x : Option (List UInt8 × Bool × Nat)) (i : Nat) : List UInt8 × Nat × Nat :=
  match x with
  | some (n, ok, k) => okR ok n (i + k)
  | none => badR

theorem final_map (x : Option (List UInt8 × Bool × Nat)) (i : Nat) : final (x.map (fun x => (x.1, x.2.1, x.2.2 + 1))) i = final x (i + 1) := by
  cases x with
  | none => rfl
  | some x =>
    obtain ⟨n, o, k⟩ := x
    simp only [Option.map_some, final]
    rw [show i + (k + 1) = i + 1 + k from by omega]
theorem drop_cons (s : ByteArray) (i : Nat) (h : i < s.size) : s.data.toList.drop i = s[i] :: s.data.toList.drop (i + 1) := by
  rw [List.drop_eq_getElem_cons (by simpa using h)]; rfl
theorem goL_end (s : ByteArray) (i : Nat) (h : s.size ≤ i) (e o : Bool) (a : List UInt8) : final (goL e o a (s.data.toList.drop i)) i = badR := by
  rw [List.drop_of_length_le (by simpa using h)]; rfl
theorem goL_quote (s : ByteArray) (i : Nat) (h : i < s.size) (hc : s[i] = 34) (o : Bool) (a : List UInt8) : final (goL false o a (s.data.toList.drop i)) i = okR o a (i + 1) := by
  rw [drop_cons s i h, goL, if_neg (by decide), if_pos hc]; rfl
theorem goL_back (s : ByteArray) (i : Nat) (h : i < s.size) (hc : s[i] = 92) (o : Bool) (a : List UInt8) :
    final (goL false o a (s.data.toList.drop i)) i = final (goL true o a (s.data.toList.drop (i + 1))) (i + 1) := by
  rw [drop_cons s i h, goL, if_neg (by decide), if_neg (by rw [hc]; decide), if_pos hc, final_map]
theorem goL_plain (s : ByteArray) (i : Nat) (h : i < s.size) (h1 : s[i] ≠ 34) (h2 : s[i] ≠ 92) (o : Bool) (a : List UInt8) :
    final (goL false o a (s.data.toList.drop i)) i = final (goL false o (a ++ [s[i]]) (s.data.toList.drop (i + 1))) (i + 1) := by
  rw [drop_cons s i h, goL, if_neg (by decide), if_neg h1, if_neg h2, final_map]
theorem goL_esc (s : ByteArray) (i : Nat) (h : i < s.size) (o : Bool) (a : List UInt8) :
    final (goL true o a (s.data.toList.drop i)) i = final (goL false (o && isEsc s[i]) (a ++ [s[i]]) (s.data.toList.drop (i + 1))) (i + 1) := by
  rw [drop_cons s i h, goL, if_pos rfl, final_map]
theorem goL_false : ∀ (l : List UInt8) (e : Bool) (a : List UInt8) (i : Nat), final (goL e false a l) i = badR
  | [], _, _, _ => rfl
  | c :: r, e, a, i => by
    rw [goL]
    split
    · rw [final_map, Bool.false_and]; exact goL_false r _ _ _
    · split
      · rfl
      · split
        · rw [final_map]; exact goL_false r _ _ _
        · rw [final_map]; exact goL_false r _ _ _

/-- What Scan comes to at an offset: the name, the offset behind it, the code. -/
def scanR (s : ByteArray) (i : Int) : List UInt8 × Nat × Nat :=
  if 0 ≤ i ∧ i < s.size ∧ s.data.toList[i.toNat]? = some 34 then final (goL false true [] (s.data.toList.drop (i.toNat + 1))) (i.toNat + 1) else ([], 0, 3)
theorem scanR_neg (s : ByteArray) (i : Int) (h : i < 0) : scanR s i = ([], 0, 3) := by
  unfold scanR; rw [if_neg (by omega)]
theorem scanR_far (s : ByteArray) (i : Int) (h : (s.size : Int) ≤ i) : scanR s i = ([], 0, 3) := by
  unfold scanR; rw [if_neg (by omega)]
theorem get_data (s : ByteArray) (k : Nat) (h : k < s.size) : s.data.toList[k]? = some s[k] := by
  rw [List.getElem?_eq_getElem (by simpa using h)]; rfl
theorem scanR_other (s : ByteArray) (k : Nat) (h : k < s.size) (hc : s[k] ≠ 34) : scanR s (k : Int) = ([], 0, 3) := by
  unfold scanR
  rw [if_neg]
  rintro ⟨_, _, h3⟩
  rw [Int.toNat_natCast, get_data s k h] at h3
  exact hc (Option.some.inj h3)
theorem scanR_in (s : ByteArray) (k : Nat) (h : k < s.size) (hc : s[k] = 34) : scanR s (k : Int) = final (goL false true [] (s.data.toList.drop (k + 1))) (k + 1) := by
  unfold scanR
  rw [if_pos ⟨by omega, by omega, by rw [Int.toNat_natCast, get_data s k h, hc]⟩, Int.toNat_natCast]
theorem byte_of (c : UInt8) (n : Nat) (hn : n < 256) : c.toNat = n ↔ c = UInt8.ofNat n :=
  ⟨fun h => byte_eq c n hn h, fun h => by rw [h, UInt8.toNat_ofNat']; omega⟩
end Go.Proofs.YtgjdhndlbhbjhaaGreat
