/- Plain facts on names: the bytes of a name, and what the library's search by a function finds in a string. No program in sight. The reading of a quoted name, byte by byte, in plain words. -/
import Derived.Shelf.GgClosure.StringsIndexFuncTop
import Derived.Test.YtcnihmlmaigkdaaGreatDoorMMem
namespace Go.Proofs.YtcnihmlmaigkdaaGreatDoor
open Go.RowKit Go.Lib

def isEsc (c : UInt8) : Bool := c == 34 || c == 92
def byteV (c : UInt8) : Value := .int .u8 (c.toNat : Int)
def okByte (c : UInt8) : Bool := decide (32 ≤ c.toNat) && decide (c.toNat ≤ 126)
def validL (l : List UInt8) : Bool := decide (1 ≤ l.length) && decide (l.length ≤ 30) && l.all okByte
def badRune (r : Nat) : Bool := decide (r < 32) || decide (126 < r)

theorem get!_eq (s : ByteArray) (i : Nat) (h : i < s.size) : s.get! i = s.data.toList[i]'(by simpa using h) := by
  cases s with
  | mk d =>
    simp only [ByteArray.get!, Array.getElem_toList]
    exact getElem!_pos d i h

theorem decode_low (s : ByteArray) (i : Nat) (h : (s.get! i).toNat < 128) : Utf8.decode s i = ((s.get! i).toNat, 1) := by
  simp [Utf8.decode, h]

theorem decode_high (s : ByteArray) (i : Nat) (h : ¬ (s.get! i).toNat < 128) : 128 ≤ (Utf8.decode s i).1 := by
  have hb : (s.get! i).toNat < 256 := UInt8.toNat_lt _
  unfold Utf8.decode
  simp only [Nat.add_zero, h, if_false, Utf8.runeError]
  repeat' split
  all_goals first | (simp only [ge_iff_le, Bool.and_eq_true, decide_eq_true_eq] at *; omega) | omega

theorem idx_from (s : ByteArray) : ∀ (f pos : Nat), s.size ≤ pos + f →
    decide (0 ≤ Lib.idxFuncFrom badRune true s f pos) = !((s.data.toList.drop pos).all okByte)
  | 0, pos, h => by
    rw [List.drop_of_length_le (by simpa using h)]
    simp [Lib.idxFuncFrom]
  | f + 1, pos, h => by
    unfold Lib.idxFuncFrom
    by_cases hp : pos < s.size
    · rw [if_pos hp]
      have hl : pos < s.data.toList.length := by simpa using hp
      have hg := get!_eq s pos hp
      rw [List.drop_eq_getElem_cons hl, List.all_cons, ← hg]
      by_cases hlow : (s.get! pos).toNat < 128
      · rw [decode_low s pos hlow]
        simp only
        have hb : (badRune (s.get! pos).toNat = true) ↔ okByte (s.get! pos) = false := by
          simp only [badRune, okByte, Bool.or_eq_true, decide_eq_true_eq, Bool.and_eq_false_iff, decide_eq_false_iff_not]; omega
        by_cases hbad : badRune (s.get! pos).toNat = true
        · rw [if_pos hbad, hb.1 hbad]; simp
        · rw [if_neg hbad]
          have ho : okByte (s.get! pos) = true := by
            cases hx : okByte (s.get! pos) with
            | true => rfl
            | false => exact absurd (hb.2 hx) hbad
          rw [ho, Bool.true_and]
          exact idx_from s f (pos + 1) (by omega)
      · have hhi := decode_high s pos hlow
        have hbad : badRune (Utf8.decode s pos).1 = true := by simp only [badRune, Bool.or_eq_true, decide_eq_true_eq]; omega
        have ho : okByte (s.get! pos) = false := by simp only [okByte, Bool.and_eq_false_iff, decide_eq_false_iff_not]; omega
        rw [if_pos hbad, ho]; simp
    · rw [if_neg hp, List.drop_of_length_le (by simp; omega)]
      simp

theorem idx_bad (s : ByteArray) : decide (0 ≤ Lib.idxFunc badRune true s) = !(s.data.toList.all okByte) := by
  have := idx_from s s.size 0 (by omega)
  rw [List.drop_zero] at this
  exact this

/-- Whether a string is a name, and whether all its bytes are printable. -/
def validS (s : ByteArray) : Bool := validL s.data.toList
def okAll (s : ByteArray) : Bool := s.data.toList.all okByte

theorem validS_empty (s : ByteArray) (h : s.toList = []) : validS s = false := by
  have h0 : s.size = 0 := by rw [ByteArray.toList_eq] at h; have := congrArg List.length h; simpa using this
  simp [validS, validL, h0]
theorem validS_long (s : ByteArray) (h : 30 < (s.size : Int)) : validS s = false := by
  have h0 : ¬ s.size ≤ 30 := by omega
  simp [validS, validL, h0]
theorem validS_mid (s : ByteArray) (h0 : ¬ s.toList = []) (h : (s.size : Int) ≤ 30) : validS s = okAll s := by
  have h1 : s.size ≤ 30 := by omega
  have h2 : s.size ≠ 0 := by
    intro h3
    apply h0
    rw [ByteArray.toList_eq]
    apply List.eq_nil_of_length_eq_zero
    rw [← h3]; simp
  have h3 : 1 ≤ s.size := by omega
  simp only [validS, validL, okAll]
  simp [h1, h3]

/-- The first k bytes are printable. -/
def goodTo (s : ByteArray) (k : Nat) : Prop := (s.data.toList.take k).all okByte = true
theorem goodTo_zero (s : ByteArray) : goodTo s 0 := by simp [goodTo]
theorem goodTo_succ (s : ByteArray) (k : Nat) (hk : k < s.size) (h : goodTo s k) (h1 : 32 ≤ s[k].toNat) (h2 : s[k].toNat ≤ 126) : goodTo s (k + 1) := by
  unfold goodTo at *
  rw [List.take_succ_eq_append_getElem (by simpa using hk), List.all_append, h]
  simp only [List.all_cons, List.all_nil, Bool.and_true, Bool.true_and, okByte, Bool.and_eq_true, decide_eq_true_eq]
  exact ⟨h1, h2⟩
theorem valid_bad (s : ByteArray) (k : Nat) (hk : k < s.size) (h : s[k].toNat < 32 ∨ 126 < s[k].toNat) : validS s = false := by
  have hm : s[k] ∈ s.data.toList := by
    show s.data[k] ∈ _
    simp
  have ho : okByte s[k] = false := by
    simp only [okByte, Bool.and_eq_false_iff, decide_eq_false_iff_not]; omega
  have hf : s.data.toList.all okByte = false := by
    rw [List.all_eq_false]
    exact ⟨_, hm, by simp [ho]⟩
  simp [validS, validL, hf]
theorem valid_all (s : ByteArray) (h : goodTo s s.size) : validS s = (decide (1 ≤ s.size) && decide (s.size ≤ 30)) := by
  have h' : s.data.toList.all okByte = true := by
    unfold goodTo at h
    rwa [List.take_of_length_le (by simp)] at h
  simp only [validS, validL, h', Bool.and_true]
  simp

/-- The quoted form of a byte, of bytes, of a string. -/
def quoteB (c : UInt8) : List UInt8 := if c = 34 ∨ c = 92 then [92, c] else [c]
def quoteL (l : List UInt8) : List UInt8 := l.flatMap quoteB
def quoteTo (s : ByteArray) (k : Nat) : ByteArray := ⟨(34 :: quoteL (s.data.toList.take k)).toArray⟩
def quoteS (s : ByteArray) : ByteArray := if validS s then ⟨(34 :: (quoteL s.data.toList ++ [34])).toArray⟩ else ⟨#[]⟩
theorem quoteS_not (s : ByteArray) (h : validS s = false) : quoteS s = ⟨#[]⟩ := by simp [quoteS, h]
theorem quoteS_yes (s : ByteArray) (h : validS s = true) : quoteS s = ⟨(34 :: (quoteL s.data.toList ++ [34])).toArray⟩ := by simp [quoteS, h]
theorem quoteTo_zero (s : ByteArray) : quoteTo s 0 = ⟨#[34]⟩ := by simp [quoteTo, quoteL]
theorem quoteL_length (l : List UInt8) : (quoteL l).length ≤ 2 * l.length := by
  induction l with
  | nil => simp [quoteL]
  | cons c l ih =>
    simp only [quoteL, List.flatMap_cons, List.length_append, List.length_cons] at *
    have : (quoteB c).length ≤ 2 := by unfold quoteB; split <;> simp
    omega
theorem quoteTo_size (s : ByteArray) (k : Nat) : (quoteTo s k).size ≤ 2 * k + 1 := by
  have := quoteL_length (s.data.toList.take k)
  have h2 : (s.data.toList.take k).length ≤ k := List.length_take_le _ _
  simp only [quoteTo, ByteArray.size, List.size_toArray, List.length_cons]
  omega
theorem quoteTo_succ (s : ByteArray) (k : Nat) (hk : k < s.size) : quoteTo s (k + 1) = ⟨(quoteTo s k).data ++ (quoteB s[k]).toArray⟩ := by
  unfold quoteTo
  rw [List.take_succ_eq_append_getElem (by simpa using hk)]
  have : quoteL (s.data.toList.take k ++ [s.data.toList[k]'(by simpa using hk)]) = quoteL (s.data.toList.take k) ++ quoteB s[k] := by
    simp only [quoteL, List.flatMap_append, List.flatMap_cons, List.flatMap_nil, List.append_nil]
    rfl
  rw [this]
  simp
theorem quoteTo_end (s : ByteArray) : quoteTo s s.size ++ (⟨#[34]⟩ : ByteArray) = ⟨(34 :: (quoteL s.data.toList ++ [34])).toArray⟩ := by
  unfold quoteTo
  rw [List.take_of_length_le (by simp)]
  apply ByteArray.ext
  simp
theorem extract_one (s : ByteArray) (k : Nat) (hk : k < s.size) : s.extract k (k + 1) = ⟨#[s[k]]⟩ := by
  apply ByteArray.ext
  apply Array.ext'
  have hl : k < s.data.toList.length := by simpa using hk
  simp only [ByteArray.data_extract, Array.toList_extract, List.extract, Nat.add_sub_cancel_left]
  rw [List.drop_eq_getElem_cons hl, List.take_succ_cons, List.take_zero]
  rfl
theorem byte_eq (c : UInt8) (n : Nat) (hn : n < 256) (h : c.toNat = n) : c = UInt8.ofNat n := by
  apply UInt8.toNat.inj
  rw [h, UInt8.toNat_ofNat']; omega
theorem quoteTo_esc (s : ByteArray) (k : Nat) (hk : k < s.size) (h : s[k].toNat = 34 ∨ s[k].toNat = 92) :
    quoteTo s k ++ (⟨#[92]⟩ : ByteArray) ++ s.extract k (k + 1) = quoteTo s (k + 1) := by
  rw [quoteTo_succ s k hk, extract_one s k hk]
  have h' : s[k] = 34 ∨ s[k] = 92 := by
    rcases h with h | h
    · exact .inl (byte_eq _ 34 (by omega) h)
    · exact .inr (byte_eq _ 92 (by omega) h)
  rw [quoteB, if_pos h']
  apply ByteArray.ext
  apply Array.ext'
  simp
theorem quoteTo_plain (s : ByteArray) (k : Nat) (hk : k < s.size) (h : ¬ (s[k].toNat = 34 ∨ s[k].toNat = 92)) :
    quoteTo s k ++ s.extract k (k + 1) = quoteTo s (k + 1) := by
  rw [quoteTo_succ s k hk, extract_one s k hk]
  have h' : ¬ (s[k] = 34 ∨ s[k] = 92) := by
    rintro (h2 | h2)
    · exact h (.inl (by rw [h2]; rfl))
    · exact h (.inr (by rw [h2]; rfl))
  rw [quoteB, if_neg h']
  apply ByteArray.ext
  simp
theorem of_beq_t {a b : Int} (h : (a == b) = true) : a = b := by simpa using h
theorem of_beq_f {a b : Int} (h : (a == b) = false) : ¬ a = b := by simpa using h

end Go.Proofs.YtcnihmlmaigkdaaGreatDoor
namespace Go.Proofs.YtcnihmlmaigkdaaGreatDoor
open Go.RowKit

/-- Bytes are read: behind a backslash or not; right so far or not; the name so far. It ends with the closing sign: the name, whether it was right, how many bytes were read. -/
def goL (esc ok : Bool) (acc : List UInt8) : List UInt8 → Option (List UInt8 × Bool × Nat)
  | [] => none
  | c :: r =>
    if esc = true then (goL false (ok && isEsc c) (acc ++ [c]) r).map (fun x => (x.1, x.2.1, x.2.2 + 1))
    else if c = 34 then some (acc, ok, 1)
    else if c = 92 then (goL true ok acc r).map (fun x => (x.1, x.2.1, x.2.2 + 1))
    else (goL false ok (acc ++ [c]) r).map (fun x => (x.1, x.2.1, x.2.2 + 1))

def badR : List UInt8 × Nat × Nat := ([], 0, 6)
def okR (ok : Bool) (n : List UInt8) (i : Nat) : List UInt8 × Nat × Nat := if (ok && validL n) = true then (n, i, 0) else badR
def final (x : Option (List UInt8 × Bool × Nat)) (i : Nat) : List UInt8 × Nat × Nat :=
  match x with
  | some (n, ok, k) => okR ok n (i + k)
  | none => badR

theorem final_map (x : Option (List UInt8 × Bool × Nat)) (i : Nat) : final (x.map (fun x => (x.1, x.2.1, x.2.2 + 1))) i = final x (i + 1) := by
  cases x with
  | none => rfl
  | some x =>
    obtain ⟨n, o, k⟩ := x
    simp only [Option.map_some, final]
    rw [show i + (k + 1) = i + 1 + k from by omega]
theorem drop_cons (s : ByteArray) (i : Nat) (h : i < s.size) : s.data.toList.drop i = s[i] :: s.data.toList.drop (i + 1) := by
  rw [List.drop_eq_getElem_cons (by simpa using h)]; rfl
theorem goL_end (s : ByteArray) (i : Nat) (h : s.size ≤ i) (e o : Bool) (a : List UInt8) : final (goL e o a (s.data.toList.drop i)) i = badR := by
  rw [List.drop_of_length_le (by simpa using h)]; rfl
theorem goL_quote (s : ByteArray) (i : Nat) (h : i < s.size) (hc : s[i] = 34) (o : Bool) (a : List UInt8) : final (goL false o a (s.data.toList.drop i)) i = okR o a (i + 1) := by
  rw [drop_cons s i h, goL, if_neg (by decide), if_pos hc]; rfl
theorem goL_back (s : ByteArray) (i : Nat) (h : i < s.size) (hc : s[i] = 92) (o : Bool) (a : List UInt8) :
    final (goL false o a (s.data.toList.drop i)) i = final (goL true o a (s.data.toList.drop (i + 1))) (i + 1) := by
  rw [drop_cons s i h, goL, if_neg (by decide), if_neg (by rw [hc]; decide), if_pos hc, final_map]
theorem goL_plain (s : ByteArray) (i : Nat) (h : i < s.size) (h1 : s[i] ≠ 34) (h2 : s[i] ≠ 92) (o : Bool) (a : List UInt8) :
    final (goL false o a (s.data.toList.drop i)) i = final (goL false o (a ++ [s[i]]) (s.data.toList.drop (i + 1))) (i + 1) := by
  rw [drop_cons s i h, goL, if_neg (by decide), if_neg h1, if_neg h2, final_map]
theorem goL_esc (s : ByteArray) (i : Nat) (h : i < s.size) (o : Bool) (a : List UInt8) :
    final (goL true o a (s.data.toList.drop i)) i = final (goL false (o && isEsc s[i]) (a ++ [s[i]]) (s.data.toList.drop (i + 1))) (i + 1) := by
  rw [drop_cons s i h, goL, if_pos rfl, final_map]
theorem goL_false : ∀ (l : List UInt8) (e : Bool) (a : List UInt8) (i : Nat), final (goL e false a l) i = badR
  | [], _, _, _ => rfl
  | c :: r, e, a, i => by
    rw [goL]
    split
    · rw [final_map, Bool.false_and]; exact goL_false r _ _ _
    · split
      · rfl
      · split
        · rw [final_map]; exact goL_false r _ _ _
        · rw [final_map]; exact goL_false r _ _ _

/-- What Scan comes to at an offset: the name, the offset behind it, the code. -/
def scanR (s : ByteArray) (i : Int) : List UInt8 × Nat × Nat :=
  if 0 ≤ i ∧ i < s.size ∧ s.data.toList[i.toNat]? = some 34 then final (goL false true [] (s.data.toList.drop (i.toNat + 1))) (i.toNat + 1) else ([], 0, 3)
theorem scanR_neg (s : ByteArray) (i : Int) (h : i < 0) : scanR s i = ([], 0, 3) := by
  unfold scanR; rw [if_neg (by omega)]
theorem scanR_far (s : ByteArray) (i : Int) (h : (s.size : Int) ≤ i) : scanR s i = ([], 0, 3) := by
  unfold scanR; rw [if_neg (by omega)]
theorem get_data (s : ByteArray) (k : Nat) (h : k < s.size) : s.data.toList[k]? = some s[k] := by
  rw [List.getElem?_eq_getElem (by simpa using h)]; rfl
theorem scanR_other (s : ByteArray) (k : Nat) (h : k < s.size) (hc : s[k] ≠ 34) : scanR s (k : Int) = ([], 0, 3) := by
  unfold scanR
  rw [if_neg]
  rintro ⟨_, _, h3⟩
  rw [Int.toNat_natCast, get_data s k h] at h3
  exact hc (Option.some.inj h3)
theorem scanR_in (s : ByteArray) (k : Nat) (h : k < s.size) (hc : s[k] = 34) : scanR s (k : Int) = final (goL false true [] (s.data.toList.drop (k + 1))) (k + 1) := by
  unfold scanR
  rw [if_pos ⟨by omega, by omega, by rw [Int.toNat_natCast, get_data s k h, hc]⟩, Int.toNat_natCast]
theorem byte_of (c : UInt8) (n : Nat) (hn : n < 256) : c.toNat = n ↔ c = UInt8.ofNat n :=
  ⟨fun h => byte_eq c n hn h, fun h => by rw [h, UInt8.toNat_ofNat']; omega⟩
end Go.Proofs.YtcnihmlmaigkdaaGreatDoor
