/- The tokens of a long text of spaces with one byte at its end, in plain words (chapter 06). No program in sight. -/
import Derived.Test.YtjkglbgenbnjoaaGreatDoorLxSpaceSpec
import Derived.Lib.Repeat
namespace Go.Proofs.YtjkglbgenbnjoaaGreatDoor
open Go.Lib

def spN (n : Nat) (c : UInt8) : ByteArray := ⟨(List.replicate n 32 ++ [c]).toArray⟩
def oneB (c : UInt8) : ByteArray := ⟨#[c]⟩
def codeT : Tk → Nat
  | .bad e => e
  | .tok _ _ _ _ => 0
def codeOf (c : UInt8) : Nat := codeT (tokAt (oneB c) (skipAt (oneB c) 0))
def codeO : Out → Nat
  | .bad e _ _ => e
  | .ok _ => 0
theorem spN_size (n : Nat) (c : UInt8) : (spN n c).size = n + 1 := by
  show (List.replicate n 32 ++ [c]).toArray.size = _; simp
theorem spc_sp (c : UInt8) : ∀ n, spc false (List.replicate n 32 ++ [c]) = n + spc false [c] := by
  intro n
  induction n with
  | zero => simp
  | succ n ih =>
    rw [List.replicate_succ, List.cons_append]
    have e : spc false (32 :: (List.replicate n 32 ++ [c])) = 1 + spc false (List.replicate n 32 ++ [c]) := by
      conv => lhs; rw [spc]
      rw [if_neg (by decide), if_pos (by decide)]
    rw [e, ih]; omega
theorem drop_sp (c : UInt8) (n k : Nat) : (List.replicate n 32 ++ [c]).drop (n + k) = [c].drop k := by
  rw [List.drop_append, List.length_replicate, List.drop_of_length_le (by simp), List.nil_append, Nat.add_sub_cancel_left]
theorem codeO_cons (t : Token) (o : Out) : codeO (Out.cons t o) = codeO o := by cases o <;> rfl
theorem code_long (n : Nat) (c : UInt8) : codeO (toks (spN n c) (n + 2) 0) = codeOf c := by
  have hd : (spN n c).data.toList = List.replicate n 32 ++ [c] := by unfold spN; simp
  have hs : skipAt (spN n c) 0 = n + spc false [c] := by unfold skipAt; rw [List.drop_zero, hd, spc_sp]; omega
  have h1 : skipAt (oneB c) 0 = spc false [c] := by unfold skipAt oneB; rw [List.drop_zero]; simp
  have hle := spc_le [c] false
  generalize spc false [c] = k at *
  have ht : tokAt (spN n c) (n + k) = (tokL ([c].drop k)).shift (n + k) := by rw [tokAt_tokL, hd, drop_sp]
  have ht1 : tokAt (oneB c) k = (tokL ([c].drop k)).shift k := by rw [tokAt_tokL]; rfl
  unfold codeOf
  rw [h1, ht1, toks, hs]
  have hst := fun kind v stop text h => tokAt_stop (spN n c) (n + k) kind v stop text h (by rw [spN_size]; simp at hle; omega)
  rw [ht] at hst ⊢
  cases hT : tokL ([c].drop k) with
  | bad e => rfl
  | tok kind text v m =>
    rw [hT] at hst
    have hst := hst kind v (n + k + m) text rfl
    rw [spN_size] at hst
    show codeO (if kind = 0 then _ else _) = 0
    by_cases h0 : kind = 0
    · rw [if_pos h0]; rfl
    · rw [if_neg h0, codeO_cons]
      have h2 := hst.2 h0
      have e : n + k + m = n + 1 := by omega
      rw [e, toks]
      have e2 : skipAt (spN n c) (n + 1) = n + 1 := by
        unfold skipAt
        rw [List.drop_of_length_le (by rw [hd]; simp)]
        rfl
      have e3 : tokAt (spN n c) (n + 1) = .tok 0 [] 0 (n + 1) := by
        unfold tokAt
        rw [List.drop_of_length_le (by rw [hd]; simp)]
      rw [e2, e3]
      rfl
theorem repeat_sp (n : Nat) : Lib.repeatL [32] n = List.replicate n (32 : UInt8) := by
  induction n with
  | zero => rfl
  | succ n ih =>
    rw [List.replicate_succ, ← ih]; rfl
theorem join_sp (n : Nat) (c : UInt8) : (⟨(Lib.repeatL [32] n).toArray⟩ : ByteArray) ++ ⟨#[c]⟩ = spN n c := by
  rw [repeat_sp]
  apply ByteArray.ext
  apply Array.toList_inj.1
  unfold spN
  simp [ByteArray.data_append]
end Go.Proofs.YtjkglbgenbnjoaaGreatDoor
