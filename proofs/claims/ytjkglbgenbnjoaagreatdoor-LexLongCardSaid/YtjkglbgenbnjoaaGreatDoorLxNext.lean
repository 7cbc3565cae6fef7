/- The walk of the cursor's next (chapter 06). -/
import Derived.Test.YtjkglbgenbnjoaaGreatDoorLxNextA
import Derived.Test.YtjkglbgenbnjoaaGreatDoorLxNextB
namespace Go.Proofs.YtjkglbgenbnjoaaGreatDoor
open Go.RowKit Go.Lib

theorem tokAt_ge (s : ByteArray) (k kind v stop : Nat) (text : List UInt8) (h : tokAt s k = .tok kind text v stop) (hk : k ≤ s.size) : k ≤ stop := by
  by_cases h0 : kind = 0
  · subst h0
    unfold tokAt at h
    cases hd : s.data.toList.drop k with
    | nil => rw [hd] at h; injection h with h1 h2 h3 h4; omega
    | cons c r =>
      rw [hd] at h
      simp only at h
      split at h
      · injection h with h1 h2 h3 h4; omega
      · split at h
        · split at h
          · injection h with h1 h2 h3 h4; omega
          · cases h
        · split at h
          · split at h
            · injection h with h1 h2 h3 h4; omega
            · cases h
          · split at h
            · injection h with h1 h2 h3 h4; omega
            · cases h
  · exact Nat.le_of_lt ((tokAt_stop s k kind v stop text h hk).2 h0)
theorem tokAt_code (s : ByteArray) (k code : Nat) (h : tokAt s k = .bad code) : code ≠ 0 := by
  unfold tokAt at h
  cases hd : s.data.toList.drop k with
  | nil => rw [hd] at h; cases h
  | cons c r =>
    rw [hd] at h
    simp only at h
    split at h
    · cases h
    · split at h
      · split at h
        · cases h
        · injection h with h; omega
      · split at h
        · split at h
          · cases h
          · injection h with h; omega
        · split at h
          · cases h
          · injection h with h; omega

theorem next_calls (X : Nat) (w : World) (p : Nat × Nat) (s : ByteArray) (k : Nat) (h : Cur w X p s k) (hv : Vars w) (hgl : GLow X) :
    Calls Tryz.prog 14 #[.pointer (some ⟨X, 0, none⟩)] w (NextT X p s k (placeFrom p (piece s k (skipAt s k))) (tokAt s (skipAt s k)) w) := by
  obtain ⟨J, hJ⟩ : ∃ J, J = skipAt s k := ⟨_, rfl⟩
  rw [← hJ]
  obtain ⟨P, hP⟩ : ∃ P, P = placeFrom p (piece s k J) := ⟨_, rfl⟩
  rw [← hP]
  have hJs : J ≤ s.size := by rw [hJ]; exact skipAt_le s k h.2.2.2.1
  have hkJ : k ≤ J := by rw [hJ]; exact skipAt_ge s k
  have hS : ∀ kind text v stop, tokAt s J = .tok kind text v stop → placeFrom P (piece s J stop) = placeFrom p (piece s k stop) := fun kind text v stop ht => by
    rw [hP]; exact place_join s p k J stop hkJ (tokAt_ge s J kind v stop text ht hJs)
  have hT : ∀ code, tokAt s J = .bad code → code ≠ 0 := fun code ht => tokAt_code s J code ht
  have hV : ∀ W, Only X w W → Vars W := fun W hO => hv.only hgl (hO.below h.lt)
  have hsz := Lib.size_eq s
  rcases Nat.lt_or_ge J s.size with hlt | hge
  · have hd := at_data s J hlt
    by_cases h1 : isLet s[J] = true
    · have e1 : tokAt s J = .tok 1 ((s.data.toList.drop J).take (runLen isLet (s.data.toList.drop J))) 0 (J + runLen isLet (s.data.toList.drop J)) := by
        unfold tokAt; rw [hd]; simp only; rw [if_pos h1]
      refine next_word X w p s k J P _ h hJ hP (by unfold pick; rw [hd]; simp only; rw [if_pos h1]) hT (fun W hC hO => ?_) hS
      rw [e1]
      exact word_calls X W P s J _ rfl hC
    · by_cases h2 : isDig s[J] = true
      · have e1 : tokAt s J = (match parseN ((s.data.toList.drop J).take (runLen isAl (s.data.toList.drop J))) with | some v => .tok 2 ((s.data.toList.drop J).take (runLen isAl (s.data.toList.drop J))) v (J + runLen isAl (s.data.toList.drop J)) | none => .bad 5) := by
          unfold tokAt; rw [hd]; simp only; rw [if_neg h1, if_pos h2]
          rfl
        refine next_number X w p s k J P _ h hJ hP (by unfold pick; rw [hd]; simp only; rw [if_neg h1, if_pos h2]) hT (fun W hC hO => ?_) hS
        rw [e1]
        exact number_calls X W P s J _ rfl hC (hV W hO) hgl
      · by_cases h3 : s[J] = 34
        · have e1 : tokAt s J = (if (scanR s (J : Int)).2.2 = 0 then .tok 3 (scanR s (J : Int)).1 0 (scanR s (J : Int)).2.1 else .bad 6) := by
            unfold tokAt; rw [hd]; simp only; rw [if_neg h1, if_neg h2, if_pos h3]
          refine next_name X w p s k J P _ h hJ hP (by unfold pick; rw [hd]; simp only; rw [if_neg h1, if_neg h2, if_pos h3]) hT (fun W hC hO => ?_) hS
          rw [e1]
          exact name_calls X W P s J hC
        · have e1 : tokAt s J = (if isSign s[J] = true then .tok 4 [s[J]] 0 (J + 1) else .bad 3) := by
            unfold tokAt; rw [hd]; simp only; rw [if_neg h1, if_neg h2, if_neg h3]
          refine next_sign X w p s k J P _ h hJ hP (by unfold pick; rw [hd]; simp only; rw [if_neg h1, if_neg h2, if_neg h3]) hT (fun W hC hO => ?_) hS
          rw [e1]
          exact sign_calls X W P s J hlt hC
  · have hd : s.data.toList.drop J = [] := List.drop_of_length_le (by omega)
    have e1 : tokAt s J = .tok 0 [] 0 J := by unfold tokAt; rw [hd]
    refine next_end X w p s k J P _ h hJ hP (by unfold pick; rw [hd]) hT (fun W hC hO => ?_) hS
    rw [e1]
    exact end_calls X W P s J hC
end Go.Proofs.YtjkglbgenbnjoaaGreatDoor
