/- The walks of the cursor's while at its predicates (chapter 06). The walk of the cursor's spacing (chapter 06). The walks of Place and of the reference's Place (chapter 06). The walks of the reference lexer's small functions (chapter 06). The walks of the reference lexer's letter, digit, run (chapter 06). -/
import Derived.Test.YtdpieljopelkhaaGreatDoorLxCur
import Derived.Test.YtdpieljopelkhaaGreatDoorShelf
import Derived.BigGuardPart
namespace Go.Proofs.YtdpieljopelkhaaGreatDoor
open Go.RowKit Go.Lib

/-- The bytes from an offset to another. -/
def piece (s : ByteArray) (k m : Nat) : List UInt8 := (s.data.toList.drop k).take (m - k)
theorem piece_self (s : ByteArray) (k : Nat) : piece s k k = [] := by unfold piece; rw [Nat.sub_self, List.take_zero]
theorem piece_succ (s : ByteArray) (k m : Nat) (hk : k ≤ m) (hm : m < s.size) : piece s k (m + 1) = piece s k m ++ [s[m]] := by
  unfold piece
  have hl : m - k < (s.data.toList.drop k).length := by
    have := Lib.size_eq s
    rw [List.length_drop]; omega
  rw [show m + 1 - k = (m - k) + 1 by omega, List.take_succ_eq_append_getElem hl]
  congr 2
  rw [List.getElem_drop]
  have e : k + (m - k) = m := by omega
  simp only [e]
  simp; rfl
theorem extract_piece (s : ByteArray) (k m : Nat) : (s.extract k m).data.toList = piece s k m := by
  unfold piece
  simp [List.take_drop]
theorem sp_index : ∀ c : UInt8, decide (0 ≤ Lib.indexByte [32, 9, 13, 10] ((c.toNat : Nat) : Int).toNat.toUInt8) = isSp c := by
  have h : ∀ k : Fin 256, decide (0 ≤ Lib.indexByte [32, 9, 13, 10] (((UInt8.ofNat k.val).toNat : Nat) : Int).toNat.toUInt8) = isSp (UInt8.ofNat k.val) := by decide +kernel
  intro c
  have h2 := h ⟨c.toNat, UInt8.toNat_lt c⟩
  rwa [show UInt8.ofNat (⟨c.toNat, UInt8.toNat_lt c⟩ : Fin 256).val = c from UInt8.ofNat_toNat] at h2
theorem space_calls (c : UInt8) (w : World) : Calls Tryz.prog 117 #[.int .u8 (c.toNat : Int)] w fun e w' => e = .returned (.bool (isSp c)) ∧ w' = w := by
  have h := fun W => Tryz.strings_IndexByte ⟨#[32, 9, 13, 10]⟩ ((c.toNat : Nat) : Int) W
  have hs := sp_index c
  have e : (⟨#[32, 9, 13, 10]⟩ : ByteArray).data.toList = [32, 9, 13, 10] := rfl
  rw [e] at h
  obtain ⟨r, hr⟩ : ∃ r, r = Lib.indexByte [32, 9, 13, 10] ((c.toNat : Nat) : Int).toNat.toUInt8 := ⟨_, rfl⟩
  rw [← hr] at h hs
  have H := hide h
  have HS := hide hs
  clear h e hr hs
  by_cases h0 : 0 ≤ r
  all_goals
    go_enter Tryz.func117, Tryz.ntmps117
    go_wp2_with (go_at_call 118; refine (H.out _).mono ?_; rintro e w' ⟨rfl, rfl⟩)
    go_ret
    exact ⟨by rw [← HS.out]; simp [h0], rfl⟩
def atOf (w : World) (X : Nat) : Nat := match w.cell? ⟨X, 3, none⟩ with | some (.int _ n) => n.toNat | _ => 0
theorem Cur.atOf {w : World} {X : Nat} {p : Nat × Nat} {s : ByteArray} {k : Nat} (h : Cur w X p s k) : atOf w X = k := by
  unfold Go.Proofs.YtdpieljopelkhaaGreatDoor.atOf
  rw [h.cells.2.2.2]; simp
theorem place_next (s : ByteArray) (p : Nat × Nat) (k m : Nat) (hk : k ≤ m) (hm : m < s.size) : pass (placeFrom p (piece s k m)) s[m] = placeFrom p (piece s k (m + 1)) := by
  rw [piece_succ s k m hk hm, placeFrom_append]; rfl
/-- Behind while: the cursor stands at J. -/
def WhileV (X : Nat) (p : Nat × Nat) (s : ByteArray) (k J : Nat) (w : World) (e : Ending) (w' : World) : Prop :=
  e = .returned (.string (s.extract k J)) ∧ Cur w' X (placeFrom p (piece s k J)) s J ∧ Only X w w'

set_option maxHeartbeats 1000000 in
theorem while_let (X : Nat) (w : World) (p : Nat × Nat) (s : ByteArray) (k : Nat) (h : Cur w X p s k) :
    Calls Tryz.prog 116 #[.pointer (some ⟨X, 0, none⟩), .func (.func 121) #[] #[]] w (WhileV X p s k (k + runLen isLet (s.data.toList.drop k)) w) := by
  obtain ⟨c0, c1, c2, c3⟩ := h.cells
  obtain ⟨J, hJ⟩ : ∃ J, J = k + runLen isLet (s.data.toList.drop k) := ⟨_, rfl⟩
  rw [← hJ]
  have HJ := hide hJ
  have H := hide h
  have hsz := h.2.2.2.2
  have hks := h.2.2.2.1
  clear h hJ
  go_enter Tryz.func116, Tryz.ntmps116
  go_wp2
  go_loopw [10] (fun _ wr => ∃ m : Nat, k ≤ m ∧ Hid (Cur wr X (placeFrom p (piece s k m)) s m ∧ m + runLen isLet (s.data.toList.drop m) = J ∧ Only X w wr)) (fun _ wr => s.size - atOf wr X)
  case atStart => exact ⟨k, Nat.le_refl _, by rw [piece_self]; exact H.out, HJ.out.symm, Only.refl _ _⟩
  case round =>
    obtain ⟨m, hkm, hH⟩ := hrel
    obtain ⟨d0, d1, d2, d3⟩ := hH.out.1.cells
    have hms := hH.out.1.2.2.2.1
    have hm63 : m ≤ 100000000000000 := by omega
    by_cases hlt : m < s.size
    · have hdrop := hide (at_data s m hlt)
      have hi : (m : Int) < (s.size : Int) := by omega
      have hd : decide ((m : Int) < (s.size : Int)) = true := decide_eq_true hi
      have hP := fun W => isLetter_calls s[m] W
      cases hp : isLet s[m]
      · rw [hp] at hP
        have HP := hide hP
        have e1 : Hid (m = J) := by
          have := hH.out.2.1
          rw [hdrop.out, runLen_cons_no _ _ _ hp] at this
          exact this
        clear hP hp hdrop
        have e2 := e1.out
        subst e2
        have hki : (k : Int) ≤ (m : Int) := by omega
        have hmi : (m : Int) ≤ (s.size : Int) := by omega
        clear e1
        go_wp2
        go_quiet ((go_at_call 121; exact Calls.quiet_of_same (HP.out _)))
        go_wp2
        go_quiet (fail)
        go_wp2
        go_ret
        exact ⟨rfl, (hH.out.1.drewN _).drewN _, (hH.out.2.2.drewN _).drewN _⟩
      · rw [hp] at hP
        have HP := hide hP
        have e1 : m + 1 + runLen isLet (s.data.toList.drop (m + 1)) = J := by
          have := hH.out.2.1
          rw [hdrop.out, runLen_cons_yes _ _ _ hp] at this
          omega
        have hpl := place_next s p k m hkm hlt
        have hst := fun W (hC : Cur W X (placeFrom p (piece s k m)) s m) => step_calls X W (placeFrom p (piece s k m)) s m hlt hC
        rw [hpl] at hst
        have HST := hide hst
        have E1 := hide e1
        clear hP hp hdrop hst e1 hpl
        go_wp2
        go_quiet ((go_at_call 121; exact Calls.quiet_of_same (HP.out _)))
        go_wp2_with (go_at_call 132; refine (HST.out _ (hH.out.1.drewN _)).mono ?_; rintro e w2 ⟨rfl, hC2, hO2⟩; have HC2 := hide hC2; have HO2 := hide hO2; clear hC2 hO2)
        go_roundw
        case rel => first | exact ⟨m + 1, by omega, HC2.out, E1.out, (hH.out.2.2.drewN _).trans HO2.out⟩ | ((repeat apply Exists.intro); exact ⟨⟨m + 1, by omega, HC2.out, E1.out, (hH.out.2.2.drewN _).trans HO2.out⟩, rfl⟩)
        case measure => rw [HC2.out.atOf, hH.out.1.atOf]; omega
    · have e1 : m = J := by
        have := hH.out.2.1
        rw [List.drop_of_length_le (by have := Lib.size_eq s; omega)] at this
        exact this
      subst e1
      have hd : decide ((m : Int) < (s.size : Int)) = false := decide_eq_false (by omega)
      have hki : (k : Int) ≤ (m : Int) := by omega
      have hmi : (m : Int) ≤ (s.size : Int) := by omega
      go_wp2
      go_quiet (fail)
      go_wp2
      go_quiet (fail)
      go_wp2
      go_ret
      exact ⟨rfl, (hH.out.1.drewN _).drewN _, (hH.out.2.2.drewN _).drewN _⟩

set_option maxHeartbeats 1000000 in
theorem while_al (X : Nat) (w : World) (p : Nat × Nat) (s : ByteArray) (k : Nat) (h : Cur w X p s k) :
    Calls Tryz.prog 116 #[.pointer (some ⟨X, 0, none⟩), .func (.func 134) #[] #[]] w (WhileV X p s k (k + runLen isAl (s.data.toList.drop k)) w) := by
  obtain ⟨c0, c1, c2, c3⟩ := h.cells
  obtain ⟨J, hJ⟩ : ∃ J, J = k + runLen isAl (s.data.toList.drop k) := ⟨_, rfl⟩
  rw [← hJ]
  have HJ := hide hJ
  have H := hide h
  have hsz := h.2.2.2.2
  have hks := h.2.2.2.1
  clear h hJ
  go_enter Tryz.func116, Tryz.ntmps116
  go_wp2
  go_loopw [10] (fun _ wr => ∃ m : Nat, k ≤ m ∧ Hid (Cur wr X (placeFrom p (piece s k m)) s m ∧ m + runLen isAl (s.data.toList.drop m) = J ∧ Only X w wr)) (fun _ wr => s.size - atOf wr X)
  case atStart => exact ⟨k, Nat.le_refl _, by rw [piece_self]; exact H.out, HJ.out.symm, Only.refl _ _⟩
  case round =>
    obtain ⟨m, hkm, hH⟩ := hrel
    obtain ⟨d0, d1, d2, d3⟩ := hH.out.1.cells
    have hms := hH.out.1.2.2.2.1
    have hm63 : m ≤ 100000000000000 := by omega
    by_cases hlt : m < s.size
    · have hdrop := hide (at_data s m hlt)
      have hi : (m : Int) < (s.size : Int) := by omega
      have hd : decide ((m : Int) < (s.size : Int)) = true := decide_eq_true hi
      have hP := fun W => alnum_calls s[m] W
      cases hp : isAl s[m]
      · rw [hp] at hP
        have HP := hide hP
        have e1 : Hid (m = J) := by
          have := hH.out.2.1
          rw [hdrop.out, runLen_cons_no _ _ _ hp] at this
          exact this
        clear hP hp hdrop
        have e2 := e1.out
        subst e2
        have hki : (k : Int) ≤ (m : Int) := by omega
        have hmi : (m : Int) ≤ (s.size : Int) := by omega
        clear e1
        go_wp2
        go_quiet ((go_at_call 134; exact Calls.quiet_of_same (HP.out _)))
        go_wp2
        go_quiet (fail)
        go_wp2
        go_ret
        exact ⟨rfl, (hH.out.1.drewN _).drewN _, (hH.out.2.2.drewN _).drewN _⟩
      · rw [hp] at hP
        have HP := hide hP
        have e1 : m + 1 + runLen isAl (s.data.toList.drop (m + 1)) = J := by
          have := hH.out.2.1
          rw [hdrop.out, runLen_cons_yes _ _ _ hp] at this
          omega
        have hpl := place_next s p k m hkm hlt
        have hst := fun W (hC : Cur W X (placeFrom p (piece s k m)) s m) => step_calls X W (placeFrom p (piece s k m)) s m hlt hC
        rw [hpl] at hst
        have HST := hide hst
        have E1 := hide e1
        clear hP hp hdrop hst e1 hpl
        go_wp2
        go_quiet ((go_at_call 134; exact Calls.quiet_of_same (HP.out _)))
        go_wp2_with (go_at_call 132; refine (HST.out _ (hH.out.1.drewN _)).mono ?_; rintro e w2 ⟨rfl, hC2, hO2⟩; have HC2 := hide hC2; have HO2 := hide hO2; clear hC2 hO2)
        go_roundw
        case rel => first | exact ⟨m + 1, by omega, HC2.out, E1.out, (hH.out.2.2.drewN _).trans HO2.out⟩ | ((repeat apply Exists.intro); exact ⟨⟨m + 1, by omega, HC2.out, E1.out, (hH.out.2.2.drewN _).trans HO2.out⟩, rfl⟩)
        case measure => rw [HC2.out.atOf, hH.out.1.atOf]; omega
    · have e1 : m = J := by
        have := hH.out.2.1
        rw [List.drop_of_length_le (by have := Lib.size_eq s; omega)] at this
        exact this
      subst e1
      have hd : decide ((m : Int) < (s.size : Int)) = false := decide_eq_false (by omega)
      have hki : (k : Int) ≤ (m : Int) := by omega
      have hmi : (m : Int) ≤ (s.size : Int) := by omega
      go_wp2
      go_quiet (fail)
      go_wp2
      go_quiet (fail)
      go_wp2
      go_ret
      exact ⟨rfl, (hH.out.1.drewN _).drewN _, (hH.out.2.2.drewN _).drewN _⟩

set_option maxHeartbeats 1000000 in
theorem while_feed (X : Nat) (w : World) (p : Nat × Nat) (s : ByteArray) (k : Nat) (h : Cur w X p s k) :
    Calls Tryz.prog 116 #[.pointer (some ⟨X, 0, none⟩), .func (.func 119) #[] #[]] w (WhileV X p s k (k + runLen notFeed (s.data.toList.drop k)) w) := by
  obtain ⟨c0, c1, c2, c3⟩ := h.cells
  obtain ⟨J, hJ⟩ : ∃ J, J = k + runLen notFeed (s.data.toList.drop k) := ⟨_, rfl⟩
  rw [← hJ]
  have HJ := hide hJ
  have H := hide h
  have hsz := h.2.2.2.2
  have hks := h.2.2.2.1
  clear h hJ
  go_enter Tryz.func116, Tryz.ntmps116
  go_wp2
  go_loopw [10] (fun _ wr => ∃ m : Nat, k ≤ m ∧ Hid (Cur wr X (placeFrom p (piece s k m)) s m ∧ m + runLen notFeed (s.data.toList.drop m) = J ∧ Only X w wr)) (fun _ wr => s.size - atOf wr X)
  case atStart => exact ⟨k, Nat.le_refl _, by rw [piece_self]; exact H.out, HJ.out.symm, Only.refl _ _⟩
  case round =>
    obtain ⟨m, hkm, hH⟩ := hrel
    obtain ⟨d0, d1, d2, d3⟩ := hH.out.1.cells
    have hms := hH.out.1.2.2.2.1
    have hm63 : m ≤ 100000000000000 := by omega
    by_cases hlt : m < s.size
    · have hdrop := hide (at_data s m hlt)
      have hi : (m : Int) < (s.size : Int) := by omega
      have hd : decide ((m : Int) < (s.size : Int)) = true := decide_eq_true hi
      have hP := fun W => nofeed_calls s[m] W
      cases hp : notFeed s[m]
      · rw [hp] at hP
        have HP := hide hP
        have e1 : Hid (m = J) := by
          have := hH.out.2.1
          rw [hdrop.out, runLen_cons_no _ _ _ hp] at this
          exact this
        clear hP hp hdrop
        have e2 := e1.out
        subst e2
        have hki : (k : Int) ≤ (m : Int) := by omega
        have hmi : (m : Int) ≤ (s.size : Int) := by omega
        clear e1
        go_wp2
        go_quiet ((go_at_call 119; exact Calls.quiet_of_same (HP.out _)))
        go_wp2
        go_quiet (fail)
        go_wp2
        go_ret
        exact ⟨rfl, (hH.out.1.drewN _).drewN _, (hH.out.2.2.drewN _).drewN _⟩
      · rw [hp] at hP
        have HP := hide hP
        have e1 : m + 1 + runLen notFeed (s.data.toList.drop (m + 1)) = J := by
          have := hH.out.2.1
          rw [hdrop.out, runLen_cons_yes _ _ _ hp] at this
          omega
        have hpl := place_next s p k m hkm hlt
        have hst := fun W (hC : Cur W X (placeFrom p (piece s k m)) s m) => step_calls X W (placeFrom p (piece s k m)) s m hlt hC
        rw [hpl] at hst
        have HST := hide hst
        have E1 := hide e1
        clear hP hp hdrop hst e1 hpl
        go_wp2
        go_quiet ((go_at_call 119; exact Calls.quiet_of_same (HP.out _)))
        go_wp2_with (go_at_call 132; refine (HST.out _ (hH.out.1.drewN _)).mono ?_; rintro e w2 ⟨rfl, hC2, hO2⟩; have HC2 := hide hC2; have HO2 := hide hO2; clear hC2 hO2)
        go_roundw
        case rel => first | exact ⟨m + 1, by omega, HC2.out, E1.out, (hH.out.2.2.drewN _).trans HO2.out⟩ | ((repeat apply Exists.intro); exact ⟨⟨m + 1, by omega, HC2.out, E1.out, (hH.out.2.2.drewN _).trans HO2.out⟩, rfl⟩)
        case measure => rw [HC2.out.atOf, hH.out.1.atOf]; omega
    · have e1 : m = J := by
        have := hH.out.2.1
        rw [List.drop_of_length_le (by have := Lib.size_eq s; omega)] at this
        exact this
      subst e1
      have hd : decide ((m : Int) < (s.size : Int)) = false := decide_eq_false (by omega)
      have hki : (k : Int) ≤ (m : Int) := by omega
      have hmi : (m : Int) ≤ (s.size : Int) := by omega
      go_wp2
      go_quiet (fail)
      go_wp2
      go_quiet (fail)
      go_wp2
      go_ret
      exact ⟨rfl, (hH.out.1.drewN _).drewN _, (hH.out.2.2.drewN _).drewN _⟩

set_option maxHeartbeats 1000000 in
theorem while_sp (X : Nat) (w : World) (p : Nat × Nat) (s : ByteArray) (k : Nat) (h : Cur w X p s k) :
    Calls Tryz.prog 116 #[.pointer (some ⟨X, 0, none⟩), .func (.func 117) #[] #[]] w (WhileV X p s k (k + runLen isSp (s.data.toList.drop k)) w) := by
  obtain ⟨c0, c1, c2, c3⟩ := h.cells
  obtain ⟨J, hJ⟩ : ∃ J, J = k + runLen isSp (s.data.toList.drop k) := ⟨_, rfl⟩
  rw [← hJ]
  have HJ := hide hJ
  have H := hide h
  have hsz := h.2.2.2.2
  have hks := h.2.2.2.1
  clear h hJ
  go_enter Tryz.func116, Tryz.ntmps116
  go_wp2
  go_loopw [10] (fun _ wr => ∃ m : Nat, k ≤ m ∧ Hid (Cur wr X (placeFrom p (piece s k m)) s m ∧ m + runLen isSp (s.data.toList.drop m) = J ∧ Only X w wr)) (fun _ wr => s.size - atOf wr X)
  case atStart => exact ⟨k, Nat.le_refl _, by rw [piece_self]; exact H.out, HJ.out.symm, Only.refl _ _⟩
  case round =>
    obtain ⟨m, hkm, hH⟩ := hrel
    obtain ⟨d0, d1, d2, d3⟩ := hH.out.1.cells
    have hms := hH.out.1.2.2.2.1
    have hm63 : m ≤ 100000000000000 := by omega
    by_cases hlt : m < s.size
    · have hdrop := hide (at_data s m hlt)
      have hi : (m : Int) < (s.size : Int) := by omega
      have hd : decide ((m : Int) < (s.size : Int)) = true := decide_eq_true hi
      have hP := fun W => space_calls s[m] W
      cases hp : isSp s[m]
      · rw [hp] at hP
        have HP := hide hP
        have e1 : Hid (m = J) := by
          have := hH.out.2.1
          rw [hdrop.out, runLen_cons_no _ _ _ hp] at this
          exact this
        clear hP hp hdrop
        have e2 := e1.out
        subst e2
        have hki : (k : Int) ≤ (m : Int) := by omega
        have hmi : (m : Int) ≤ (s.size : Int) := by omega
        clear e1
        go_wp2
        go_quiet ((go_at_call 117; exact Calls.quiet_of_same (HP.out _)))
        go_wp2
        go_quiet (fail)
        go_wp2
        go_ret
        exact ⟨rfl, (hH.out.1.drewN _).drewN _, (hH.out.2.2.drewN _).drewN _⟩
      · rw [hp] at hP
        have HP := hide hP
        have e1 : m + 1 + runLen isSp (s.data.toList.drop (m + 1)) = J := by
          have := hH.out.2.1
          rw [hdrop.out, runLen_cons_yes _ _ _ hp] at this
          omega
        have hpl := place_next s p k m hkm hlt
        have hst := fun W (hC : Cur W X (placeFrom p (piece s k m)) s m) => step_calls X W (placeFrom p (piece s k m)) s m hlt hC
        rw [hpl] at hst
        have HST := hide hst
        have E1 := hide e1
        clear hP hp hdrop hst e1 hpl
        go_wp2
        go_quiet ((go_at_call 117; exact Calls.quiet_of_same (HP.out _)))
        go_wp2_with (go_at_call 132; refine (HST.out _ (hH.out.1.drewN _)).mono ?_; rintro e w2 ⟨rfl, hC2, hO2⟩; have HC2 := hide hC2; have HO2 := hide hO2; clear hC2 hO2)
        go_roundw
        case rel => first | exact ⟨m + 1, by omega, HC2.out, E1.out, (hH.out.2.2.drewN _).trans HO2.out⟩ | ((repeat apply Exists.intro); exact ⟨⟨m + 1, by omega, HC2.out, E1.out, (hH.out.2.2.drewN _).trans HO2.out⟩, rfl⟩)
        case measure => rw [HC2.out.atOf, hH.out.1.atOf]; omega
    · have e1 : m = J := by
        have := hH.out.2.1
        rw [List.drop_of_length_le (by have := Lib.size_eq s; omega)] at this
        exact this
      subst e1
      have hd : decide ((m : Int) < (s.size : Int)) = false := decide_eq_false (by omega)
      have hki : (k : Int) ≤ (m : Int) := by omega
      have hmi : (m : Int) ≤ (s.size : Int) := by omega
      go_wp2
      go_quiet (fail)
      go_wp2
      go_quiet (fail)
      go_wp2
      go_ret
      exact ⟨rfl, (hH.out.1.drewN _).drewN _, (hH.out.2.2.drewN _).drewN _⟩
end Go.Proofs.YtdpieljopelkhaaGreatDoor
namespace Go.Proofs.YtdpieljopelkhaaGreatDoor
open Go.RowKit Go.Lib

theorem piece_join (s : ByteArray) (a b c : Nat) (h1 : a ≤ b) (h2 : b ≤ c) : piece s a b ++ piece s b c = piece s a c := by
  unfold piece
  have e : c - a = (b - a) + (c - b) := by omega
  rw [e, List.take_add, List.drop_drop]
  congr 3; omega
theorem place_join (s : ByteArray) (p : Nat × Nat) (a b c : Nat) (h1 : a ≤ b) (h2 : b ≤ c) : placeFrom (placeFrom p (piece s a b)) (piece s b c) = placeFrom p (piece s a c) := by
  rw [← placeFrom_append, piece_join s a b c h1 h2]
/-- Behind spacing. -/
def SpaceV (X : Nat) (p : Nat × Nat) (s : ByteArray) (k J : Nat) (w : World) (e : Ending) (w' : World) : Prop :=
  e = .returned (.tuple #[]) ∧ Cur w' X (placeFrom p (piece s k J)) s J ∧ Only X w w'
theorem run_le (P : UInt8 → Bool) (s : ByteArray) (k : Nat) (h : k ≤ s.size) : k + runLen P (s.data.toList.drop k) ≤ s.size := by
  have h1 := runLen_le P (s.data.toList.drop k)
  have h2 := Lib.size_eq s
  rw [List.length_drop] at h1
  omega

set_option maxHeartbeats 1000000 in
theorem spacing_calls (X : Nat) (w : World) (p : Nat × Nat) (s : ByteArray) (k : Nat) (h : Cur w X p s k) :
    Calls Tryz.prog 89 #[.pointer (some ⟨X, 0, none⟩)] w (SpaceV X p s k (skipAt s k) w) := by
  obtain ⟨J, hJ⟩ : ∃ J, J = skipAt s k := ⟨_, rfl⟩
  rw [← hJ]
  have HJ := hide hJ
  have H := hide h
  have hsz := h.2.2.2.2
  have hks := h.2.2.2.1
  clear h hJ
  go_enter Tryz.func89, Tryz.ntmps89
  go_wp2
  go_loopw [2] (fun _ wr => ∃ m : Nat, k ≤ m ∧ Hid (Cur wr X (placeFrom p (piece s k m)) s m ∧ skipAt s m = J ∧ Only X w wr)) (fun _ wr => s.size - atOf wr X)
  case atStart => exact ⟨k, Nat.le_refl _, by rw [piece_self]; exact H.out, HJ.out.symm, Only.refl _ _⟩
  case round =>
    obtain ⟨m, hkm, hH⟩ := hrel
    have hms := hH.out.1.2.2.2.1
    obtain ⟨m1, hm1⟩ : ∃ m1, m1 = m + runLen isSp (s.data.toList.drop m) := ⟨_, rfl⟩
    have h1 := fun W (hC : Cur W X (placeFrom p (piece s k m)) s m) => while_sp X W (placeFrom p (piece s k m)) s m hC
    have hm1s : m1 ≤ s.size := by rw [hm1]; exact run_le isSp s m hms
    have hmm1 : m ≤ m1 := by omega
    have hsk : skipAt s m1 = J := by
      have h2 := hH.out.2.1
      unfold skipAt at h2 ⊢
      rw [spc_spaces, List.drop_drop, ← hm1] at h2
      omega
    rw [← hm1] at h1
    have H1 := hide h1
    have HSK := hide hsk
    have HM1 := hide hm1
    clear h1 hsk hm1
    by_cases hend : m1 < s.size
    · have hdrop := at_data s m1 hend
      by_cases hh : s[m1] = 35
      · have hb : ((s[m1].toNat : Int) == 35) = true := by rw [hh]; rfl
        have hb2 : ((s[m1].toNat : Int) != 35) = false := by rw [bne, hb]; rfl
        have he : ((m1 : Int) == (s.size : Int)) = false := by simp; omega
        have hi : (m1 : Int) < (s.size : Int) := by omega
        obtain ⟨m2, hm2⟩ : ∃ m2, m2 = m1 + runLen notFeed (s.data.toList.drop m1) := ⟨_, rfl⟩
        have hm2s : m2 ≤ s.size := by rw [hm2]; exact run_le notFeed s m1 hm1s
        have hm12 : m1 < m2 := by
          rw [hm2, hdrop, runLen_cons_yes _ _ _ (by rw [hh]; rfl)]; omega
        have hsk2 : skipAt s m2 = J := by
          have h2 := HSK.out
          unfold skipAt at h2 ⊢
          rw [hdrop, hh, spc_hash, ← hh, ← hdrop, spc_comment, List.drop_drop, ← hm2] at h2
          omega
        have hpj := place_join s p k m m1 hkm hmm1
        have h2 := fun W (hC : Cur W X (placeFrom p (piece s k m1)) s m1) => while_feed X W (placeFrom p (piece s k m1)) s m1 hC
        rw [← hm2] at h2
        have H2 := hide h2
        have HSK2 := hide hsk2
        have HPJ := hide hpj
        have HPJ2 := hide (place_join s p k m1 m2 (by omega) (by omega))
        clear h2 hsk2 hm2 hh hdrop hpj
        go_wp2_with (go_at_call 116; refine (H1.out _ hH.out.1).mono ?_; rintro e w2 ⟨rfl, hC2, hO2⟩; obtain ⟨d0, d1, d2, d3⟩ := hC2.cells; have HC2 := hide hC2; have HO2 := hide hO2; clear hC2 hO2)
        go_quiet (fail)
        have hC2q := hide (show Cur (w2.drewN nq) X (placeFrom p (piece s k m1)) s m1 from by have h := HC2.out.drewN nq; rwa [HPJ.out] at h)
        go_wp2_with (go_at_call 116; refine (H2.out _ hC2q.out).mono ?_; rintro e w3 ⟨rfl, hC3, hO3⟩; have HC3 := hide hC3; have HO3 := hide hO3; clear hC3 hO3)
        have hfin := hide (show Cur w3 X (placeFrom p (piece s k m2)) s m2 from by have h := HC3.out; rwa [HPJ2.out] at h)
        have hon := hide ((hH.out.2.2.trans (HO2.out.drewN nq)).trans HO3.out)
        go_roundw
        case rel => first | exact ⟨m2, by omega, hfin.out, HSK2.out, hon.out⟩ | ((repeat apply Exists.intro); exact ⟨⟨m2, by omega, hfin.out, HSK2.out, hon.out⟩, rfl⟩)
        case measure => rw [hfin.out.atOf, hH.out.1.atOf]; omega
      · have e1 : m1 = J := by
          have h2 := HSK.out
          unfold skipAt at h2
          have hns : isSp s[m1] = false := runLen_head isSp (s.data.toList.drop m) s[m1] (s.data.toList.drop (m1 + 1)) (by rw [List.drop_drop, ← HM1.out]; exact hdrop)
          rw [hdrop, spc_stop _ _ hh hns] at h2
          exact h2
        have hb : ((s[m1].toNat : Int) == 35) = false := by
          have : s[m1].toNat ≠ 35 := fun e => hh (UInt8.toNat_inj.1 (by rw [e]; rfl))
          simp; omega
        have hb2 : ((s[m1].toNat : Int) != 35) = true := by rw [bne, hb]; rfl
        have he : ((m1 : Int) == (s.size : Int)) = false := by simp; omega
        have hi : (m1 : Int) < (s.size : Int) := by omega
        subst e1
        have HPJ := hide (place_join s p k m m1 hkm hmm1)
        clear hdrop hh
        go_wp2_with (go_at_call 116; refine (H1.out _ hH.out.1).mono ?_; rintro e w2 ⟨rfl, hC2, hO2⟩; obtain ⟨d0, d1, d2, d3⟩ := hC2.cells; have HC2 := hide hC2; have HO2 := hide hO2; clear hC2 hO2)
        go_quiet (fail)
        go_wp2
        refine bodyPost_ret (results_none rfl _ _ _) rfl ⟨rfl, ?_, (hH.out.2.2.trans HO2.out).drewN _⟩
        have h := HC2.out.drewN nq
        rwa [HPJ.out] at h
    · have e1 : m1 = J := by
        have h2 := HSK.out
        unfold skipAt at h2
        rw [List.drop_of_length_le (by have := Lib.size_eq s; omega)] at h2
        exact h2
      have he : ((m1 : Int) == (s.size : Int)) = true := by simp; omega
      subst e1
      have HPJ := hide (place_join s p k m m1 hkm hmm1)
      go_wp2_with (go_at_call 116; refine (H1.out _ hH.out.1).mono ?_; rintro e w2 ⟨rfl, hC2, hO2⟩; obtain ⟨d0, d1, d2, d3⟩ := hC2.cells; have HC2 := hide hC2; have HO2 := hide hO2; clear hC2 hO2)
      go_quiet (fail)
      go_wp2
      refine bodyPost_ret (results_none rfl _ _ _) rfl ⟨rfl, ?_, (hH.out.2.2.trans HO2.out).drewN _⟩
      have h := HC2.out.drewN nq
      rwa [HPJ.out] at h
end Go.Proofs.YtdpieljopelkhaaGreatDoor
namespace Go.Proofs.YtdpieljopelkhaaGreatDoor
open Go.RowKit Go.Lib

/-- What Place answers. -/
def placeV (s : ByteArray) (a : Int) : Nat × Nat := if 0 ≤ a ∧ a ≤ s.size then placeAt s a.toNat else (0, 0)
def PlaceV (s : ByteArray) (a : Int) (w : World) (e : Ending) (w' : World) : Prop := e = .returned (.tuple #[.int .i64 ((placeV s a).1 : Int), .int .i64 ((placeV s a).2 : Int)]) ∧ w' = w

set_option maxHeartbeats 1000000 in
theorem RefPlace_calls (s : ByteArray) (a : Int) (ha : (Lit.int .i64 a).wf = true) (hs : s.size ≤ 100000000000000) (w : World) :
    Calls Tryz.prog 70 #[.string s, .int .i64 a] w (PlaceV s a w) := by
  unfold PlaceV
  by_cases h0 : a < 0
  · have e1 : placeV s a = (0, 0) := by unfold placeV; rw [if_neg (by omega)]
    rw [e1]
    have hd : decide (a < 0) = true := by simpa using h0
    go_enter Tryz.func70, Tryz.ntmps70
    go_wp2
    go_ret2
    exact ⟨rfl, rfl⟩
  · have hd : decide (a < 0) = false := by simpa using h0
    by_cases h1 : (s.size : Int) < a
    · have e1 : placeV s a = (0, 0) := by unfold placeV; rw [if_neg (by omega)]
      rw [e1]
      have hd1 : decide ((s.size : Int) < a) = true := by simpa using h1
      go_enter Tryz.func70, Tryz.ntmps70
      go_wp2
      go_ret2
      exact ⟨rfl, rfl⟩
    · have hd1 : decide ((s.size : Int) < a) = false := by simpa using h1
      obtain ⟨k, rfl⟩ : ∃ k : Nat, a = (k : Int) := ⟨a.toNat, by omega⟩
      have hk : k ≤ s.size := by omega
      have e1 : placeV s (k : Int) = placeFrom (1, 1) (piece s 0 k) := by unfold placeV placeAt piece; rw [if_pos (by omega)]; simp
      rw [e1]
      have hpn := fun j (hj : j < s.size) => place_next s (1, 1) 0 j (Nat.zero_le _) hj
      have hle := fun j (hj : j ≤ s.size) => placeFrom_le (piece s 0 j) (1, 1)
      have hpl := fun j (hj : j ≤ s.size) => (show (piece s 0 j).length ≤ j from by unfold piece; simp; omega)
      have HPN := hide hpn
      have HLE := hide hle
      have HPL := hide hpl
      clear e1 hpn hle hpl
      go_enter Tryz.func70, Tryz.ntmps70
      go_wp2
      go_loop [6, 7, 8] (fun a b i => ∃ j : Nat, j ≤ k ∧ i = .int .i64 (j : Int) ∧ Hid (a = .int .i64 ((placeFrom (1, 1) (piece s 0 j)).1 : Int) ∧ b = .int .i64 ((placeFrom (1, 1) (piece s 0 j)).2 : Int))) (fun _ _ i => k - (RowKit.intOf i).toNat)
      case atStart => exact ⟨0, Nat.zero_le _, rfl, by rw [piece_self]; exact ⟨rfl, rfl⟩⟩
      case round =>
        obtain ⟨j, hj, rfl, hab⟩ := hrel
        obtain ⟨rfl, rfl⟩ := hab.out
        have hl1 := HLE.out j (by omega)
        have hl2 := HPL.out j (by omega)
        obtain ⟨hl3, hl4⟩ := hl1
        obtain ⟨q1, hq1⟩ : ∃ q, q = (placeFrom (1, 1) (piece s 0 j)).1 := ⟨_, rfl⟩
        obtain ⟨q2, hq2⟩ : ∃ q, q = (placeFrom (1, 1) (piece s 0 j)).2 := ⟨_, rfl⟩
        rw [← hq1] at hl3
        rw [← hq2] at hl4
        rw [← hq1, ← hq2]
        by_cases hlt : j < k
        · have hdl : decide ((j : Int) < (k : Int)) = true := by simpa using hlt
          have hix : (j : Int) < (s.size : Int) := by omega
          have hnx := hide (HPN.out j (by omega))
          by_cases hc : s[j] = 10
          · have hb : ((s[j].toNat : Int) == 10) = true := by rw [hc]; rfl
            have hp := hide (show placeFrom (1, 1) (piece s 0 (j + 1)) = (q1 + 1, 1) by rw [← hnx.out, hq1]; unfold pass; rw [if_pos hc])
            clear hq1 hq2 hab hc hnx
            go_wp2
            go_round
            case rel => first | exact ⟨j + 1, by omega, by go_num, by rw [hp.out]; exact ⟨rfl, rfl⟩⟩ | ((repeat apply Exists.intro); exact ⟨⟨j + 1, by omega, by go_num, by rw [hp.out]; exact ⟨rfl, rfl⟩⟩, rfl⟩)
            case measure => simp [RowKit.intOf]; omega
          · have hb : ((s[j].toNat : Int) == 10) = false := by
              have : s[j].toNat ≠ 10 := fun e => hc (UInt8.toNat_inj.1 (by rw [e]; rfl))
              simp; omega
            have hp := hide (show placeFrom (1, 1) (piece s 0 (j + 1)) = (q1, q2 + 1) by rw [← hnx.out, hq1, hq2]; unfold pass; rw [if_neg hc])
            clear hq1 hq2 hab hc hnx
            go_wp2
            go_round
            case rel => first | exact ⟨j + 1, by omega, by go_num, by rw [hp.out]; exact ⟨rfl, rfl⟩⟩ | ((repeat apply Exists.intro); exact ⟨⟨j + 1, by omega, by go_num, by rw [hp.out]; exact ⟨rfl, rfl⟩⟩, rfl⟩)
            case measure => simp [RowKit.intOf]; omega
        · obtain rfl : j = k := by omega
          have HQ1 := hide hq1
          have HQ2 := hide hq2
          clear hq1 hq2 hab
          go_wp2
          go_ret2
          exact ⟨by rw [← HQ1.out, ← HQ2.out]; rfl, rfl⟩
end Go.Proofs.YtdpieljopelkhaaGreatDoor
namespace Go.Proofs.YtdpieljopelkhaaGreatDoor
open Go.RowKit Go.Lib

theorem skip_end (s : ByteArray) (k : Nat) (h : s.size ≤ k) : skipAt s k = k := by
  unfold skipAt
  rw [List.drop_of_length_le (by rw [← Lib.size_eq]; exact h)]; rfl
theorem skip_hash (s : ByteArray) (m : Nat) (hm : m < s.size) (h : s[m] = 35) : skipAt s m = skipAt s (m + runLen notFeed (s.data.toList.drop m)) ∧ 0 < runLen notFeed (s.data.toList.drop m) := by
  have hd := at_data s m hm
  constructor
  · unfold skipAt
    have e1 : spc false (s.data.toList.drop m) = spc true (s.data.toList.drop m) := by rw [hd, h]; rfl
    rw [e1, spc_comment, List.drop_drop]; omega
  · rw [hd, runLen_cons_yes _ _ _ (by rw [h]; rfl)]; omega
theorem skip_space (s : ByteArray) (m : Nat) (hm : m < s.size) (h : s[m] ≠ 35) (hs : isSp s[m] = true) : skipAt s m = skipAt s (m + 1) := by
  unfold skipAt
  rw [at_data s m hm]
  simp only [spc]
  rw [if_neg h, if_pos hs]; omega
theorem skip_stop (s : ByteArray) (m : Nat) (hm : m < s.size) (h : s[m] ≠ 35) (hs : isSp s[m] = false) : skipAt s m = m := by
  unfold skipAt
  rw [at_data s m hm, spc_stop _ _ h hs]; rfl

set_option maxHeartbeats 2000000 in
theorem RefSkip_calls (s : ByteArray) (k : Nat) (hk : k ≤ s.size) (hs : s.size ≤ 100000000000000) (w : World) :
    Calls Tryz.prog 69 #[.string s, .int .i64 (k : Int)] w fun e w' => e = .returned (.int .i64 ((skipAt s k : Nat) : Int)) ∧ w' = w := by
  obtain ⟨J, hJ⟩ : ∃ J, J = skipAt s k := ⟨_, rfl⟩
  rw [← hJ]
  have HJ := hide hJ
  clear hJ
  go_enter Tryz.func69, Tryz.ntmps69
  go_wp2
  go_loop [1] (fun a => ∃ m : Nat, m ≤ s.size ∧ a = .int .i64 (m : Int) ∧ Hid (skipAt s m = J)) (fun a => s.size - (RowKit.intOf a).toNat)
  case atStart => exact ⟨k, hk, rfl, HJ.out.symm⟩
  case round =>
    obtain ⟨m, hm, rfl, hH⟩ := hrel
    by_cases hlt : m < s.size
    · have hdl : decide ((m : Int) < (s.size : Int)) = true := by simpa using hlt
      have hix : (m : Int) < (s.size : Int) := by omega
      by_cases hh : s[m] = 35
      · have hb : ((s[m].toNat : Int) == 35) = true := by rw [hh]; rfl
        have hsk := hide (skip_hash s m hlt hh)
        obtain ⟨M, hM⟩ : ∃ M, M = m + runLen notFeed (s.data.toList.drop m) := ⟨_, rfl⟩
        have hMs : M ≤ s.size := by rw [hM]; exact run_le notFeed s m hm
        have hmM : m < M := by have := hsk.out.2; omega
        have hfin := hide (show skipAt s M = J by rw [hM, ← hsk.out.1]; exact hH.out)
        have HM := hide hM
        clear hM hsk hh
        go_wp2
        go_loop [1] (fun a => ∃ q : Nat, m ≤ q ∧ q ≤ s.size ∧ a = .int .i64 (q : Int) ∧ Hid (q + runLen notFeed (s.data.toList.drop q) = M)) (fun a => s.size - (RowKit.intOf a).toNat)
        case atStart => exact ⟨m, Nat.le_refl _, hm, rfl, HM.out.symm⟩
        case round =>
          obtain ⟨q, hmq, hq, rfl, hQ⟩ := hrel
          by_cases hql : q < s.size
          · have hdq : decide ((q : Int) < (s.size : Int)) = true := by simpa using hql
            have hiq : (q : Int) < (s.size : Int) := by omega
            have hdd := at_data s q hql
            by_cases hc : s[q] = 10
            · have hcb : ((s[q].toNat : Int) == 10) = true := by rw [hc]; rfl
              have hcn : ((s[q].toNat : Int) != 10) = false := by rw [bne, hcb]; rfl
              have e1 : q = M := by
                have h2 := hQ.out
                rw [hdd, runLen_cons_no _ _ _ (by rw [hc]; rfl)] at h2
                omega
              subst e1
              clear hdd hc
              go_wp2
              go_round
              case rel => first | exact ⟨q, by omega, rfl, hfin.out⟩ | ((repeat apply Exists.intro); exact ⟨⟨q, by omega, rfl, hfin.out⟩, rfl⟩)
              case measure => simp [RowKit.intOf]; omega
            · have hcb : ((s[q].toNat : Int) == 10) = false := by
                have : s[q].toNat ≠ 10 := fun e => hc (UInt8.toNat_inj.1 (by rw [e]; rfl))
                simp; omega
              have hcn : ((s[q].toNat : Int) != 10) = true := by rw [bne, hcb]; rfl
              have hQ2 := hide (show (q + 1) + runLen notFeed (s.data.toList.drop (q + 1)) = M by
                have h2 := hQ.out
                rw [hdd, runLen_cons_yes _ _ _ (by unfold notFeed; simpa using hc)] at h2
                omega)
              clear hdd hc
              go_wp2
              go_round
              case rel => first | exact ⟨q + 1, by omega, by omega, by go_num, hQ2.out⟩ | ((repeat apply Exists.intro); exact ⟨⟨q + 1, by omega, by omega, by go_num, hQ2.out⟩, rfl⟩)
              case measure => simp [RowKit.intOf]; omega
          · have hdq : decide ((q : Int) < (s.size : Int)) = false := by simp; omega
            have e1 : q = M := by
              have h2 := hQ.out
              rw [List.drop_of_length_le (by rw [← Lib.size_eq]; omega)] at h2
              exact h2
            subst e1
            go_wp2
            go_round
            case rel => first | exact ⟨q, by omega, rfl, hfin.out⟩ | ((repeat apply Exists.intro); exact ⟨⟨q, by omega, rfl, hfin.out⟩, rfl⟩)
            case measure => simp [RowKit.intOf]; omega
      · have hb : ((s[m].toNat : Int) == 35) = false := by
          have : s[m].toNat ≠ 35 := fun e => hh (UInt8.toNat_inj.1 (by rw [e]; rfl))
          simp; omega
        cases hsp : isSp s[m]
        · have e1 : m = J := by rw [← hH.out]; exact (skip_stop s m hlt hh hsp).symm
          subst e1
          have h32 : ((s[m].toNat : Int) != 32) = true := by
            have : s[m] ≠ 32 := by intro e; rw [e] at hsp; revert hsp; decide
            have : s[m].toNat ≠ 32 := fun e => this (UInt8.toNat_inj.1 (by rw [e]; rfl))
            simp; omega
          have h9 : ((s[m].toNat : Int) != 9) = true := by
            have : s[m] ≠ 9 := by intro e; rw [e] at hsp; revert hsp; decide
            have : s[m].toNat ≠ 9 := fun e => this (UInt8.toNat_inj.1 (by rw [e]; rfl))
            simp; omega
          have h10 : ((s[m].toNat : Int) != 10) = true := by
            have : s[m] ≠ 10 := by intro e; rw [e] at hsp; revert hsp; decide
            have : s[m].toNat ≠ 10 := fun e => this (UInt8.toNat_inj.1 (by rw [e]; rfl))
            simp; omega
          have h13 : ((s[m].toNat : Int) != 13) = true := by
            have : s[m] ≠ 13 := by intro e; rw [e] at hsp; revert hsp; decide
            have : s[m].toNat ≠ 13 := fun e => this (UInt8.toNat_inj.1 (by rw [e]; rfl))
            simp; omega
          clear hsp hh
          go_wp2
          go_ret
          exact ⟨rfl, rfl⟩
        · have hnx := hide (show skipAt s (m + 1) = J by rw [← skip_space s m hlt hh hsp]; exact hH.out)
          have hd4 : s[m] = 32 ∨ s[m] = 9 ∨ s[m] = 10 ∨ s[m] = 13 := by
            unfold isSp at hsp
            simp only [Bool.or_eq_true, beq_iff_eq] at hsp
            rcases hsp with ((h | h) | h) | h
            · exact .inl h
            · exact .inr (.inl h)
            · exact .inr (.inr (.inl h))
            · exact .inr (.inr (.inr h))
          clear hsp hh
          rcases hd4 with hc | hc | hc | hc
          all_goals
            have hv : (s[m].toNat : Int) = _ := congrArg (fun c : UInt8 => (c.toNat : Int)) hc
            go_wp2
            go_round
            case rel => first | exact ⟨m + 1, by omega, by go_num, hnx.out⟩ | ((repeat apply Exists.intro); exact ⟨⟨m + 1, by omega, by go_num, hnx.out⟩, rfl⟩)
            case measure => simp [RowKit.intOf]; omega
    · have hdl : decide ((m : Int) < (s.size : Int)) = false := by simp; omega
      have e1 : m = J := by rw [← hH.out]; exact (skip_end s m (by omega)).symm
      subst e1
      go_wp2
      go_ret
      exact ⟨rfl, rfl⟩
end Go.Proofs.YtdpieljopelkhaaGreatDoor
namespace Go.Proofs.YtdpieljopelkhaaGreatDoor
open Go.RowKit Go.Lib

theorem letter_calls (c : UInt8) (w : World) : Calls Tryz.prog 71 #[.int .u8 (c.toNat : Int)] w fun e w' => e = .returned (.bool (isLet c)) ∧ w' = w := by
  have h256 := UInt8.toNat_lt c
  by_cases h1 : 97 ≤ c.toNat <;> by_cases h2 : c.toNat ≤ 122
  all_goals
    have hv : Hid (isLet c = (decide (97 ≤ c.toNat) && decide (c.toNat ≤ 122))) := rfl
    go_enter Tryz.func71, Tryz.ntmps71
    go_wp2
    all_goals first | (exfalso; omega) | (go_ret; exact ⟨by rw [hv.out]; simp [h1, h2]; try omega, rfl⟩)
theorem digit06_calls (c : UInt8) (w : World) : Calls Tryz.prog 73 #[.int .u8 (c.toNat : Int)] w fun e w' => e = .returned (.bool (isDig c)) ∧ w' = w := by
  have h256 := UInt8.toNat_lt c
  by_cases h1 : 48 ≤ c.toNat <;> by_cases h2 : c.toNat ≤ 57
  all_goals
    have hv : Hid (isDig c = (decide (48 ≤ c.toNat) && decide (c.toNat ≤ 57))) := rfl
    go_enter Tryz.func73, Tryz.ntmps73
    go_wp2
    all_goals first | (exfalso; omega) | (go_ret; exact ⟨by rw [hv.out]; simp [h1, h2]; try omega, rfl⟩)

set_option maxHeartbeats 2000000 in
theorem run_let (s : ByteArray) (k : Nat) (hk : k ≤ s.size) (hs : s.size ≤ 100000000000000) (w : World) :
    Calls Tryz.prog 72 #[.string s, .int .i64 (k : Int), .bool false] w fun e w' => e = .returned (.int .i64 ((k + runLen isLet (s.data.toList.drop k) : Nat) : Int)) ∧ w' = w := by
  obtain ⟨J, hJ⟩ : ∃ J, J = k + runLen isLet (s.data.toList.drop k) := ⟨_, rfl⟩
  rw [← hJ]
  have HJ := hide hJ
  clear hJ
  go_enter Tryz.func72, Tryz.ntmps72
  go_wp2
  go_loop [1] (fun a => ∃ m : Nat, m ≤ s.size ∧ a = .int .i64 (m : Int) ∧ Hid (m + runLen isLet (s.data.toList.drop m) = J)) (fun a => s.size - (RowKit.intOf a).toNat)
  case atStart => exact ⟨k, hk, rfl, HJ.out.symm⟩
  case round =>
    obtain ⟨m, hm, rfl, hH⟩ := hrel
    by_cases hlt : m < s.size
    · have hdl : decide ((m : Int) < (s.size : Int)) = true := by simpa using hlt
      have hix : (m : Int) < (s.size : Int) := by omega
      have hdd := at_data s m hlt
      have hL := fun W => letter_calls s[m] W
      have hD := fun W => digit06_calls s[m] W
      cases h1 : isLet s[m]
      · have e1 : m = J := by
          have hq := hH.out
          rw [hdd, runLen_cons_no _ _ _ (h1)] at hq
          omega
        subst e1
        rw [h1] at hL
        have HL := hide hL
        have HD := hide hD
        clear hL hD hdd h1
        go_wp2_with (first | (go_at_call 71; refine (HL.out _).mono ?_; rintro e w' ⟨rfl, rfl⟩) | (go_at_call 73; refine (HD.out _).mono ?_; rintro e w' ⟨rfl, rfl⟩))
        go_ret
        exact ⟨rfl, rfl⟩
      · have hnx := hide (show (m + 1) + runLen isLet (s.data.toList.drop (m + 1)) = J by
          have hq := hH.out
          rw [hdd, runLen_cons_yes _ _ _ (h1)] at hq
          omega)
        rw [h1] at hL
        have HL := hide hL
        have HD := hide hD
        clear hL hD hdd h1
        go_wp2_with (first | (go_at_call 71; refine (HL.out _).mono ?_; rintro e w' ⟨rfl, rfl⟩) | (go_at_call 73; refine (HD.out _).mono ?_; rintro e w' ⟨rfl, rfl⟩))
        go_round
        case rel => first | exact ⟨m + 1, by omega, by go_num, hnx.out⟩ | ((repeat apply Exists.intro); exact ⟨⟨m + 1, by omega, by go_num, hnx.out⟩, rfl⟩)
        case measure => simp [RowKit.intOf]; omega
    · have hdl : decide ((m : Int) < (s.size : Int)) = false := by simp; omega
      have e1 : m = J := by
        have hq := hH.out
        rw [List.drop_of_length_le (by rw [← Lib.size_eq]; omega)] at hq
        exact hq
      subst e1
      go_wp2
      go_ret
      exact ⟨rfl, rfl⟩

set_option maxHeartbeats 2000000 in
theorem run_al (s : ByteArray) (k : Nat) (hk : k ≤ s.size) (hs : s.size ≤ 100000000000000) (w : World) :
    Calls Tryz.prog 72 #[.string s, .int .i64 (k : Int), .bool true] w fun e w' => e = .returned (.int .i64 ((k + runLen isAl (s.data.toList.drop k) : Nat) : Int)) ∧ w' = w := by
  obtain ⟨J, hJ⟩ : ∃ J, J = k + runLen isAl (s.data.toList.drop k) := ⟨_, rfl⟩
  rw [← hJ]
  have HJ := hide hJ
  clear hJ
  go_enter Tryz.func72, Tryz.ntmps72
  go_wp2
  go_loop [1] (fun a => ∃ m : Nat, m ≤ s.size ∧ a = .int .i64 (m : Int) ∧ Hid (m + runLen isAl (s.data.toList.drop m) = J)) (fun a => s.size - (RowKit.intOf a).toNat)
  case atStart => exact ⟨k, hk, rfl, HJ.out.symm⟩
  case round =>
    obtain ⟨m, hm, rfl, hH⟩ := hrel
    by_cases hlt : m < s.size
    · have hdl : decide ((m : Int) < (s.size : Int)) = true := by simpa using hlt
      have hix : (m : Int) < (s.size : Int) := by omega
      have hdd := at_data s m hlt
      have hL := fun W => letter_calls s[m] W
      have hD := fun W => digit06_calls s[m] W
      cases h1 : isLet s[m]
      · cases h2 : isDig s[m]
        · have e1 : m = J := by
            have hq := hH.out
            rw [hdd, runLen_cons_no _ _ _ (by unfold isAl; rw [h1, h2]; rfl)] at hq
            omega
          subst e1
          rw [h1] at hL
          rw [h2] at hD
          have HL := hide hL
          have HD := hide hD
          clear hL hD hdd h1 h2
          go_wp2_with (first | (go_at_call 71; refine (HL.out _).mono ?_; rintro e w' ⟨rfl, rfl⟩) | (go_at_call 73; refine (HD.out _).mono ?_; rintro e w' ⟨rfl, rfl⟩))
          go_ret
          exact ⟨rfl, rfl⟩
        · have hnx := hide (show (m + 1) + runLen isAl (s.data.toList.drop (m + 1)) = J by
            have hq := hH.out
            rw [hdd, runLen_cons_yes _ _ _ (by unfold isAl; rw [h1, h2]; rfl)] at hq
            omega)
          rw [h1] at hL
          rw [h2] at hD
          have HL := hide hL
          have HD := hide hD
          clear hL hD hdd h1 h2
          go_wp2_with (first | (go_at_call 71; refine (HL.out _).mono ?_; rintro e w' ⟨rfl, rfl⟩) | (go_at_call 73; refine (HD.out _).mono ?_; rintro e w' ⟨rfl, rfl⟩))
          go_round
          case rel => first | exact ⟨m + 1, by omega, by go_num, hnx.out⟩ | ((repeat apply Exists.intro); exact ⟨⟨m + 1, by omega, by go_num, hnx.out⟩, rfl⟩)
          case measure => simp [RowKit.intOf]; omega
      · have hnx := hide (show (m + 1) + runLen isAl (s.data.toList.drop (m + 1)) = J by
          have hq := hH.out
          rw [hdd, runLen_cons_yes _ _ _ (by unfold isAl; rw [h1]; rfl)] at hq
          omega)
        rw [h1] at hL
        have HL := hide hL
        have HD := hide hD
        clear hL hD hdd h1
        go_wp2_with (first | (go_at_call 71; refine (HL.out _).mono ?_; rintro e w' ⟨rfl, rfl⟩) | (go_at_call 73; refine (HD.out _).mono ?_; rintro e w' ⟨rfl, rfl⟩))
        go_round
        case rel => first | exact ⟨m + 1, by omega, by go_num, hnx.out⟩ | ((repeat apply Exists.intro); exact ⟨⟨m + 1, by omega, by go_num, hnx.out⟩, rfl⟩)
        case measure => simp [RowKit.intOf]; omega
    · have hdl : decide ((m : Int) < (s.size : Int)) = false := by simp; omega
      have e1 : m = J := by
        have hq := hH.out
        rw [List.drop_of_length_le (by rw [← Lib.size_eq]; omega)] at hq
        exact hq
      subst e1
      go_wp2
      go_ret
      exact ⟨rfl, rfl⟩
end Go.Proofs.YtdpieljopelkhaaGreatDoor
