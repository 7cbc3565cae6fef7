/- The walks of the cursor's while at its predicates (chapter 06). The walk of the cursor's spacing (chapter 06). -/
import Derived.Test.YtcnihmlmaigkdaaGreatDoorLxCur
import Derived.Test.YtcnihmlmaigkdaaGreatDoorShelf
namespace Go.Proofs.YtcnihmlmaigkdaaGreatDoor
open Go.RowKit Go.Lib

/-- The bytes from an offset to another. -/
def piece (s : ByteArray) (k m : Nat) : List UInt8 := (s.data.toList.drop k).take (m - k)
theorem piece_self (s : ByteArray) (k : Nat) : piece s k k = [] := by unfold piece; rw [Nat.sub_self, List.take_zero]
theorem piece_succ (s : ByteArray) (k m : Nat) (hk : k ≤ m) (hm : m < s.size) : piece s k (m + 1) = piece s k m ++ [s[m]] := by
  unfold piece
  have hl : m - k < (s.data.toList.drop k).length := by
    have := Lib.size_eq s
    rw [List.length_drop]; omega
  rw [show m + 1 - k = (m - k) + 1 by omega, List.take_succ_eq_append_getElem hl]
  congr 2
  rw [List.getElem_drop]
  have e : k + (m - k) = m := by omega
  simp only [e]
  simp; rfl
theorem extract_piece (s : ByteArray) (k m : Nat) : (s.extract k m).data.toList = piece s k m := by
  unfold piece
  simp [List.take_drop]
theorem sp_index : ∀ c : UInt8, decide (0 ≤ Lib.indexByte [32, 9, 13, 10] ((c.toNat : Nat) : Int).toNat.toUInt8) = isSp c := by
  have h : ∀ k : Fin 256, decide (0 ≤ Lib.indexByte [32, 9, 13, 10] (((UInt8.ofNat k.val).toNat : Nat) : Int).toNat.toUInt8) = isSp (UInt8.ofNat k.val) := by decide +kernel
  intro c
  have h2 := h ⟨c.toNat, UInt8.toNat_lt c⟩
  rwa [show UInt8.ofNat (⟨c.toNat, UInt8.toNat_lt c⟩ : Fin 256).val = c from UInt8.ofNat_toNat] at h2
theorem space_calls (c : UInt8) (w : World) : Calls Tryz.prog 242 #[.int .u8 (c.toNat : Int)] w fun e w' => e = .returned (.bool (isSp c)) ∧ w' = w := by
  have h := fun W => Tryz.strings_IndexByte ⟨#[32, 9, 13, 10]⟩ ((c.toNat : Nat) : Int) W
  have hs := sp_index c
  have e : (⟨#[32, 9, 13, 10]⟩ : ByteArray).data.toList = [32, 9, 13, 10] := rfl
  rw [e] at h
  obtain ⟨r, hr⟩ : ∃ r, r = Lib.indexByte [32, 9, 13, 10] ((c.toNat : Nat) : Int).toNat.toUInt8 := ⟨_, rfl⟩
  rw [← hr] at h hs
  have H := hide h
  have HS := hide hs
  clear h e hr hs
  by_cases h0 : 0 ≤ r
  all_goals
    go_enter Tryz.func242, Tryz.ntmps242
    go_wp2_with (go_at_call 243; refine (H.out _).mono ?_; rintro e w' ⟨rfl, rfl⟩)
    go_ret
    exact ⟨by rw [← HS.out]; simp [h0], rfl⟩
def atOf (w : World) (X : Nat) : Nat := match w.cell? ⟨X, 3, none⟩ with | some (.int _ n) => n.toNat | _ => 0
theorem Cur.atOf {w : World} {X : Nat} {p : Nat × Nat} {s : ByteArray} {k : Nat} (h : Cur w X p s k) : atOf w X = k := by
  unfold Go.Proofs.YtcnihmlmaigkdaaGreatDoor.atOf
  rw [h.cells.2.2.2]; simp
theorem place_next (s : ByteArray) (p : Nat × Nat) (k m : Nat) (hk : k ≤ m) (hm : m < s.size) : pass (placeFrom p (piece s k m)) s[m] = placeFrom p (piece s k (m + 1)) := by
  rw [piece_succ s k m hk hm, placeFrom_append]; rfl
/-- Behind while: the cursor stands at J. -/
def WhileV (X : Nat) (p : Nat × Nat) (s : ByteArray) (k J : Nat) (w : World) (e : Ending) (w' : World) : Prop :=
  e = .returned (.string (s.extract k J)) ∧ Cur w' X (placeFrom p (piece s k J)) s J ∧ Only X w w'

set_option maxHeartbeats 1000000 in
theorem while_let (X : Nat) (w : World) (p : Nat × Nat) (s : ByteArray) (k : Nat) (h : Cur w X p s k) :
    Calls Tryz.prog 241 #[.pointer (some ⟨X, 0, none⟩), .func (.func 246) #[] #[]] w (WhileV X p s k (k + runLen isLet (s.data.toList.drop k)) w) := by
  obtain ⟨c0, c1, c2, c3⟩ := h.cells
  obtain ⟨J, hJ⟩ : ∃ J, J = k + runLen isLet (s.data.toList.drop k) := ⟨_, rfl⟩
  rw [← hJ]
  have HJ := hide hJ
  have H := hide h
  have hsz := h.2.2.2.2
  have hks := h.2.2.2.1
  clear h hJ
  go_enter Tryz.func241, Tryz.ntmps241
  go_wp2
  go_loopw [10] (fun _ wr => ∃ m : Nat, k ≤ m ∧ Hid (Cur wr X (placeFrom p (piece s k m)) s m ∧ m + runLen isLet (s.data.toList.drop m) = J ∧ Only X w wr)) (fun _ wr => s.size - atOf wr X)
  case atStart => exact ⟨k, Nat.le_refl _, by rw [piece_self]; exact H.out, HJ.out.symm, Only.refl _ _⟩
  case round =>
    obtain ⟨m, hkm, hH⟩ := hrel
    obtain ⟨d0, d1, d2, d3⟩ := hH.out.1.cells
    have hms := hH.out.1.2.2.2.1
    have hm63 : m ≤ 100000000000000 := by omega
    by_cases hlt : m < s.size
    · have hdrop := hide (at_data s m hlt)
      have hi : (m : Int) < (s.size : Int) := by omega
      have hd : decide ((m : Int) < (s.size : Int)) = true := decide_eq_true hi
      have hP := fun W => isLetter_calls s[m] W
      cases hp : isLet s[m]
      · rw [hp] at hP
        have HP := hide hP
        have e1 : Hid (m = J) := by
          have := hH.out.2.1
          rw [hdrop.out, runLen_cons_no _ _ _ hp] at this
          exact this
        clear hP hp hdrop
        have e2 := e1.out
        subst e2
        have hki : (k : Int) ≤ (m : Int) := by omega
        have hmi : (m : Int) ≤ (s.size : Int) := by omega
        clear e1
        go_wp2
        go_quiet ((go_at_call 246; exact Calls.quiet_of_same (HP.out _)))
        go_wp2
        go_quiet (fail)
        go_wp2
        go_ret
        exact ⟨rfl, (hH.out.1.drewN _).drewN _, (hH.out.2.2.drewN _).drewN _⟩
      · rw [hp] at hP
        have HP := hide hP
        have e1 : m + 1 + runLen isLet (s.data.toList.drop (m + 1)) = J := by
          have := hH.out.2.1
          rw [hdrop.out, runLen_cons_yes _ _ _ hp] at this
          omega
        have hpl := place_next s p k m hkm hlt
        have hst := fun W (hC : Cur W X (placeFrom p (piece s k m)) s m) => step_calls X W (placeFrom p (piece s k m)) s m hlt hC
        rw [hpl] at hst
        have HST := hide hst
        have E1 := hide e1
        clear hP hp hdrop hst e1 hpl
        go_wp2
        go_quiet ((go_at_call 246; exact Calls.quiet_of_same (HP.out _)))
        go_wp2_with (go_at_call 276; refine (HST.out _ (hH.out.1.drewN _)).mono ?_; rintro e w2 ⟨rfl, hC2, hO2⟩; have HC2 := hide hC2; have HO2 := hide hO2; clear hC2 hO2)
        go_roundw
        case rel => first | exact ⟨m + 1, by omega, HC2.out, E1.out, (hH.out.2.2.drewN _).trans HO2.out⟩ | ((repeat apply Exists.intro); exact ⟨⟨m + 1, by omega, HC2.out, E1.out, (hH.out.2.2.drewN _).trans HO2.out⟩, rfl⟩)
        case measure => rw [HC2.out.atOf, hH.out.1.atOf]; omega
    · have e1 : m = J := by
        have := hH.out.2.1
        rw [List.drop_of_length_le (by have := Lib.size_eq s; omega)] at this
        exact this
      subst e1
      have hd : decide ((m : Int) < (s.size : Int)) = false := decide_eq_false (by omega)
      have hki : (k : Int) ≤ (m : Int) := by omega
      have hmi : (m : Int) ≤ (s.size : Int) := by omega
      go_wp2
      go_quiet (fail)
      go_wp2
      go_quiet (fail)
      go_wp2
      go_ret
      exact ⟨rfl, (hH.out.1.drewN _).drewN _, (hH.out.2.2.drewN _).drewN _⟩

set_option maxHeartbeats 1000000 in
theorem while_al (X : Nat) (w : World) (p : Nat × Nat) (s : ByteArray) (k : Nat) (h : Cur w X p s k) :
    Calls Tryz.prog 241 #[.pointer (some ⟨X, 0, none⟩), .func (.func 277) #[] #[]] w (WhileV X p s k (k + runLen isAl (s.data.toList.drop k)) w) := by
  obtain ⟨c0, c1, c2, c3⟩ := h.cells
  obtain ⟨J, hJ⟩ : ∃ J, J = k + runLen isAl (s.data.toList.drop k) := ⟨_, rfl⟩
  rw [← hJ]
  have HJ := hide hJ
  have H := hide h
  have hsz := h.2.2.2.2
  have hks := h.2.2.2.1
  clear h hJ
  go_enter Tryz.func241, Tryz.ntmps241
  go_wp2
  go_loopw [10] (fun _ wr => ∃ m : Nat, k ≤ m ∧ Hid (Cur wr X (placeFrom p (piece s k m)) s m ∧ m + runLen isAl (s.data.toList.drop m) = J ∧ Only X w wr)) (fun _ wr => s.size - atOf wr X)
  case atStart => exact ⟨k, Nat.le_refl _, by rw [piece_self]; exact H.out, HJ.out.symm, Only.refl _ _⟩
  case round =>
    obtain ⟨m, hkm, hH⟩ := hrel
    obtain ⟨d0, d1, d2, d3⟩ := hH.out.1.cells
    have hms := hH.out.1.2.2.2.1
    have hm63 : m ≤ 100000000000000 := by omega
    by_cases hlt : m < s.size
    · have hdrop := hide (at_data s m hlt)
      have hi : (m : Int) < (s.size : Int) := by omega
      have hd : decide ((m : Int) < (s.size : Int)) = true := decide_eq_true hi
      have hP := fun W => alnum_calls s[m] W
      cases hp : isAl s[m]
      · rw [hp] at hP
        have HP := hide hP
        have e1 : Hid (m = J) := by
          have := hH.out.2.1
          rw [hdrop.out, runLen_cons_no _ _ _ hp] at this
          exact this
        clear hP hp hdrop
        have e2 := e1.out
        subst e2
        have hki : (k : Int) ≤ (m : Int) := by omega
        have hmi : (m : Int) ≤ (s.size : Int) := by omega
        clear e1
        go_wp2
        go_quiet ((go_at_call 277; exact Calls.quiet_of_same (HP.out _)))
        go_wp2
        go_quiet (fail)
        go_wp2
        go_ret
        exact ⟨rfl, (hH.out.1.drewN _).drewN _, (hH.out.2.2.drewN _).drewN _⟩
      · rw [hp] at hP
        have HP := hide hP
        have e1 : m + 1 + runLen isAl (s.data.toList.drop (m + 1)) = J := by
          have := hH.out.2.1
          rw [hdrop.out, runLen_cons_yes _ _ _ hp] at this
          omega
        have hpl := place_next s p k m hkm hlt
        have hst := fun W (hC : Cur W X (placeFrom p (piece s k m)) s m) => step_calls X W (placeFrom p (piece s k m)) s m hlt hC
        rw [hpl] at hst
        have HST := hide hst
        have E1 := hide e1
        clear hP hp hdrop hst e1 hpl
        go_wp2
        go_quiet ((go_at_call 277; exact Calls.quiet_of_same (HP.out _)))
        go_wp2_with (go_at_call 276; refine (HST.out _ (hH.out.1.drewN _)).mono ?_; rintro e w2 ⟨rfl, hC2, hO2⟩; have HC2 := hide hC2; have HO2 := hide hO2; clear hC2 hO2)
        go_roundw
        case rel => first | exact ⟨m + 1, by omega, HC2.out, E1.out, (hH.out.2.2.drewN _).trans HO2.out⟩ | ((repeat apply Exists.intro); exact ⟨⟨m + 1, by omega, HC2.out, E1.out, (hH.out.2.2.drewN _).trans HO2.out⟩, rfl⟩)
        case measure => rw [HC2.out.atOf, hH.out.1.atOf]; omega
    · have e1 : m = J := by
        have := hH.out.2.1
        rw [List.drop_of_length_le (by have := Lib.size_eq s; omega)] at this
        exact this
      subst e1
      have hd : decide ((m : Int) < (s.size : Int)) = false := decide_eq_false (by omega)
      have hki : (k : Int) ≤ (m : Int) := by omega
      have hmi : (m : Int) ≤ (s.size : Int) := by omega
      go_wp2
      go_quiet (fail)
      go_wp2
      go_quiet (fail)
      go_wp2
      go_ret
      exact ⟨rfl, (hH.out.1.drewN _).drewN _, (hH.out.2.2.drewN _).drewN _⟩

set_option maxHeartbeats 1000000 in
theorem while_feed (X : Nat) (w : World) (p : Nat × Nat) (s : ByteArray) (k : Nat) (h : Cur w X p s k) :
    Calls Tryz.prog 241 #[.pointer (some ⟨X, 0, none⟩), .func (.func 244) #[] #[]] w (WhileV X p s k (k + runLen notFeed (s.data.toList.drop k)) w) := by
  obtain ⟨c0, c1, c2, c3⟩ := h.cells
  obtain ⟨J, hJ⟩ : ∃ J, J = k + runLen notFeed (s.data.toList.drop k) := ⟨_, rfl⟩
  rw [← hJ]
  have HJ := hide hJ
  have H := hide h
  have hsz := h.2.2.2.2
  have hks := h.2.2.2.1
  clear h hJ
  go_enter Tryz.func241, Tryz.ntmps241
  go_wp2
  go_loopw [10] (fun _ wr => ∃ m : Nat, k ≤ m ∧ Hid (Cur wr X (placeFrom p (piece s k m)) s m ∧ m + runLen notFeed (s.data.toList.drop m) = J ∧ Only X w wr)) (fun _ wr => s.size - atOf wr X)
  case atStart => exact ⟨k, Nat.le_refl _, by rw [piece_self]; exact H.out, HJ.out.symm, Only.refl _ _⟩
  case round =>
    obtain ⟨m, hkm, hH⟩ := hrel
    obtain ⟨d0, d1, d2, d3⟩ := hH.out.1.cells
    have hms := hH.out.1.2.2.2.1
    have hm63 : m ≤ 100000000000000 := by omega
    by_cases hlt : m < s.size
    · have hdrop := hide (at_data s m hlt)
      have hi : (m : Int) < (s.size : Int) := by omega
      have hd : decide ((m : Int) < (s.size : Int)) = true := decide_eq_true hi
      have hP := fun W => nofeed_calls s[m] W
      cases hp : notFeed s[m]
      · rw [hp] at hP
        have HP := hide hP
        have e1 : Hid (m = J) := by
          have := hH.out.2.1
          rw [hdrop.out, runLen_cons_no _ _ _ hp] at this
          exact this
        clear hP hp hdrop
        have e2 := e1.out
        subst e2
        have hki : (k : Int) ≤ (m : Int) := by omega
        have hmi : (m : Int) ≤ (s.size : Int) := by omega
        clear e1
        go_wp2
        go_quiet ((go_at_call 244; exact Calls.quiet_of_same (HP.out _)))
        go_wp2
        go_quiet (fail)
        go_wp2
        go_ret
        exact ⟨rfl, (hH.out.1.drewN _).drewN _, (hH.out.2.2.drewN _).drewN _⟩
      · rw [hp] at hP
        have HP := hide hP
        have e1 : m + 1 + runLen notFeed (s.data.toList.drop (m + 1)) = J := by
          have := hH.out.2.1
          rw [hdrop.out, runLen_cons_yes _ _ _ hp] at this
          omega
        have hpl := place_next s p k m hkm hlt
        have hst := fun W (hC : Cur W X (placeFrom p (piece s k m)) s m) => step_calls X W (placeFrom p (piece s k m)) s m hlt hC
        rw [hpl] at hst
        have HST := hide hst
        have E1 := hide e1
        clear hP hp hdrop hst e1 hpl
        go_wp2
        go_quiet ((go_at_call 244; exact Calls.quiet_of_same (HP.out _)))
        go_wp2_with (go_at_call 276; refine (HST.out _ (hH.out.1.drewN _)).mono ?_; rintro e w2 ⟨rfl, hC2, hO2⟩; have HC2 := hide hC2; have HO2 := hide hO2; clear hC2 hO2)
        go_roundw
        case rel => first | exact ⟨m + 1, by omega, HC2.out, E1.out, (hH.out.2.2.drewN _).trans HO2.out⟩ | ((repeat apply Exists.intro); exact ⟨⟨m + 1, by omega, HC2.out, E1.out, (hH.out.2.2.drewN _).trans HO2.out⟩, rfl⟩)
        case measure => rw [HC2.out.atOf, hH.out.1.atOf]; omega
    · have e1 : m = J := by
        have := hH.out.2.1
        rw [List.drop_of_length_le (by have := Lib.size_eq s; omega)] at this
        exact this
      subst e1
      have hd : decide ((m : Int) < (s.size : Int)) = false := decide_eq_false (by omega)
      have hki : (k : Int) ≤ (m : Int) := by omega
      have hmi : (m : Int) ≤ (s.size : Int) := by omega
      go_wp2
      go_quiet (fail)
      go_wp2
      go_quiet (fail)
      go_wp2
      go_ret
      exact ⟨rfl, (hH.out.1.drewN _).drewN _, (hH.out.2.2.drewN _).drewN _⟩

set_option maxHeartbeats 1000000 in
theorem while_sp (X : Nat) (w : World) (p : Nat × Nat) (s : ByteArray) (k : Nat) (h : Cur w X p s k) :
    Calls Tryz.prog 241 #[.pointer (some ⟨X, 0, none⟩), .func (.func 242) #[] #[]] w (WhileV X p s k (k + runLen isSp (s.data.toList.drop k)) w) := by
  obtain ⟨c0, c1, c2, c3⟩ := h.cells
  obtain ⟨J, hJ⟩ : ∃ J, J = k + runLen isSp (s.data.toList.drop k) := ⟨_, rfl⟩
  rw [← hJ]
  have HJ := hide hJ
  have H := hide h
  have hsz := h.2.2.2.2
  have hks := h.2.2.2.1
  clear h hJ
  go_enter Tryz.func241, Tryz.ntmps241
  go_wp2
  go_loopw [10] (fun _ wr => ∃ m : Nat, k ≤ m ∧ Hid (Cur wr X (placeFrom p (piece s k m)) s m ∧ m + runLen isSp (s.data.toList.drop m) = J ∧ Only X w wr)) (fun _ wr => s.size - atOf wr X)
  case atStart => exact ⟨k, Nat.le_refl _, by rw [piece_self]; exact H.out, HJ.out.symm, Only.refl _ _⟩
  case round =>
    obtain ⟨m, hkm, hH⟩ := hrel
    obtain ⟨d0, d1, d2, d3⟩ := hH.out.1.cells
    have hms := hH.out.1.2.2.2.1
    have hm63 : m ≤ 100000000000000 := by omega
    by_cases hlt : m < s.size
    · have hdrop := hide (at_data s m hlt)
      have hi : (m : Int) < (s.size : Int) := by omega
      have hd : decide ((m : Int) < (s.size : Int)) = true := decide_eq_true hi
      have hP := fun W => space_calls s[m] W
      cases hp : isSp s[m]
      · rw [hp] at hP
        have HP := hide hP
        have e1 : Hid (m = J) := by
          have := hH.out.2.1
          rw [hdrop.out, runLen_cons_no _ _ _ hp] at this
          exact this
        clear hP hp hdrop
        have e2 := e1.out
        subst e2
        have hki : (k : Int) ≤ (m : Int) := by omega
        have hmi : (m : Int) ≤ (s.size : Int) := by omega
        clear e1
        go_wp2
        go_quiet ((go_at_call 242; exact Calls.quiet_of_same (HP.out _)))
        go_wp2
        go_quiet (fail)
        go_wp2
        go_ret
        exact ⟨rfl, (hH.out.1.drewN _).drewN _, (hH.out.2.2.drewN _).drewN _⟩
      · rw [hp] at hP
        have HP := hide hP
        have e1 : m + 1 + runLen isSp (s.data.toList.drop (m + 1)) = J := by
          have := hH.out.2.1
          rw [hdrop.out, runLen_cons_yes _ _ _ hp] at this
          omega
        have hpl := place_next s p k m hkm hlt
        have hst := fun W (hC : Cur W X (placeFrom p (piece s k m)) s m) => step_calls X W (placeFrom p (piece s k m)) s m hlt hC
        rw [hpl] at hst
        have HST := hide hst
        have E1 := hide e1
        clear hP hp hdrop hst e1 hpl
        go_wp2
        go_quiet ((go_at_call 242; exact Calls.quiet_of_same (HP.out _)))
        go_wp2_with (go_at_call 276; refine (HST.out _ (hH.out.1.drewN _)).mono ?_; rintro e w2 ⟨rfl, hC2, hO2⟩; have HC2 := hide hC2; have HO2 := hide hO2; clear hC2 hO2)
        go_roundw
        case rel => first | exact ⟨m + 1, by omega, HC2.out, E1.out, (hH.out.2.2.drewN _).trans HO2.out⟩ | ((repeat apply Exists.intro); exact ⟨⟨m + 1, by omega, HC2.out, E1.out, (hH.out.2.2.drewN _).trans HO2.out⟩, rfl⟩)
        case measure => rw [HC2.out.atOf, hH.out.1.atOf]; omega
    · have e1 : m = J := by
        have := hH.out.2.1
        rw [List.drop_of_length_le (by have := Lib.size_eq s; omega)] at this
        exact this
      subst e1
      have hd : decide ((m : Int) < (s.size : Int)) = false := decide_eq_false (by omega)
      have hki : (k : Int) ≤ (m : Int) := by omega
      have hmi : (m : Int) ≤ (s.size : Int) := by omega
      go_wp2
      go_quiet (fail)
      go_wp2
      go_quiet (fail)
      go_wp2
      go_ret
      exact ⟨rfl, (hH.out.1.drewN _).drewN _, (hH.out.2.2.drewN _).drewN _⟩
end Go.Proofs.YtcnihmlmaigkdaaGreatDoor
namespace Go.Proofs.YtcnihmlmaigkdaaGreatDoor
open Go.RowKit Go.Lib

theorem piece_join (s : ByteArray) (a b c : Nat) (h1 : a ≤ b) (h2 : b ≤ c) : piece s a b ++ piece s b c = piece s a c := by
  unfold piece
  have e : c - a = (b - a) + (c - b) := by omega
  rw [e, List.take_add, List.drop_drop]
  congr 3; omega
theorem place_join (s : ByteArray) (p : Nat × Nat) (a b c : Nat) (h1 : a ≤ b) (h2 : b ≤ c) : placeFrom (placeFrom p (piece s a b)) (piece s b c) = placeFrom p (piece s a c) := by
  rw [← placeFrom_append, piece_join s a b c h1 h2]
/-- Behind spacing. -/
def SpaceV (X : Nat) (p : Nat × Nat) (s : ByteArray) (k J : Nat) (w : World) (e : Ending) (w' : World) : Prop :=
  e = .returned (.tuple #[]) ∧ Cur w' X (placeFrom p (piece s k J)) s J ∧ Only X w w'
theorem run_le (P : UInt8 → Bool) (s : ByteArray) (k : Nat) (h : k ≤ s.size) : k + runLen P (s.data.toList.drop k) ≤ s.size := by
  have h1 := runLen_le P (s.data.toList.drop k)
  have h2 := Lib.size_eq s
  rw [List.length_drop] at h1
  omega

set_option maxHeartbeats 1000000 in
theorem spacing_calls (X : Nat) (w : World) (p : Nat × Nat) (s : ByteArray) (k : Nat) (h : Cur w X p s k) :
    Calls Tryz.prog 192 #[.pointer (some ⟨X, 0, none⟩)] w (SpaceV X p s k (skipAt s k) w) := by
  obtain ⟨J, hJ⟩ : ∃ J, J = skipAt s k := ⟨_, rfl⟩
  rw [← hJ]
  have HJ := hide hJ
  have H := hide h
  have hsz := h.2.2.2.2
  have hks := h.2.2.2.1
  clear h hJ
  go_enter Tryz.func192, Tryz.ntmps192
  go_wp2
  go_loopw [2] (fun _ wr => ∃ m : Nat, k ≤ m ∧ Hid (Cur wr X (placeFrom p (piece s k m)) s m ∧ skipAt s m = J ∧ Only X w wr)) (fun _ wr => s.size - atOf wr X)
  case atStart => exact ⟨k, Nat.le_refl _, by rw [piece_self]; exact H.out, HJ.out.symm, Only.refl _ _⟩
  case round =>
    obtain ⟨m, hkm, hH⟩ := hrel
    have hms := hH.out.1.2.2.2.1
    obtain ⟨m1, hm1⟩ : ∃ m1, m1 = m + runLen isSp (s.data.toList.drop m) := ⟨_, rfl⟩
    have h1 := fun W (hC : Cur W X (placeFrom p (piece s k m)) s m) => while_sp X W (placeFrom p (piece s k m)) s m hC
    have hm1s : m1 ≤ s.size := by rw [hm1]; exact run_le isSp s m hms
    have hmm1 : m ≤ m1 := by omega
    have hsk : skipAt s m1 = J := by
      have h2 := hH.out.2.1
      unfold skipAt at h2 ⊢
      rw [spc_spaces, List.drop_drop, ← hm1] at h2
      omega
    rw [← hm1] at h1
    have H1 := hide h1
    have HSK := hide hsk
    have HM1 := hide hm1
    clear h1 hsk hm1
    by_cases hend : m1 < s.size
    · have hdrop := at_data s m1 hend
      by_cases hh : s[m1] = 35
      · have hb : ((s[m1].toNat : Int) == 35) = true := by rw [hh]; rfl
        have hb2 : ((s[m1].toNat : Int) != 35) = false := by rw [bne, hb]; rfl
        have he : ((m1 : Int) == (s.size : Int)) = false := by simp; omega
        have hi : (m1 : Int) < (s.size : Int) := by omega
        obtain ⟨m2, hm2⟩ : ∃ m2, m2 = m1 + runLen notFeed (s.data.toList.drop m1) := ⟨_, rfl⟩
        have hm2s : m2 ≤ s.size := by rw [hm2]; exact run_le notFeed s m1 hm1s
        have hm12 : m1 < m2 := by
          rw [hm2, hdrop, runLen_cons_yes _ _ _ (by rw [hh]; rfl)]; omega
        have hsk2 : skipAt s m2 = J := by
          have h2 := HSK.out
          unfold skipAt at h2 ⊢
          rw [hdrop, hh, spc_hash, ← hh, ← hdrop, spc_comment, List.drop_drop, ← hm2] at h2
          omega
        have hpj := place_join s p k m m1 hkm hmm1
        have h2 := fun W (hC : Cur W X (placeFrom p (piece s k m1)) s m1) => while_feed X W (placeFrom p (piece s k m1)) s m1 hC
        rw [← hm2] at h2
        have H2 := hide h2
        have HSK2 := hide hsk2
        have HPJ := hide hpj
        have HPJ2 := hide (place_join s p k m1 m2 (by omega) (by omega))
        clear h2 hsk2 hm2 hh hdrop hpj
        go_wp2_with (go_at_call 241; refine (H1.out _ hH.out.1).mono ?_; rintro e w2 ⟨rfl, hC2, hO2⟩; obtain ⟨d0, d1, d2, d3⟩ := hC2.cells; have HC2 := hide hC2; have HO2 := hide hO2; clear hC2 hO2)
        go_quiet (fail)
        have hC2q := hide (show Cur (w2.drewN nq) X (placeFrom p (piece s k m1)) s m1 from by have h := HC2.out.drewN nq; rwa [HPJ.out] at h)
        go_wp2_with (go_at_call 241; refine (H2.out _ hC2q.out).mono ?_; rintro e w3 ⟨rfl, hC3, hO3⟩; have HC3 := hide hC3; have HO3 := hide hO3; clear hC3 hO3)
        have hfin := hide (show Cur w3 X (placeFrom p (piece s k m2)) s m2 from by have h := HC3.out; rwa [HPJ2.out] at h)
        have hon := hide ((hH.out.2.2.trans (HO2.out.drewN nq)).trans HO3.out)
        go_roundw
        case rel => first | exact ⟨m2, by omega, hfin.out, HSK2.out, hon.out⟩ | ((repeat apply Exists.intro); exact ⟨⟨m2, by omega, hfin.out, HSK2.out, hon.out⟩, rfl⟩)
        case measure => rw [hfin.out.atOf, hH.out.1.atOf]; omega
      · have e1 : m1 = J := by
          have h2 := HSK.out
          unfold skipAt at h2
          have hns : isSp s[m1] = false := runLen_head isSp (s.data.toList.drop m) s[m1] (s.data.toList.drop (m1 + 1)) (by rw [List.drop_drop, ← HM1.out]; exact hdrop)
          rw [hdrop, spc_stop _ _ hh hns] at h2
          exact h2
        have hb : ((s[m1].toNat : Int) == 35) = false := by
          have : s[m1].toNat ≠ 35 := fun e => hh (UInt8.toNat_inj.1 (by rw [e]; rfl))
          simp; omega
        have hb2 : ((s[m1].toNat : Int) != 35) = true := by rw [bne, hb]; rfl
        have he : ((m1 : Int) == (s.size : Int)) = false := by simp; omega
        have hi : (m1 : Int) < (s.size : Int) := by omega
        subst e1
        have HPJ := hide (place_join s p k m m1 hkm hmm1)
        clear hdrop hh
        go_wp2_with (go_at_call 241; refine (H1.out _ hH.out.1).mono ?_; rintro e w2 ⟨rfl, hC2, hO2⟩; obtain ⟨d0, d1, d2, d3⟩ := hC2.cells; have HC2 := hide hC2; have HO2 := hide hO2; clear hC2 hO2)
        go_quiet (fail)
        go_wp2
        refine bodyPost_ret (results_none rfl _ _ _) rfl ⟨rfl, ?_, (hH.out.2.2.trans HO2.out).drewN _⟩
        have h := HC2.out.drewN nq
        rwa [HPJ.out] at h
    · have e1 : m1 = J := by
        have h2 := HSK.out
        unfold skipAt at h2
        rw [List.drop_of_length_le (by have := Lib.size_eq s; omega)] at h2
        exact h2
      have he : ((m1 : Int) == (s.size : Int)) = true := by simp; omega
      subst e1
      have HPJ := hide (place_join s p k m m1 hkm hmm1)
      go_wp2_with (go_at_call 241; refine (H1.out _ hH.out.1).mono ?_; rintro e w2 ⟨rfl, hC2, hO2⟩; obtain ⟨d0, d1, d2, d3⟩ := hC2.cells; have HC2 := hide hC2; have HO2 := hide hO2; clear hC2 hO2)
      go_quiet (fail)
      go_wp2
      refine bodyPost_ret (results_none rfl _ _ _) rfl ⟨rfl, ?_, (hH.out.2.2.trans HO2.out).drewN _⟩
      have h := HC2.out.drewN nq
      rwa [HPJ.out] at h
end Go.Proofs.YtcnihmlmaigkdaaGreatDoor
