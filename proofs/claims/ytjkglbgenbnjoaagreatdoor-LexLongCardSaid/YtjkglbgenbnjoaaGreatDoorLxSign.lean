/- The walks of the cursor's sign and reader (chapter 06). -/
import Derived.Test.YtjkglbgenbnjoaaGreatDoorLxName
namespace Go.Proofs.YtjkglbgenbnjoaaGreatDoor
open Go.RowKit Go.Lib

theorem sign_index : ∀ c : UInt8, decide (0 ≤ Lib.indexByte [123, 125, 59, 44] c) = isSign c := by
  have h : ∀ k : Fin 256, decide (0 ≤ Lib.indexByte [123, 125, 59, 44] (UInt8.ofNat k.val)) = isSign (UInt8.ofNat k.val) := by decide +kernel
  intro c
  have h2 := h ⟨c.toNat, UInt8.toNat_lt c⟩
  rwa [show UInt8.ofNat (⟨c.toNat, UInt8.toNat_lt c⟩ : Fin 256).val = c from UInt8.ofNat_toNat] at h2
theorem contains_sign (c : UInt8) (w : World) : Calls Tryz.prog 52 #[.string ⟨#[123, 125, 59, 44]⟩, .string ⟨#[c]⟩] w fun e w' => e = .returned (.bool (isSign c)) ∧ w' = w := by
  have h := Tryz.strings_Contains_one ⟨#[123, 125, 59, 44]⟩ c w
  have e : (⟨#[123, 125, 59, 44]⟩ : ByteArray).data.toList = [123, 125, 59, 44] := rfl
  rw [e, sign_index] at h
  exact h
theorem extract_byte (s : ByteArray) (k : Nat) (hk : k < s.size) : s.extract k (k + 1) = ⟨#[s[k]]⟩ := by
  apply ByteArray.ext
  apply Array.toList_inj.1
  have h2 := extract_piece s k (k + 1)
  rw [piece_succ s k k (Nat.le_refl _) hk, piece_self] at h2
  exact h2

set_option maxHeartbeats 1000000 in
theorem sign_calls (X : Nat) (w : World) (p : Nat × Nat) (s : ByteArray) (k : Nat) (hk : k < s.size) (h : Cur w X p s k) :
    Calls Tryz.prog 45 #[.pointer (some ⟨X, 0, none⟩)] w (MethV X p s k (if isSign s[k] = true then .tok 4 [s[k]] 0 (k + 1) else .bad 3) w) := by
  have hX := h.lt
  have hsz := h.2.2.2.2
  have H0 := hide (h.only ((Below.refl _ w).alloc (Nat.le_refl _) (.cells (tokC 0 ⟨#[]⟩ 0 0 0) 56)))
  have HT := hide (Blk.new w 56 (tokC 0 ⟨#[]⟩ 0 0 0))
  obtain ⟨_, _, c2, c3⟩ := h.cells
  have hst := fun W (hC : Cur W X p s k) => step_calls X W p s k hk hC
  have hpl : pass p s[k] = placeFrom p (piece s k (k + 1)) := by
    have := place_next s p k k (Nat.le_refl _) hk
    rwa [piece_none] at this
  rw [hpl] at hst
  have hex := extract_byte s k hk
  obtain ⟨c, hc⟩ : ∃ c, c = s[k] := ⟨_, rfl⟩
  rw [← hc] at hex ⊢
  obtain ⟨q, hq⟩ : ∃ q, q = k + 1 := ⟨_, rfl⟩
  rw [← hq] at hex hst ⊢
  have hw : IntKind.i64.wrap ((k : Int) + 1) = (q : Int) := by rw [IntKind.wrap_i64]; omega
  have hkq : (k : Int) ≤ (q : Int) := by omega
  have hqs : (q : Int) ≤ (s.size : Int) := by omega
  have hcon := fun W => contains_sign c W
  have HST := hide hst
  cases hsg : isSign c
  · rw [if_neg (by decide)]
    rw [hsg] at hcon
    have HCON := hide hcon
    clear hst hpl hc hq hcon hsg h
    go_enter Tryz.func45, Tryz.ntmps45
    go_wp2_with fail
    go_quiet (fail)
    go_wp2_with (first
      | (go_at_call 52; refine (HCON.out _).mono ?_; rintro e w2 ⟨rfl, rfl⟩)
      | (refine wpList_store_row rfl 56 (.tmp 2) (.tmp 22) rfl w.heap.size (tokC 0 ⟨#[]⟩ 0 0 0) rfl rfl 56 (tokC 0 ⟨#[]⟩ 0 0 0) (HT.out.drewN nq) (tok_size _ rfl) rfl (tok_one _ _ _ _ _) ?_))
    refine bodyPost_ret (res_cell_tmp (p := 2) (u := 3) rfl _ _ w.heap.size _ rfl (load_tok (row_put (HT.out.drewN nq)) rfl)) rfl ⟨rfl, ?_⟩
    exact (((Only.refl X w).alloc _).drewN nq).setRow (Nat.le_refl _) _
  · rw [if_pos rfl]
    rw [hsg] at hcon
    have HCON := hide hcon
    have HQ := hide hq
    clear hst hpl hc hq hcon hsg h
    go_enter Tryz.func45, Tryz.ntmps45
    go_wp2_with fail
    go_quiet (fail)
    go_wp2_with (first
      | (go_at_call 52; refine (HCON.out _).mono ?_; rintro e w2 ⟨rfl, rfl⟩)
      | (go_at_call 47; refine (HST.out _ (H0.out.drewN nq)).mono ?_; rintro e w3 ⟨rfl, hC3, hO3⟩; have HC3 := hide hC3; have HT3 := hide (hO3.kept (HT.out.drewN nq) (by omega)); have HO3 := hide hO3; clear hC3 hO3)
      | (refine wpList_store_row rfl 56 (.tmp 2) (.tmp 26) rfl w.heap.size (tokC 4 ⟨#[c]⟩ 0 0 0) rfl rfl 56 (tokC 0 ⟨#[]⟩ 0 0 0) HT3.out (tok_size _ rfl) rfl (tok_one _ _ _ _ _) ?_))
    refine bodyPost_ret (res_cell_tmp (p := 2) (u := 3) rfl _ _ w.heap.size _ rfl (load_tok (row_put HT3.out) rfl)) rfl ⟨rfl, HC3.out.row (by omega), ?_⟩
    exact ((((Only.refl X w).alloc _).drewN nq).trans HO3.out).setRow (Nat.le_refl _) _

/-- The function that reader picks. -/
def pick (s : ByteArray) (k : Nat) : Nat :=
  match s.data.toList.drop k with
  | [] => 39
  | c :: _ => if isLet c = true then 41 else if isDig c = true then 43 else if c = 34 then 44 else 45
set_option maxHeartbeats 1000000 in
theorem reader_calls (X : Nat) (w : World) (p : Nat × Nat) (s : ByteArray) (k : Nat) (h : Cur w X p s k) :
    Calls Tryz.prog 28 #[.pointer (some ⟨X, 0, none⟩)] w fun e w' => e = .returned (.func (.func (pick s k)) #[.pointer (some ⟨X, 0, none⟩)] #[]) ∧ ∃ n, w' = w.drewN n := by
  obtain ⟨_, _, c2, c3⟩ := h.cells
  have hsz := h.2.2.2.2
  have hks := h.2.2.2.1
  clear h
  by_cases hk : k < s.size
  · have he : ((k : Int) == (s.size : Int)) = false := by simp; omega
    have hi : (k : Int) < (s.size : Int) := by omega
    have hdrop := at_data s k hk
    obtain ⟨c, hc⟩ : ∃ c, c = s[k] := ⟨_, rfl⟩
    have hck : ((s[k].toNat : Nat) : Int) = ((c.toNat : Nat) : Int) := by rw [hc]
    rw [← hc] at hdrop
    have hpk : pick s k = if isLet c = true then 41 else if isDig c = true then 43 else if c = 34 then 44 else 45 := by unfold pick; rw [hdrop]
    have hL := fun W => isLetter_calls c W
    have hD := fun W => isDigit_calls c W
    cases h1 : isLet c
    · rw [h1] at hL hpk
      cases h2 : isDig c
      · rw [h2] at hD hpk
        by_cases h3 : c = 34
        · rw [if_neg (by decide), if_neg (by decide), if_pos h3] at hpk
          have hb : ((c.toNat : Int) == 34) = true := by rw [h3]; rfl
          rw [hpk]
          have HL := hide hL
          have HD := hide hD
          clear hL hD hpk h1 h2 h3 hdrop hc
          go_enter Tryz.func28, Tryz.ntmps28
          go_wp2_with fail
          go_quiet (fail)
          go_wp2_with fail
          go_quiet (fail)
          go_wp2_with (first | (go_at_call 40; refine (HL.out _).mono ?_; rintro e w' ⟨rfl, rfl⟩) | (go_at_call 42; refine (HD.out _).mono ?_; rintro e w' ⟨rfl, rfl⟩))
          go_ret
          exact ⟨rfl, _, rfl⟩
        · rw [if_neg (by decide), if_neg (by decide), if_neg h3] at hpk
          have hb : ((c.toNat : Int) == 34) = false := by
            have : c.toNat ≠ 34 := fun e => h3 (UInt8.toNat_inj.1 (by rw [e]; rfl))
            simp; omega
          rw [hpk]
          have HL := hide hL
          have HD := hide hD
          clear hL hD hpk h1 h2 h3 hdrop hc
          go_enter Tryz.func28, Tryz.ntmps28
          go_wp2_with fail
          go_quiet (fail)
          go_wp2_with fail
          go_quiet (fail)
          go_wp2_with (first | (go_at_call 40; refine (HL.out _).mono ?_; rintro e w' ⟨rfl, rfl⟩) | (go_at_call 42; refine (HD.out _).mono ?_; rintro e w' ⟨rfl, rfl⟩))
          go_ret
          exact ⟨rfl, _, rfl⟩
      · rw [h2] at hD hpk
        rw [if_neg (by decide), if_pos rfl] at hpk
        rw [hpk]
        have HL := hide hL
        have HD := hide hD
        clear hL hD hpk h1 h2 hdrop hc
        go_enter Tryz.func28, Tryz.ntmps28
        go_wp2_with fail
        go_quiet (fail)
        go_wp2_with fail
        go_quiet (fail)
        go_wp2_with (first | (go_at_call 40; refine (HL.out _).mono ?_; rintro e w' ⟨rfl, rfl⟩) | (go_at_call 42; refine (HD.out _).mono ?_; rintro e w' ⟨rfl, rfl⟩))
        go_ret
        exact ⟨rfl, _, rfl⟩
    · rw [h1] at hL hpk
      rw [if_pos rfl] at hpk
      rw [hpk]
      have HL := hide hL
      have HD := hide hD
      clear hL hD hpk h1 hdrop hc
      go_enter Tryz.func28, Tryz.ntmps28
      go_wp2_with fail
      go_quiet (fail)
      go_wp2_with fail
      go_quiet (fail)
      go_wp2_with (first | (go_at_call 40; refine (HL.out _).mono ?_; rintro e w' ⟨rfl, rfl⟩) | (go_at_call 42; refine (HD.out _).mono ?_; rintro e w' ⟨rfl, rfl⟩))
      go_ret
      exact ⟨rfl, _, rfl⟩
  · have hpk : pick s k = 39 := by
      unfold pick
      rw [List.drop_of_length_le (by have := Lib.size_eq s; omega)]
    have he : ((k : Int) == (s.size : Int)) = true := by simp; omega
    rw [hpk]
    clear hpk
    go_enter Tryz.func28, Tryz.ntmps28
    go_wp2_with fail
    go_quiet (fail)
    go_wp2_with fail
    go_ret
    exact ⟨rfl, _, rfl⟩
end Go.Proofs.YtjkglbgenbnjoaaGreatDoor
