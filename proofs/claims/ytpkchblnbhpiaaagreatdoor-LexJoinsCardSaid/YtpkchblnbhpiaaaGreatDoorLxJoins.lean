/- The walk of the law LexJoins (chapter 06). -/
import Derived.Test.YtpkchblnbhpiaaaGreatDoorLxJoin
namespace Go.Proofs.YtpkchblnbhpiaaaGreatDoor
open Go.RowKit Go.Lib

theorem toks_code (s : ByteArray) : ∀ (f k c i j : Nat), toks s f k = .bad c i j → c ≠ 0 := by
  intro f
  induction f with
  | zero => intro k c i j h; cases h
  | succ f ih =>
    intro k c i j h
    rw [toks] at h
    split at h
    · rename_i e he
      injection h with h1 _ _
      rw [← h1]; exact tokAt_code s _ e he
    · split at h
      · cases h
      · rename_i kind text v stop _ _
        cases hr : toks s f stop with
        | ok r => rw [hr] at h; cases h
        | bad e a b =>
          rw [hr] at h
          injection h with h1 _ _
          rw [← h1]; exact ih stop e a b hr
theorem outOf_code (s : ByteArray) (c i j : Nat) (h : outOf s = .bad c i j) : c ≠ 0 := by
  unfold outOf at h
  split at h
  · exact toks_code s _ _ c i j h
  · injection h with h1 _ _; omega
theorem any_of {o : Out} {w w' : World} {e : Ending} (h : RefTokensV o w e w') :
    Below w.heap.size w w' ∧ ∃ (A : Option Addr) (n c : Nat) (q1 q2 q3 : Nat), e = .returned (.tuple #[.slice A n c, .int .i64 (q1 : Int), .int .i64 (q2 : Int), .int .i64 (q3 : Int)]) := by
  cases o with
  | bad c i j => exact ⟨h.1, none, 0, 0, c, i, j, h.2⟩
  | ok l =>
    obtain ⟨hb, v, he, hown⟩ := h
    obtain ⟨A, c, rfl⟩ := own_slice5 hown
    exact ⟨hb, A, l.length, c, 0, 0, 0, he⟩
theorem cut_str (a : ByteArray) : (a.extract 0 (min (a.size : Int) 2000).toNat).size ≤ 2000 := by
  rw [ByteArray.size_extract]
  omega
theorem cut_all (a : ByteArray) (h : a.size ≤ 2000) : a.extract 0 (min (a.size : Int) 2000).toNat = a := by
  rw [show (min (a.size : Int) 2000).toNat = a.size by omega]
  apply ByteArray.ext
  apply Array.toList_inj.1
  rw [extract_piece a 0 a.size]
  unfold piece
  rw [List.drop_zero, Nat.sub_zero, List.take_of_length_le (by rw [← Lib.size_eq]; exact Nat.le_refl _)]
theorem RefTokens_any (s : ByteArray) (hs0 : s.size ≤ 2000) (w : World) : Calls Tryz.prog 9 #[.string s] w fun e w' =>
    Below w.heap.size w w' ∧ ∃ (A : Option Addr) (n c : Nat) (q1 q2 q3 : Nat), e = .returned (.tuple #[.slice A n c, .int .i64 (q1 : Int), .int .i64 (q2 : Int), .int .i64 (q3 : Int)]) :=
  (RefTokens_calls s (by omega) w).mono fun _ _ h => any_of h
theorem RefTokens_cut (c : ByteArray) (hc : c.size ≤ 2000) (w : World) : Calls Tryz.prog 9 #[.string (c.extract 0 (min (c.size : Int) 2000).toNat)] w (RefTokensV (outOf c) w) := by
  have h := RefTokens_calls c (by omega) w
  have e : Value.string (c.extract 0 (min (c.size : Int) 2000).toNat) = Value.string c := congrArg _ (cut_all c hc)
  rw [e]; exact h
set_option maxHeartbeats 4000000 in
theorem LexJoins_dead (a : ByteArray) (w : World) (hv : Vars w) (ha : 2000 < a.size) :
    Calls Tryz.prog 4 #[.string a] w fun e w' => e = .returned (.bool true) ∧ Below w.heap.size w w' := by
  have HV := hide hv
  have HX := hide (fun (s : ByteArray) W (hs : s.size ≤ 2000) => RefTokens_any s hs W)
  have hbz := Below.refl w.heap.size w
  have hd1 : decide ((2000 : Int) < (a.size : Int)) = true := by simp; omega
  clear hv ha
  go_enter Tryz.func4, Tryz.ntmps4
  go_wp2_with (first
    | (go_at_call 9; refine (HX.out _ _ (cut_str _)).mono ?_; rintro e w1 ⟨hbx, A1, n1, k1, p1, p2, p3, rfl⟩; replace hbz := hbz.trans (hbx.mono hbz.size); clear hbx)
    | (go_at_call 7; refine (alive_calls _ (HV.out.below hbz)).mono ?_; rintro e w3 ⟨rfl, hbx⟩; replace hbz := hbz.trans (hbx.mono hbz.size); clear hbx))
  go_ret
  exact ⟨rfl, hbz⟩
set_option maxHeartbeats 4000000 in
theorem LexJoins_bad (a : ByteArray) (w : World) (hv : Vars w) (h1 : a.size ≤ 2000) (c i j : Nat) (hoa : outOf a = .bad c i j) :
    Calls Tryz.prog 4 #[.string a] w fun e w' => e = .returned (.bool true) ∧ Below w.heap.size w w' := by
  have HV := hide hv
  have hc0 := outOf_code a c i j hoa
  have hcn : ((c : Int) != 0) = true := by simp; omega
  have hd1 : decide ((2000 : Int) < (a.size : Int)) = false := by simp; omega
  have hR := RefTokens_cut a h1 
  rw [hoa] at hR
  have HR := hide hR
  have hbz := Below.refl w.heap.size w
  clear hv hoa hc0 h1 hR
  go_enter Tryz.func4, Tryz.ntmps4
  go_wp2_with (first
    | (go_at_call 9; refine (HR.out _).mono ?_; rintro e w1 ⟨hbx, rfl⟩; replace hbz := hbz.trans (hbx.mono hbz.size); clear hbx)
    | (go_at_call 7; refine (alive_calls _ (HV.out.below hbz)).mono ?_; rintro e w3 ⟨rfl, hbx⟩; replace hbz := hbz.trans (hbx.mono hbz.size); clear hbx))
  go_ret
  exact ⟨rfl, hbz⟩

/-- The joined words: the library's joining is the plain one. -/
theorem wordB_list (t : Token) (hv : t.kind = 3 → validL t.text = true) : (wordB t).data.toList = wordOf t.kind t.text := by
  unfold wordB wordOf
  by_cases h : t.kind = 3
  · rw [if_pos h, if_pos h]
    have hs : validS ⟨t.text.toArray⟩ = true := by unfold validS; exact hv h
    rw [quoteS_yes _ hs]
  · rw [if_neg h, if_neg h]
theorem join_words : ∀ (L : List Token), (∀ t ∈ L, t.kind = 3 → validL t.text = true) → Lib.join ((wordsB L).map (·.data.toList)) [32] = joinT (L.map un) := by
  intro L
  induction L with
  | nil => intro _; rfl
  | cons t L ih =>
    intro h
    have h1 := wordB_list t (h t (List.mem_cons_self ..))
    have h2 := ih (fun u hu => h u (List.mem_cons_of_mem _ hu))
    cases L with
    | nil =>
      show Lib.join [(wordB t).data.toList] [32] = wordOf t.kind t.text
      rw [Lib.join_one, h1]
    | cons u R =>
      show Lib.join ((wordB t).data.toList :: (wordB u).data.toList :: (wordsB R).map (·.data.toList)) [32] = wordOf t.kind t.text ++ 32 :: joinT (un u :: R.map un)
      have h3 : joinT (un u :: R.map un) = Lib.join ((wordB u).data.toList :: (wordsB R).map (·.data.toList)) [32] := h2.symm
      rw [h3, ← h1]
      simp [Lib.join, List.intercalate, List.intersperse]
end Go.Proofs.YtpkchblnbhpiaaaGreatDoor
