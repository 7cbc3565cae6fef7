/- The walk of the reference's Parse (chapter 01). -/
import Derived.Test.YtdpieljopelkhaaGreatDoorMNuParse
import Derived.BigGuardPart
namespace Go.Proofs.YtdpieljopelkhaaGreatDoor
open Go.RowKit Go.Lib

theorem top_as_eq (l : List UInt8) (s : ByteArray) (h : (l == s.toList) = true) : l = s.data.toList := by
  rw [ByteArray.toList_eq] at h
  simpa using h
theorem top_as_ne (l : List UInt8) (s : ByteArray) (h : (l == s.toList) = false) : ¬ l = s.data.toList := by
  rw [ByteArray.toList_eq] at h
  simpa using h
theorem prefix2 (s : ByteArray) : (s.extract 0 2).data.toList = s.data.toList.take 2 := by
  simp

set_option maxHeartbeats 1600000 in
theorem RefParse_16 (s : ByteArray) (hs : s.size ≤ 20) (h : s.data.toList.take 2 = [48, 120]) (h2 : 2 < s.size) (w : World) :
    Calls Tryz.prog 74 #[.string s] w (FoldV (refParseN s.data.toList) w) := by
  have hN : refParseN s.data.toList = (match rscan 16 0 (s.data.toList.drop 2) with | some n => if hexL n = s.data.toList then some n else none | none => none) := by
    unfold refParseN
    have hl := Lib.size_eq s
    rw [if_neg (by omega), if_pos ⟨by omega, h⟩]
    cases rscan 16 0 (s.data.toList.drop 2) <;> rfl
  have HN := hide hN
  have hl := Lib.size_eq s
  have HL := hide hl
  have hpre : (s.extract 0 2).toList = [48, 120] := by rw [ByteArray.toList_eq, prefix2 s]; exact h
  have h2i : (2 : Int) < (s.size : Int) := by omega
  have h2d : decide ((2 : Int) < (s.size : Int)) = true := decide_eq_true h2i
  clear h
  clear hN hl
  go_enter Tryz.func74, Tryz.ntmps74
  go_wp2
  go_loopw [6, 7] (fun n i wr => ∃ (k : Nat) (a : Int), 2 ≤ k ∧ k ≤ s.size ∧ n = .int .u64 a ∧ i = .int .i64 (k : Int) ∧ Hid (∃ acc : Nat, a = (acc : Int) ∧ acc < top64 ∧ rscan 16 0 (s.data.toList.drop 2) = rscan 16 acc (s.data.toList.drop k)) ∧ Below w.heap.size w wr) (fun _ i _ => s.size - (RowKit.intOf i).toNat)
  case atStart => exact ⟨2, 0, Nat.le_refl _, by omega, rfl, rfl, ⟨0, rfl, by decide, rfl⟩, Below.refl _ _⟩
  case round =>
    obtain ⟨k, a, hk0, hk, rfl, rfl, hH, hbl⟩ := hrel
    by_cases hlt : k < s.size
    · have hkl : k < s.data.toList.length := by have := HL.out; omega
      have hdrop := hide (List.drop_eq_getElem_cons hkl)
      have hsk : s.data.toList[k] = s[k]'hlt := by simp; rfl
      obtain ⟨c, hc⟩ : ∃ c, c = s[k]'hlt := ⟨_, rfl⟩
      have hck : (((s[k]'hlt).toNat : Nat) : Int) = ((c.toNat : Nat) : Int) := by rw [hc]
      have hdr := hide (show s.data.toList.drop k = c :: s.data.toList.drop (k + 1) by rw [hdrop.out, hsk, hc])
      clear hsk hdrop hc
      by_cases hd : 16 ≤ rdig c
      · have e2 : Hid (refParseN s.data.toList = none) := by
          show _ = _
          obtain ⟨acc, _, _, hr⟩ := hH.out
          rw [HN.out, hr, hdr.out]
          simp only [rscan]
          rw [if_pos hd]
        go_wp2_with (go_at_call 105; refine (digit_calls c _).mono ?_; rintro e w' ⟨rfl, rfl⟩)
        go_ret2
        exact ⟨by rw [e2.out]; rfl, hbl⟩
      · obtain ⟨p, hp⟩ : ∃ p : Int, IntKind.u64.wrap (a * 16) = p := ⟨_, rfl⟩
        obtain ⟨q, hq⟩ : ∃ q : Int, IntKind.u64.wrap (p + (rdig c : Int)) = q := ⟨_, rfl⟩
        have hE := hide (show ∃ acc : Nat, q = (acc : Int) ∧ acc < top64 ∧ rscan 16 0 (s.data.toList.drop 2) = rscan 16 acc (s.data.toList.drop (k + 1)) from by
          obtain ⟨acc, ha, _, hr⟩ := hH.out
          refine ⟨(acc * 16 + rdig c) % top64, ?_, Nat.mod_lt _ (by decide), ?_⟩
          · rw [← hq, ← hp, ha, IntKind.wrap_u64, IntKind.wrap_u64]; unfold top64; omega
          · rw [hr, hdr.out]; simp only [rscan]; rw [if_neg hd])
        have hd2 : rdig c < 16 := by omega
        go_wp2_with (go_at_call 105; refine (digit_calls c _).mono ?_; rintro e w' ⟨rfl, rfl⟩)
        first
          | exact ⟨⟨k + 1, q, by omega, by omega, rfl, by go_num, hE.out, hbl⟩, by simp [RowKit.intOf]; omega⟩
          | (go_roundw
             case rel => exact ⟨k + 1, q, by omega, by omega, rfl, by go_num, hE.out, hbl⟩
             case measure => simp [RowKit.intOf]; omega)
    · obtain rfl : k = s.size := by omega
      have hE := hide (show ∃ acc : Nat, a = (acc : Int) ∧ acc < top64 ∧ refParseN s.data.toList = if hexL acc = s.data.toList then some acc else none from by
        obtain ⟨acc, ha, hl2, hr⟩ := hH.out
        refine ⟨acc, ha, hl2, ?_⟩
        rw [HN.out, hr, List.drop_of_length_le (by have := HL.out; omega)]
        rfl)
      obtain ⟨acc, rfl, hal, hE2⟩ := hE.out
      have HF := hide (fun W => RefHex_calls acc hal W)
      have HE := hide hE2
      clear hal hE2 hE hH
      go_wp2_with (go_at_call 106; refine (HF.out _).mono ?_; rintro e w' ⟨rfl, hb⟩)
      all_goals go_ret2
      all_goals
        rcases (Classical.em (hexL acc = s.data.toList)) with hq | hq
        all_goals
          have hq2 := hq
          rw [← ByteArray.toList_eq] at hq2
          first
            | exact absurd (by assumption) hq2
            | exact absurd hq2 (by assumption)
            | exact absurd (top_as_eq _ _ (by assumption)) hq
            | exact absurd hq (top_as_ne _ _ (by assumption))
            | exact ⟨by rw [HE.out, if_pos hq]; rfl, hbl.trans (hb.mono hbl.size)⟩
            | exact ⟨by rw [HE.out, if_neg hq]; rfl, hbl.trans (hb.mono hbl.size)⟩

set_option maxHeartbeats 1600000 in
theorem RefParse_10 (s : ByteArray) (hs : s.size ≤ 20) (h : ¬ s.data.toList.take 2 = [48, 120]) (h2 : 2 < s.size) (w : World) :
    Calls Tryz.prog 74 #[.string s] w (FoldV (refParseN s.data.toList) w) := by
  have hN : refParseN s.data.toList = (match rscan 10 0 (s.data.toList.drop 0) with | some n => if digL 10 n = s.data.toList then some n else none | none => none) := by
    unfold refParseN
    have hl := Lib.size_eq s
    rw [if_neg (by omega), if_neg (fun hh => by first | exact h hh.2 | omega), List.drop_zero]
    cases rscan 10 0 s.data.toList <;> rfl
  have HN := hide hN
  have hl := Lib.size_eq s
  have HL := hide hl
  have hpre : ((s.extract 0 2).toList == [48, 120]) = false := by rw [ByteArray.toList_eq, prefix2 s]; simpa using h
  have h2i : (2 : Int) < (s.size : Int) := by omega
  have h2d : decide ((2 : Int) < (s.size : Int)) = true := decide_eq_true h2i
  clear h
  clear hN hl
  go_enter Tryz.func74, Tryz.ntmps74
  go_wp2
  go_loopw [6, 7] (fun n i wr => ∃ (k : Nat) (a : Int), 0 ≤ k ∧ k ≤ s.size ∧ n = .int .u64 a ∧ i = .int .i64 (k : Int) ∧ Hid (∃ acc : Nat, a = (acc : Int) ∧ acc < top64 ∧ rscan 10 0 (s.data.toList.drop 0) = rscan 10 acc (s.data.toList.drop k)) ∧ Below w.heap.size w wr) (fun _ i _ => s.size - (RowKit.intOf i).toNat)
  case atStart => exact ⟨0, 0, Nat.le_refl _, by omega, rfl, rfl, ⟨0, rfl, by decide, rfl⟩, Below.refl _ _⟩
  case round =>
    obtain ⟨k, a, hk0, hk, rfl, rfl, hH, hbl⟩ := hrel
    by_cases hlt : k < s.size
    · have hkl : k < s.data.toList.length := by have := HL.out; omega
      have hdrop := hide (List.drop_eq_getElem_cons hkl)
      have hsk : s.data.toList[k] = s[k]'hlt := by simp; rfl
      obtain ⟨c, hc⟩ : ∃ c, c = s[k]'hlt := ⟨_, rfl⟩
      have hck : (((s[k]'hlt).toNat : Nat) : Int) = ((c.toNat : Nat) : Int) := by rw [hc]
      have hdr := hide (show s.data.toList.drop k = c :: s.data.toList.drop (k + 1) by rw [hdrop.out, hsk, hc])
      clear hsk hdrop hc
      by_cases hd : 10 ≤ rdig c
      · have e2 : Hid (refParseN s.data.toList = none) := by
          show _ = _
          obtain ⟨acc, _, _, hr⟩ := hH.out
          rw [HN.out, hr, hdr.out]
          simp only [rscan]
          rw [if_pos hd]
        go_wp2_with (go_at_call 105; refine (digit_calls c _).mono ?_; rintro e w' ⟨rfl, rfl⟩)
        go_ret2
        exact ⟨by rw [e2.out]; rfl, hbl⟩
      · obtain ⟨p, hp⟩ : ∃ p : Int, IntKind.u64.wrap (a * 10) = p := ⟨_, rfl⟩
        obtain ⟨q, hq⟩ : ∃ q : Int, IntKind.u64.wrap (p + (rdig c : Int)) = q := ⟨_, rfl⟩
        have hE := hide (show ∃ acc : Nat, q = (acc : Int) ∧ acc < top64 ∧ rscan 10 0 (s.data.toList.drop 0) = rscan 10 acc (s.data.toList.drop (k + 1)) from by
          obtain ⟨acc, ha, _, hr⟩ := hH.out
          refine ⟨(acc * 10 + rdig c) % top64, ?_, Nat.mod_lt _ (by decide), ?_⟩
          · rw [← hq, ← hp, ha, IntKind.wrap_u64, IntKind.wrap_u64]; unfold top64; omega
          · rw [hr, hdr.out]; simp only [rscan]; rw [if_neg hd])
        have hd2 : rdig c < 10 := by omega
        go_wp2_with (go_at_call 105; refine (digit_calls c _).mono ?_; rintro e w' ⟨rfl, rfl⟩)
        first
          | exact ⟨⟨k + 1, q, by omega, by omega, rfl, by go_num, hE.out, hbl⟩, by simp [RowKit.intOf]; omega⟩
          | (go_roundw
             case rel => exact ⟨k + 1, q, by omega, by omega, rfl, by go_num, hE.out, hbl⟩
             case measure => simp [RowKit.intOf]; omega)
    · obtain rfl : k = s.size := by omega
      have hE := hide (show ∃ acc : Nat, a = (acc : Int) ∧ acc < top64 ∧ refParseN s.data.toList = if digL 10 acc = s.data.toList then some acc else none from by
        obtain ⟨acc, ha, hl2, hr⟩ := hH.out
        refine ⟨acc, ha, hl2, ?_⟩
        rw [HN.out, hr, List.drop_of_length_le (by have := HL.out; omega)]
        rfl)
      obtain ⟨acc, rfl, hal, hE2⟩ := hE.out
      have HF := hide (fun W => RefDecimal_calls acc hal W)
      have HE := hide hE2
      clear hal hE2 hE hH
      go_wp2_with (go_at_call 107; refine (HF.out _).mono ?_; rintro e w' ⟨rfl, hb⟩)
      all_goals go_ret2
      all_goals
        rcases (Classical.em (digL 10 acc = s.data.toList)) with hq | hq
        all_goals
          have hq2 := hq
          rw [← ByteArray.toList_eq] at hq2
          first
            | exact absurd (by assumption) hq2
            | exact absurd hq2 (by assumption)
            | exact absurd (top_as_eq _ _ (by assumption)) hq
            | exact absurd hq (top_as_ne _ _ (by assumption))
            | exact ⟨by rw [HE.out, if_pos hq]; rfl, hbl.trans (hb.mono hbl.size)⟩
            | exact ⟨by rw [HE.out, if_neg hq]; rfl, hbl.trans (hb.mono hbl.size)⟩

set_option maxHeartbeats 1600000 in
theorem RefParse_10s (s : ByteArray) (hs : s.size ≤ 20) (h2 : s.size ≤ 2) (w : World) :
    Calls Tryz.prog 74 #[.string s] w (FoldV (refParseN s.data.toList) w) := by
  have hN : refParseN s.data.toList = (match rscan 10 0 (s.data.toList.drop 0) with | some n => if digL 10 n = s.data.toList then some n else none | none => none) := by
    unfold refParseN
    have hl := Lib.size_eq s
    rw [if_neg (by omega), if_neg (fun hh => by have := hh.1; omega), List.drop_zero]
    cases rscan 10 0 s.data.toList <;> rfl
  have HN := hide hN
  have hl := Lib.size_eq s
  have HL := hide hl
  have h2i : (s.size : Int) ≤ (2 : Int) := by omega
  have h2d : decide ((2 : Int) < (s.size : Int)) = false := decide_eq_false (by omega)
  clear hN hl
  go_enter Tryz.func74, Tryz.ntmps74
  go_wp2
  go_loopw [6, 7] (fun n i wr => ∃ (k : Nat) (a : Int), 0 ≤ k ∧ k ≤ s.size ∧ n = .int .u64 a ∧ i = .int .i64 (k : Int) ∧ Hid (∃ acc : Nat, a = (acc : Int) ∧ acc < top64 ∧ rscan 10 0 (s.data.toList.drop 0) = rscan 10 acc (s.data.toList.drop k)) ∧ Below w.heap.size w wr) (fun _ i _ => s.size - (RowKit.intOf i).toNat)
  case atStart => exact ⟨0, 0, Nat.le_refl _, by omega, rfl, rfl, ⟨0, rfl, by decide, rfl⟩, Below.refl _ _⟩
  case round =>
    obtain ⟨k, a, hk0, hk, rfl, rfl, hH, hbl⟩ := hrel
    by_cases hlt : k < s.size
    · have hkl : k < s.data.toList.length := by have := HL.out; omega
      have hdrop := hide (List.drop_eq_getElem_cons hkl)
      have hsk : s.data.toList[k] = s[k]'hlt := by simp; rfl
      obtain ⟨c, hc⟩ : ∃ c, c = s[k]'hlt := ⟨_, rfl⟩
      have hck : (((s[k]'hlt).toNat : Nat) : Int) = ((c.toNat : Nat) : Int) := by rw [hc]
      have hdr := hide (show s.data.toList.drop k = c :: s.data.toList.drop (k + 1) by rw [hdrop.out, hsk, hc])
      clear hsk hdrop hc
      by_cases hd : 10 ≤ rdig c
      · have e2 : Hid (refParseN s.data.toList = none) := by
          show _ = _
          obtain ⟨acc, _, _, hr⟩ := hH.out
          rw [HN.out, hr, hdr.out]
          simp only [rscan]
          rw [if_pos hd]
        go_wp2_with (go_at_call 105; refine (digit_calls c _).mono ?_; rintro e w' ⟨rfl, rfl⟩)
        go_ret2
        exact ⟨by rw [e2.out]; rfl, hbl⟩
      · obtain ⟨p, hp⟩ : ∃ p : Int, IntKind.u64.wrap (a * 10) = p := ⟨_, rfl⟩
        obtain ⟨q, hq⟩ : ∃ q : Int, IntKind.u64.wrap (p + (rdig c : Int)) = q := ⟨_, rfl⟩
        have hE := hide (show ∃ acc : Nat, q = (acc : Int) ∧ acc < top64 ∧ rscan 10 0 (s.data.toList.drop 0) = rscan 10 acc (s.data.toList.drop (k + 1)) from by
          obtain ⟨acc, ha, _, hr⟩ := hH.out
          refine ⟨(acc * 10 + rdig c) % top64, ?_, Nat.mod_lt _ (by decide), ?_⟩
          · rw [← hq, ← hp, ha, IntKind.wrap_u64, IntKind.wrap_u64]; unfold top64; omega
          · rw [hr, hdr.out]; simp only [rscan]; rw [if_neg hd])
        have hd2 : rdig c < 10 := by omega
        go_wp2_with (go_at_call 105; refine (digit_calls c _).mono ?_; rintro e w' ⟨rfl, rfl⟩)
        first
          | exact ⟨⟨k + 1, q, by omega, by omega, rfl, by go_num, hE.out, hbl⟩, by simp [RowKit.intOf]; omega⟩
          | (go_roundw
             case rel => exact ⟨k + 1, q, by omega, by omega, rfl, by go_num, hE.out, hbl⟩
             case measure => simp [RowKit.intOf]; omega)
    · obtain rfl : k = s.size := by omega
      have hE := hide (show ∃ acc : Nat, a = (acc : Int) ∧ acc < top64 ∧ refParseN s.data.toList = if digL 10 acc = s.data.toList then some acc else none from by
        obtain ⟨acc, ha, hl2, hr⟩ := hH.out
        refine ⟨acc, ha, hl2, ?_⟩
        rw [HN.out, hr, List.drop_of_length_le (by have := HL.out; omega)]
        rfl)
      obtain ⟨acc, rfl, hal, hE2⟩ := hE.out
      have HF := hide (fun W => RefDecimal_calls acc hal W)
      have HE := hide hE2
      clear hal hE2 hE hH
      go_wp2_with (go_at_call 107; refine (HF.out _).mono ?_; rintro e w' ⟨rfl, hb⟩)
      all_goals go_ret2
      all_goals
        rcases (Classical.em (digL 10 acc = s.data.toList)) with hq | hq
        all_goals
          have hq2 := hq
          rw [← ByteArray.toList_eq] at hq2
          first
            | exact absurd (by assumption) hq2
            | exact absurd hq2 (by assumption)
            | exact absurd (top_as_eq _ _ (by assumption)) hq
            | exact absurd hq (top_as_ne _ _ (by assumption))
            | exact ⟨by rw [HE.out, if_pos hq]; rfl, hbl.trans (hb.mono hbl.size)⟩
            | exact ⟨by rw [HE.out, if_neg hq]; rfl, hbl.trans (hb.mono hbl.size)⟩

theorem RefParse_calls (s : ByteArray) (w : World) :
    Calls Tryz.prog 74 #[.string s] w (FoldV (refParseN s.data.toList) w) := by
  by_cases hs : s.size ≤ 20
  · by_cases h2 : 2 < s.size
    · by_cases h : s.data.toList.take 2 = [48, 120]
      · exact RefParse_16 s hs h h2 w
      · exact RefParse_10 s hs h h2 w
    · exact RefParse_10s s hs (by omega) w
  · have hN : Hid (refParseN s.data.toList = none) := by
      show _ = _
      unfold refParseN
      have hl := Lib.size_eq s
      rw [if_pos (by omega)]
    have hi : (20 : Int) < (s.size : Int) := by omega
    go_enter Tryz.func74, Tryz.ntmps74
    go_wp2
    go_ret2
    exact ⟨by rw [hN.out]; rfl, Below.refl _ _⟩
end Go.Proofs.YtdpieljopelkhaaGreatDoor
