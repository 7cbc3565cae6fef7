/- The walk of the reference lexer's Tokens (chapter 06). -/
import Derived.Test.YtpkchblnbhpiaaaGreatDoorLxRefNext
import Derived.Test.YtpkchblnbhpiaaaGreatDoorLxToks
namespace Go.Proofs.YtpkchblnbhpiaaaGreatDoor
open Go.RowKit Go.Lib

/-- Behind the reference's Tokens. -/
def RefTokensV (o : Out) (w : World) (e : Ending) (w' : World) : Prop :=
  Below w.heap.size w w' ∧
  match o with
  | .ok l => ∃ v, e = .returned (.tuple #[v, .int .i64 0, .int .i64 0, .int .i64 0]) ∧ w'.ownsRow w.heap.size 33 5 v l.length (tokCells l)
  | .bad c i j => e = .returned (.tuple #[.slice none 0 0, .int .i64 (c : Int), .int .i64 (i : Int), .int .i64 (j : Int)])
theorem rtok_info3 : (Tryz.prog.info? 33).map (fun i => (i.zero, i.size, i.bytes)) = some (some (.agg zTok), 5, 48) := by kernel_rfl
theorem rtok_size (n : Nat) (h : n = 5) : (Tryz.prog.info? 33).map (·.size) = some n := by rw [h]; kernel_rfl
theorem results_4 {fn : Func} {p q r u : Tmp} (h : fn.results = #[.tmp p, .tmp q, .tmp r, .tmp u]) (tmps : Array Value) (P : Program) (w : World) :
    (results fn tmps).run P w = .ok (.tuple #[tmps.getD p undef, tmps.getD q undef, tmps.getD r undef, tmps.getD u undef]) w := by
  simp [results, h]
/-- What stands in the round. -/
def RTokRel (w : World) (s : ByteArray) (R : Out) (v : Value) (wr : World) (k f : Nat) (l : List Token) : Prop :=
  wr.ownsRow w.heap.size 33 5 v l.length (tokCells l) ∧ Below w.heap.size w wr ∧ Out.front l (toks s f k) = R ∧ s.size < f + k ∧ l.length ≤ k
theorem rtok_made {w w2 : World} (C : Array Value) (hb : Below w.heap.size w w2) :
    Below w.heap.size w ((w2.alloc (.cells #[.int .i64 0, .string ⟨#[]⟩, .int .u64 0, .int .i64 0, .int .i64 0] 33)).setRow w2.heap.size C) ∧ Blk ((w2.alloc (.cells #[.int .i64 0, .string ⟨#[]⟩, .int .u64 0, .int .i64 0, .int .i64 0] 33)).setRow w2.heap.size C) w2.heap.size 33 C := by
  have hs := hb.size
  have e1 := hb.alloc hs (.cells #[.int .i64 0, .string ⟨#[]⟩, .int .u64 0, .int .i64 0, .int .i64 0] 33)
  exact ⟨⟨e1.os, e1.tape, e1.output, Nat.le_trans e1.size (by simp [World.setRow]), fun i hi => (setRow_other _ _ i _ (by omega)).trans (e1.block i hi)⟩, row_put (Blk.new w2 _ _)⟩
theorem rown_made {w2 : World} {v : Value} {n B : Nat} {xs : List Value} (C : Array Value) (h : w2.ownsRow B 33 5 v n xs) : ((w2.alloc (.cells #[.int .i64 0, .string ⟨#[]⟩, .int .u64 0, .int .i64 0, .int .i64 0] 33)).setRow w2.heap.size C).ownsRow B 33 5 v n xs := by
  have e1 := (Below.refl w2.heap.size w2).alloc (Nat.le_refl _) (.cells #[.int .i64 0, .string ⟨#[]⟩, .int .u64 0, .int .i64 0, .int .i64 0] 33)
  exact own_below h ⟨e1.os, e1.tape, e1.output, Nat.le_trans e1.size (by simp [World.setRow]), fun i hi => (setRow_other _ _ i _ (by omega)).trans (e1.block i hi)⟩

set_option maxHeartbeats 4000000 in
theorem RefTokens_calls (s : ByteArray) (hs0 : s.size ≤ 100000000000000) (w : World) : Calls Tryz.prog 9 #[.string s] w (RefTokensV (outOf s) w) := by
  by_cases hs : s.size ≤ 1048576
  · obtain ⟨R, hR⟩ : ∃ R, R = toks s (s.size + 1) 0 := ⟨_, rfl⟩
    have hO : outOf s = R := by unfold outOf; rw [if_pos hs, hR]
    rw [hO]
    have HR := hide hR
    clear hO hR
    have HN := hide (fun W k (hk : k ≤ s.size) => RefNext_calls s k hk hs0 W)
    go_enter Tryz.func9, Tryz.ntmps9
    go_wp2
    go_loopw [6, 7] (fun v a wr => ∃ k f l, k ≤ s.size ∧ a = .int .i64 (k : Int) ∧ Hid (RTokRel w s R v wr k f l)) (fun _ a _ => s.size - (RowKit.intOf a).toNat)
    case atStart => exact ⟨0, s.size + 1, [], Nat.zero_le _, rfl, World.ownsRow_nil _ _ _ _, Below.refl _ w, HR.out.symm, by omega, Nat.le_refl _⟩
    case round =>
      obtain ⟨k, f, l, hks, rfl, hrel⟩ := hrel
      obtain ⟨f, rfl⟩ : ∃ f', f = f' + 1 := ⟨f - 1, by have := hrel.out.2.2.2.1; omega⟩
      have hN := HN.out wr k hks
      obtain ⟨J, hJ⟩ : ∃ J, J = skipAt s k := ⟨_, rfl⟩
      have hkJ : k ≤ J := by rw [hJ]; exact skipAt_ge s k
      have hJs : J ≤ s.size := by rw [hJ]; exact skipAt_le s k hks
      rw [← hJ] at hN
      have htk := hrel.out.2.2.1
      rw [toks, ← hJ] at htk
      obtain ⟨a0, c0, hvs⟩ := own_slice5 hrel.out.1
      subst hvs
      obtain ⟨PL, hPL⟩ : ∃ n, n = (placeAt s J).1 := ⟨_, rfl⟩
      obtain ⟨PC, hPC⟩ : ∃ n, n = (placeAt s J).2 := ⟨_, rfl⟩
      have hln : l.length ≤ 1048576 := by have := hrel.out.2.2.2.2; omega
      have hB := hrel.out.2.1.size
      cases hT : tokAt s J with
      | bad code =>
        have hc0 := tokAt_code s J code hT
        have hcn : ((code : Int) != 0) = true := by simp; omega
        rw [hT] at hN htk
        unfold RefNextT at hN
        simp only at hN htk
        rw [← hPL, ← hPC] at hN htk
        rw [Out.front_bad] at htk
        have HNN := hide hN
        have HTK := hide htk
        clear hN htk hT hPL hPC hc0 hJ
        go_wp2_with (first
          | (go_at_call 8; refine HNN.out.mono ?_; rintro e w2 ⟨hbx, rfl⟩; have hb2 := hrel.out.2.1.trans (hbx.mono hB); have hM := hide (rtok_made (tokC 0 ⟨#[]⟩ 0 PL PC) hb2); clear hbx hb2)
          | (refine wpList_store_row rfl 33 (.tmp 8) (.tmp 18) rfl w2.heap.size (tokC 0 ⟨#[]⟩ 0 PL PC) rfl rfl 33 #[.int .i64 0, .string ⟨#[]⟩, .int .u64 0, .int .i64 0, .int .i64 0] (Blk.new w2 _ _) (rtok_size _ rfl) rfl (tok_one _ _ _ _ _) ?_; generalize (w2.alloc (.cells #[.int .i64 0, .string ⟨#[]⟩, .int .u64 0, .int .i64 0, .int .i64 0] 33)).setRow w2.heap.size (tokC 0 ⟨#[]⟩ 0 PL PC) = w3 at *; generalize w2.heap.size = g6 at *; have f3 : w3.cell? ⟨g6, 3, none⟩ = some (.int .i64 (PL : Int)) := hM.out.2.cell 3; have f4 : w3.cell? ⟨g6, 4, none⟩ = some (.int .i64 (PC : Int)) := hM.out.2.cell 4))
        go_quiet (fail)
        go_wp2_with fail
        rw [← HTK.out]
        refine bodyPost_ret (results_4 rfl _ _ _) rfl ⟨?_, rfl⟩
        exact below_drewN hM.out.1 _
      | tok kind text v stop =>
        have hst := tokAt_stop s J kind v stop text hT hJs
        have hge := tokAt_ge s J kind v stop text hT hJs
        rw [hT] at hN htk
        unfold RefNextT at hN
        simp only at hN htk
        rw [← hPL, ← hPC] at hN
        obtain ⟨t, ht⟩ : ∃ t, t = mkTok s J kind text v := ⟨_, rfl⟩
        obtain ⟨x, hx⟩ : ∃ x : ByteArray, x = ⟨text.toArray⟩ := ⟨_, rfl⟩
        have htv : tokV t = tokC kind x v PL PC := by rw [ht, hx, hPL, hPC]; rfl
        rw [← hx] at hN
        rw [← ht] at htk
        have tsz : (tokC kind x v PL PC).size = 5 := rfl
        have hrw := hrel.out.1.lt
        have HNN := hide hN
        have HTV := hide htv
        have HT := hide ht
        have hss : stop ≤ s.size := hst.1
        by_cases hk : kind = 0
        · have hb : ((kind : Int) == 0) = true := by rw [hk]; rfl
          rw [if_pos hk, Out.front_ok] at htk
          have HTK := hide htk
          clear hN htk hT hPL hPC hJ hk hx ht htv
          go_wp2_with (first
            | (go_at_call 8; refine HNN.out.mono ?_; rintro e w2 ⟨hbx, rfl⟩; have hb2 := hrel.out.2.1.trans (hbx.mono hB); have hM := hide (rtok_made (tokC kind x v PL PC) hb2); have hW3 := hide (rown_made (tokC kind x v PL PC) (own_below hrel.out.1 hbx)); have hs2 := hbx.size; clear hbx hb2)
            | (refine wpList_store_row rfl 33 (.tmp 8) (.tmp 18) rfl w2.heap.size (tokC kind x v PL PC) rfl rfl 33 #[.int .i64 0, .string ⟨#[]⟩, .int .u64 0, .int .i64 0, .int .i64 0] (Blk.new w2 _ _) (rtok_size _ rfl) rfl (tok_one _ _ _ _ _) ?_; generalize (w2.alloc (.cells #[.int .i64 0, .string ⟨#[]⟩, .int .u64 0, .int .i64 0, .int .i64 0] 33)).setRow w2.heap.size (tokC kind x v PL PC) = w3 at *; generalize w2.heap.size = g6 at *; have hs3 := hM.out.1.size)
            | (refine wpList_load_row rfl 33 (.tmp 8) rfl g6 rfl 33 (tokC kind x v PL PC) (0, 0) _ hM.out.2 Tryz.underlying33 rfl (rtok_size _ rfl) ?_)
            | (obtain ⟨i0, hi, hz0, hz1, hz2⟩ := info_parts rtok_info3; refine wpList_buildSlice rfl 37 33 1 _ rfl (tokC kind x v PL PC) i0 _ Tryz.underlying37 hi hz0 (by rw [hz1]; decide) (by rw [hz1]; decide) (by rw [hz1]; exact tok_fill kind x v PL PC) ?_; clear hi hz0 hz1 hz2 i0)
            | (at_builtin; obtain ⟨i0, hi, hz0, hz1, hz2⟩ := info_parts rtok_info3; go_must (refine wpList_append_own_at _ rfl (.tmp 28) (.tmp 30) 37 rfl w.heap.size 33 i0 _ 5 48 Tryz.underlying37 hi hz0 hz1 hz2 rfl (by decide) (.slice a0 l.length c0) l.length (tokCells l) rfl (hW3.out.alloc _) _ 1 1 (tokC kind x v PL PC).toList rfl rfl (cells_at _ _ _) (tok_one1 kind x v PL PC) (by simp only [maxLen]; omega) (by omega) (by simp; omega) ?_); intro v' w4 hown' hg hnl hat; have hB4 := hide ((hM.out.1.alloc hs3 (.cells (tokC kind x v PL PC) 33)).grown hg (by simp; omega) (own_low5 hrel.out.1)); have HO4 := hide hown'; have q0 : w4.cell? ⟨g6, 0, none⟩ = some (.int .i64 (kind : Int)) := ((hM.out.2.alloc (.cells (tokC kind x v PL PC) 33)).grown hg (fun e => by have := hrw g6 e.symm; omega)).cell 0; clear hown' hg hnl hat hi hz0 hz1 hz2 i0))
          rw [← HTK.out]
          refine bodyPost_ret (results_4 rfl _ _ _) rfl ⟨hB4.out, v', rfl, ?_⟩
          have e1 := HO4.out
          rw [← HTV.out, ← tokCells_snoc] at e1
          rw [List.length_append]
          exact e1
        · have hb : ((kind : Int) == 0) = false := by simp; omega
          rw [if_neg hk, ← Out.front_snoc] at htk
          have hlt := hst.2 hk
          have HTK := hide htk
          clear hN htk hT hPL hPC hJ hk hx ht htv
          go_wp2_with (first
            | (go_at_call 8; refine HNN.out.mono ?_; rintro e w2 ⟨hbx, rfl⟩; have hb2 := hrel.out.2.1.trans (hbx.mono hB); have hM := hide (rtok_made (tokC kind x v PL PC) hb2); have hW3 := hide (rown_made (tokC kind x v PL PC) (own_below hrel.out.1 hbx)); have hs2 := hbx.size; clear hbx hb2)
            | (refine wpList_store_row rfl 33 (.tmp 8) (.tmp 18) rfl w2.heap.size (tokC kind x v PL PC) rfl rfl 33 #[.int .i64 0, .string ⟨#[]⟩, .int .u64 0, .int .i64 0, .int .i64 0] (Blk.new w2 _ _) (rtok_size _ rfl) rfl (tok_one _ _ _ _ _) ?_; generalize (w2.alloc (.cells #[.int .i64 0, .string ⟨#[]⟩, .int .u64 0, .int .i64 0, .int .i64 0] 33)).setRow w2.heap.size (tokC kind x v PL PC) = w3 at *; generalize w2.heap.size = g6 at *; have hs3 := hM.out.1.size)
            | (refine wpList_load_row rfl 33 (.tmp 8) rfl g6 rfl 33 (tokC kind x v PL PC) (0, 0) _ hM.out.2 Tryz.underlying33 rfl (rtok_size _ rfl) ?_)
            | (obtain ⟨i0, hi, hz0, hz1, hz2⟩ := info_parts rtok_info3; refine wpList_buildSlice rfl 37 33 1 _ rfl (tokC kind x v PL PC) i0 _ Tryz.underlying37 hi hz0 (by rw [hz1]; decide) (by rw [hz1]; decide) (by rw [hz1]; exact tok_fill kind x v PL PC) ?_; clear hi hz0 hz1 hz2 i0)
            | (at_builtin; obtain ⟨i0, hi, hz0, hz1, hz2⟩ := info_parts rtok_info3; go_must (refine wpList_append_own_at _ rfl (.tmp 28) (.tmp 30) 37 rfl w.heap.size 33 i0 _ 5 48 Tryz.underlying37 hi hz0 hz1 hz2 rfl (by decide) (.slice a0 l.length c0) l.length (tokCells l) rfl (hW3.out.alloc _) _ 1 1 (tokC kind x v PL PC).toList rfl rfl (cells_at _ _ _) (tok_one1 kind x v PL PC) (by simp only [maxLen]; omega) (by omega) (by simp; omega) ?_); intro v' w4 hown' hg hnl hat; have hB4 := hide ((hM.out.1.alloc hs3 (.cells (tokC kind x v PL PC) 33)).grown hg (by simp; omega) (own_low5 hrel.out.1)); have HO4 := hide hown'; have q0 : w4.cell? ⟨g6, 0, none⟩ = some (.int .i64 (kind : Int)) := ((hM.out.2.alloc (.cells (tokC kind x v PL PC) 33)).grown hg (fun e => by have := hrw g6 e.symm; omega)).cell 0; clear hown' hg hnl hat hi hz0 hz1 hz2 i0))
          have e1 := HO4.out
          rw [← HTV.out, ← tokCells_snoc] at e1
          have hrl := hide (show RTokRel w s R v' w4 stop f (l ++ [t]) from ⟨by rw [List.length_append]; exact e1, hB4.out, HTK.out, by have := hrel.out.2.2.2.1; omega, by have := hrel.out.2.2.2.2; simp; omega⟩)
          clear e1
          go_roundw
          case rel => first | exact ⟨stop, f, l ++ [t], hss, rfl, hrl.out⟩ | ((repeat apply Exists.intro); exact ⟨⟨stop, f, l ++ [t], hss, rfl, hrl.out⟩, rfl⟩)
          case measure => simp [RowKit.intOf]; omega
  · have hO : outOf s = .bad 2 0 0 := by unfold outOf; rw [if_neg hs]
    rw [hO]
    have hs1 : (1048576 : Int) < (s.size : Int) := by omega
    clear hO hs
    go_enter Tryz.func9, Tryz.ntmps9
    go_wp2
    refine bodyPost_ret (results_4 rfl _ _ _) rfl ⟨Below.refl _ w, rfl⟩
end Go.Proofs.YtpkchblnbhpiaaaGreatDoor
