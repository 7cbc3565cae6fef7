/- The walk of the law LexJoins: the main path (chapter 06). -/
import Derived.Test.YtpkchblnbhpiaaaGreatDoorLxJoins
namespace Go.Proofs.YtpkchblnbhpiaaaGreatDoor
open Go.RowKit Go.Lib

theorem out_joined (a : ByteArray) (h1 : a.size ≤ 2000) (x : List Token) (hx : outOf a = .ok x) :
    (∃ y, outOf ⟨(Lib.join ((wordsB x).map (·.data.toList)) [32]).toArray⟩ = .ok y ∧ y.map un = x.map un) ∧ (Lib.join ((wordsB x).map (·.data.toList)) [32]).length ≤ 4000 := by
  have hx2 : outOf' a = .ok x := by unfold outOf at hx; rwa [if_pos (by omega)] at hx
  obtain ⟨J, hJ⟩ : ∃ J : ByteArray, J = ⟨(joinT (x.map un)).toArray⟩ := ⟨_, rfl⟩
  obtain ⟨q1, ⟨y, q2, q3⟩, q4⟩ := out_joinT a J x h1 hx2 (by rw [hJ])
  have e := join_words x q4
  rw [e, ← hJ]
  refine ⟨⟨y, ?_, q3⟩, ?_⟩
  · unfold outOf
    rw [if_pos (by omega)]; exact q2
  · rw [Lib.size_eq, hJ] at q1; exact q1
set_option maxHeartbeats 8000000 in
theorem LexJoins_main (a : ByteArray) (w : World) (hv : Vars w) (h1 : a.size ≤ 2000) (x : List Token) (hoa : outOf a = .ok x) :
    Calls Tryz.prog 4 #[.string a] w fun e w' => e = .returned (.bool true) ∧ Below w.heap.size w w' := by
  have HV := hide hv
  obtain ⟨⟨y, hoy, hun⟩, hjl⟩ := out_joined a h1 x hoa
  obtain ⟨nx, hnx⟩ : ∃ k, k = x.length := ⟨_, rfl⟩
  have hny : nx = y.length := by rw [hnx, ← List.length_map (f := un), ← hun, List.length_map]
  have hxb : nx ≤ 1048577 := by rw [hnx]; exact outOf_len a x hoa
  have hxI : (nx : Int) ≤ 1048577 := by omega
  have hlq : ((nx : Int) != (nx : Int)) = false := by simp
  have hR := RefTokens_cut a h1
  rw [hoa] at hR
  have hT : ∀ W, Vars W → Calls Tryz.prog 6 #[.string a] W fun e w' => Below W.heap.size W w' ∧ ∃ v, e = .returned (.tuple #[v, .agg #[.int .i64 0, .int .i64 0, .int .i64 0]]) ∧ w'.ownsRow W.heap.size 41 5 v x.length (tokCells x) := fun W hV => by
    have h := Tokens_calls a W hV
    rw [hoa] at h
    exact h
  have hT2 : ∀ W, Vars W → Calls Tryz.prog 6 #[.string ⟨(Lib.join ((wordsB x).map (·.data.toList)) [32]).toArray⟩] W fun e w' => Below W.heap.size W w' ∧ ∃ v, e = .returned (.tuple #[v, .agg #[.int .i64 0, .int .i64 0, .int .i64 0]]) ∧ w'.ownsRow W.heap.size 41 5 v y.length (tokCells y) := fun W hV => by
    have h := Tokens_calls ⟨(Lib.join ((wordsB x).map (·.data.toList)) [32]).toArray⟩ W hV
    rw [hoy] at h
    exact h
  have hJC := fun (A : Option Addr) (c : Nat) (W : World) (b : Nat) hA => Join_calls A nx c x hnx.symm (by omega) W b hA (by omega)
  obtain ⟨J, hJ⟩ : ∃ J : ByteArray, J = ⟨(Lib.join ((wordsB x).map (·.data.toList)) [32]).toArray⟩ := ⟨_, rfl⟩
  rw [← hJ] at hT2 hJC
  rw [← hnx] at hT hJC
  rw [← hny] at hT2
  have HR := hide hR
  have HT := hide hT
  have HT2 := hide hT2
  have HJC := hide hJC
  have hd1 : decide ((2000 : Int) < (a.size : Int)) = false := by simp; omega
  have hbz := Below.refl w.heap.size w
  have HNX := hide hnx
  have HNY := hide hny
  have HUN := hide hun
  have nq := fun W => fault_neq 0 0 0 W
  have nb : (!((0 : Int) == 0 && ((0 : Int) == 0 && (0 : Int) == 0))) = false := by rfl
  rw [nb] at nq
  have gd := fun x y xs ys W => fault_guard x y xs ys W
  clear hv hoa hoy hun hnx hny nb h1 hR hT hT2 hJC hJ hjl
  go_enter Tryz.func4, Tryz.ntmps4
  go_wp2_with (first
    | (go_at_call 9; refine (HR.out _).mono ?_; rintro e w1 ⟨hbx, v1, rfl, hown⟩; rw [← HNX.out] at hown; obtain ⟨A1, k1, rfl⟩ := own_slice5 hown; have HOx := hide hown; clear hown; replace hbz := hbz.trans (hbx.mono hbz.size); clear hbx)
    | (go_at_call 6; first
        | ((with_reducible refine (HT.out _ (HV.out.below hbz)).mono ?_); rintro e w2 ⟨hbx, v2, rfl, hown⟩; obtain ⟨A2, k2, rfl⟩ := own_slice5 hown; have HOL := hide (hown.alloc (.cells #[.int .i64 0, .int .i64 0, .int .i64 0] 27)); have HOx2 := hide ((own_below HOx.out hbx).alloc (.cells #[.int .i64 0, .int .i64 0, .int .i64 0] 27)); replace hbz := (hbz.trans (hbx.mono hbz.size)).alloc (Nat.le_trans hbz.size hbx.size) (.cells #[.int .i64 0, .int .i64 0, .int .i64 0] 27); clear hown hbx)
        | ((with_reducible refine (HT2.out _ (HV.out.below hbz)).mono ?_); rintro e w4 ⟨hbx, v4, rfl, hown⟩; obtain ⟨A4, k4, rfl⟩ := own_slice5 hown; have HOL4 := hide (hown.alloc (.cells #[.int .i64 0, .int .i64 0, .int .i64 0] 27)); have HOx4 := hide ((own_below HOx3.out hbx).alloc (.cells #[.int .i64 0, .int .i64 0, .int .i64 0] 27)); have hbw := hide ((hbz.trans (hbx.mono hbz.size)).alloc (Nat.le_trans hbz.size hbx.size) (.cells #[.int .i64 0, .int .i64 0, .int .i64 0] 27)); clear hown hbx hbz))
    | (go_at_call 10; refine (HJC.out _ _ _ _ HOL.out).mono ?_; rintro e w3 ⟨rfl, hbx⟩; have HOx3 := hide (own_below HOx2.out hbx); replace hbz := hbz.trans (hbx.mono hbz.size); clear hbx))
  generalize (w4.alloc (Obj.cells #[Value.int IntKind.i64 0, Value.int IntKind.i64 0, Value.int IntKind.i64 0] 27)) = w5 at *
  go_loopw [54] (fun a wr => ∃ i : Nat, i ≤ nx ∧ a = .int .i64 (i : Int) ∧ Hid (Below w5.heap.size w5 wr)) (fun a _ => nx - (RowKit.intOf a).toNat)
  case atStart => exact ⟨0, Nat.zero_le _, rfl, Below.refl _ w5⟩
  case round =>
    obtain ⟨i, hi, rfl, hbl⟩ := hrel
    have hsz := hbl.out.size
    by_cases hlt : i < nx
    · have hdl : decide ((i : Int) < (nx : Int)) = true := by simpa using hlt
      have hil : (i : Int) < (nx : Int) := by omega
      have hix : i < x.length := by have := HNX.out; omega
      have hiy : i < y.length := by have := HNY.out; omega
      have HOL2 := HOL4.out
      rw [HNY.out] at HOL2
      obtain ⟨gL, hgl, hcL, hgL, cellL⟩ := tok_cell HOL2 i hiy
      subst hgl
      have HOx5 := HOx4.out
      rw [HNX.out] at HOx5
      obtain ⟨gX, hgx, hcX, hgX, cellX⟩ := tok_cell HOx5 i hix
      subst hgx
      have hue : un y[i] = un x[i] := by
        have e1 : (y.map un)[i]'(by simpa using hiy) = (x.map un)[i]'(by simpa using hix) := by simp only [HUN.out]
        simpa using e1
      obtain ⟨⟨kind, text, v, li, co⟩, ht⟩ : ∃ t, t = x[i] := ⟨_, rfl⟩
      obtain ⟨⟨kind2, text2, v2, li2, co2⟩, ht2⟩ : ∃ t, t = y[i] := ⟨_, rfl⟩
      rw [← ht, ← ht2] at hue
      rw [← ht] at cellX
      rw [← ht2] at cellL
      unfold un at hue
      simp only [Prod.mk.injEq] at hue
      obtain ⟨rfl, rfl, rfl⟩ := hue
      obtain ⟨s, hs⟩ : ∃ s : ByteArray, s = ⟨text2.toArray⟩ := ⟨_, rfl⟩
      have htv : tokV ⟨kind2, text2, v2, li, co⟩ = #[.int .i64 (kind2 : Int), .string s, .int .u64 (v2 : Int), .int .i64 (li : Int), .int .i64 (co : Int)] := by rw [hs]; rfl
      have htv2 : tokV ⟨kind2, text2, v2, li2, co2⟩ = #[.int .i64 (kind2 : Int), .string s, .int .u64 (v2 : Int), .int .i64 (li2 : Int), .int .i64 (co2 : Int)] := by rw [hs]; rfl
      rw [htv] at cellX
      rw [htv2] at cellL
      have p0 : wr.cell? ⟨gL, i * 5, none⟩ = some (.int .i64 (kind2 : Int)) := (hbl.out.cell (p := ⟨gL, i * 5 + 0, none⟩) hgL).trans (cellL 0 (by omega))
      have p1 : wr.cell? ⟨gL, i * 5 + 1, none⟩ = some (.string s) := (hbl.out.cell (p := ⟨gL, i * 5 + 1, none⟩) hgL).trans (cellL 1 (by omega))
      have p2 : wr.cell? ⟨gL, i * 5 + 2, none⟩ = some (.int .u64 (v2 : Int)) := (hbl.out.cell (p := ⟨gL, i * 5 + 2, none⟩) hgL).trans (cellL 2 (by omega))
      have q0 : wr.cell? ⟨gX, i * 5, none⟩ = some (.int .i64 (kind2 : Int)) := (hbl.out.cell (p := ⟨gX, i * 5 + 0, none⟩) hgX).trans (cellX 0 (by omega))
      have q1 : wr.cell? ⟨gX, i * 5 + 1, none⟩ = some (.string s) := (hbl.out.cell (p := ⟨gX, i * 5 + 1, none⟩) hgX).trans (cellX 1 (by omega))
      have q2 : wr.cell? ⟨gX, i * 5 + 2, none⟩ = some (.int .u64 (v2 : Int)) := (hbl.out.cell (p := ⟨gX, i * 5 + 2, none⟩) hgX).trans (cellX 2 (by omega))
      clear cellL cellX ht ht2 hs htv htv2 HOL2 HOx5
      go_wp2
      go_quiet (fail)
      go_wp2
      go_roundw
      case rel => first | exact ⟨i + 1, by omega, by go_num, below_drewN hbl.out _⟩ | ((repeat apply Exists.intro); exact ⟨⟨i + 1, by omega, by go_num, below_drewN hbl.out _⟩, rfl⟩)
      case measure => simp [RowKit.intOf]; omega
    · have hdl : decide ((i : Int) < (nx : Int)) = false := by simp; omega
      have hbe := hbw.out.trans (hbl.out.mono hbw.out.size)
      go_wp2_with (go_at_call 7; refine (alive_calls _ (HV.out.below hbe)).mono ?_; rintro e w6 ⟨rfl, hbx⟩; have hbf := hbe.trans (hbx.mono hbe.size); clear hbx)
      go_ret
      exact ⟨rfl, hbf⟩

theorem LexJoins_calls (a : ByteArray) (w : World) (hv : Vars w) : Calls Tryz.prog 4 #[.string a] w fun e w' => e = .returned (.bool true) ∧ Below w.heap.size w w' := by
  by_cases h1 : a.size ≤ 2000
  · cases hoa : outOf a with
    | bad c i j => exact LexJoins_bad a w hv h1 c i j hoa
    | ok x => exact LexJoins_main a w hv h1 x hoa
  · exact LexJoins_dead a w hv (by omega)
end Go.Proofs.YtpkchblnbhpiaaaGreatDoor
