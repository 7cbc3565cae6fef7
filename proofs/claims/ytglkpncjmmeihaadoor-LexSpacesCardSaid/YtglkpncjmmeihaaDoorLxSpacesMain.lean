/- The walk of the law LexSpaces: the main path (chapter 06). -/
import Derived.Test.YtglkpncjmmeihaaDoorLxSpaces
namespace Go.Proofs.YtglkpncjmmeihaaDoor
open Go.RowKit Go.Lib

theorem toks_line (s : ByteArray) : ∀ (f k : Nat) (l : List Token), k ≤ s.size → toks s f k = .ok l → ∀ t ∈ l, t.line ≤ s.size + 1 := by
  intro f
  induction f with
  | zero => intro k l hk h t ht; injection h with h; rw [← h] at ht; cases ht
  | succ f ih =>
    intro k l hk h t ht
    have hJs := skipAt_le s k hk
    have hm : ∀ kind text v, (mkTok s (skipAt s k) kind text v).line ≤ s.size + 1 := by
      intro kind text v
      show (placeAt s (skipAt s k)).1 ≤ s.size + 1
      have hpl := (placeFrom_le (s.data.toList.take (skipAt s k)) (1, 1)).1
      have hl : (s.data.toList.take (skipAt s k)).length ≤ s.size := by rw [List.length_take, ← Lib.size_eq]; omega
      unfold placeAt
      omega
    rw [toks] at h
    cases hT : tokAt s (skipAt s k) with
    | bad e => rw [hT] at h; cases h
    | tok kind text v stop =>
      rw [hT] at h
      simp only at h
      by_cases h0 : kind = 0
      · rw [if_pos h0] at h
        injection h with h
        rw [← h] at ht
        rcases List.mem_cons.1 ht with rfl | ht
        · exact hm _ _ _
        · cases ht
      · rw [if_neg h0] at h
        have hst := tokAt_stop s _ kind v stop text hT hJs
        cases hr : toks s f stop with
        | bad e i j => rw [hr] at h; cases h
        | ok r =>
          rw [hr] at h
          injection h with h
          rw [← h] at ht
          rcases List.mem_cons.1 ht with rfl | ht
          · exact hm _ _ _
          · exact ih stop r hst.1 hr t ht
theorem join_data (a b : ByteArray) : (a ++ ⟨#[10]⟩ ++ b).data.toList = a.data.toList ++ 10 :: b.data.toList := by
  simp [ByteArray.data_append]
/-- The tokens of the joined text. -/
theorem out_join (a b : ByteArray) (h1 : a.size ≤ 1000) (h2 : b.size ≤ 1000) (x y : List Token) (hx : outOf a = .ok x) (hy : outOf b = .ok y) :
    outOf (a ++ ⟨#[10]⟩ ++ b) = .ok (x.dropLast ++ y.map (shiftT (1 + a.data.toList.count 10))) ∧ x ≠ [] := by
  have hs := join_size a b _ (join_data a b)
  unfold outOf at hx hy ⊢
  rw [if_pos (by omega)] at hx hy ⊢
  exact toks_join a b _ (join_data a b) y hy (a.size + 1) 0 x (Nat.zero_le _) (by omega) hx _ (by omega)

set_option maxHeartbeats 8000000 in
theorem LexSpaces_main (a b : ByteArray) (w : World) (hv : Vars w) (h1 : a.size ≤ 1000) (h2 : b.size ≤ 1000) (x y : List Token) (hoa : outOf a = .ok x) (hob : outOf b = .ok y) :
    Calls Tryd.prog 4 #[.string a, .string b] w fun e w' => e = .returned (.bool true) ∧ Below w.heap.size w w' := by
  have HV := hide hv
  obtain ⟨hoL, hxn⟩ := out_join a b h1 h2 x y hoa hob
  have hline : ∀ t ∈ y, t.line ≤ b.size + 1 := by
    unfold outOf at hob
    rw [if_pos (by omega)] at hob
    exact toks_line b _ _ y (Nat.zero_le _) hob
  obtain ⟨n, hn⟩ : ∃ n, n = 1 + a.data.toList.count 10 := ⟨_, rfl⟩
  have hn1 : n ≤ 1001 := by
    have : a.data.toList.count 10 ≤ a.data.toList.length := List.count_le_length
    rw [← Lib.size_eq] at this
    omega
  rw [← hn] at hoL
  have hcn : (1 : Int) + ((Lib.countByte a.data.toList 10 : Nat) : Int) = (n : Int) := by unfold Lib.countByte; omega
  obtain ⟨L, hL⟩ : ∃ L, L = x.dropLast ++ y.map (shiftT n) := ⟨_, rfl⟩
  rw [← hL] at hoL
  obtain ⟨nx, hnx⟩ : ∃ k, k = x.length := ⟨_, rfl⟩
  obtain ⟨ny, hny⟩ : ∃ k, k = y.length := ⟨_, rfl⟩
  obtain ⟨nL, hnL⟩ : ∃ k, k = L.length := ⟨_, rfl⟩
  have hx1 : 0 < nx := by rw [hnx]; exact List.length_pos_iff.2 hxn
  have hLn : nL + 1 = nx + ny := by rw [hnL, hL, List.length_append, List.length_dropLast, List.length_map]; omega
  have hxb : nx ≤ 1048577 := by rw [hnx]; exact outOf_len a x hoa
  have hyb : ny ≤ 1048577 := by rw [hny]; exact outOf_len b y hob
  have hlq : ((nL : Int) != (nx : Int) + (ny : Int) - 1) = false := by
    have : (nL : Int) = (nx : Int) + (ny : Int) - 1 := by omega
    rw [this]; simp
  have hA : ∀ i (hi : i < L.length), i + 1 < nx → ∃ hx : i < x.length, L[i] = x[i] := by
    intro i hi hlt
    refine ⟨by omega, ?_⟩
    simp only [hL]
    rw [List.getElem_append_left (by rw [List.length_dropLast]; omega), List.getElem_dropLast]
  have hB : ∀ i (hi : i < L.length), nx ≤ i + 1 → ∃ hy : i + 1 - nx < y.length, L[i] = shiftT n y[i + 1 - nx] := by
    intro i hi hle
    refine ⟨by omega, ?_⟩
    simp only [hL]
    rw [List.getElem_append_right (by rw [List.length_dropLast]; omega), List.getElem_map]
    congr 2
    rw [List.length_dropLast]; omega
  have hz1 : ¬ 9223372036854775807 < a.size + 1 := by omega
  have hz2 : ¬ 9223372036854775807 < a.size + 1 + b.size := by omega
  have HR := hide (fun (c : ByteArray) W (hc : c.size ≤ 1000) => RefTokens_cut c hc W)
  have HT : Hid (∀ W, Vars W → Calls Tryd.prog 8 #[.string (a ++ ⟨#[10]⟩ ++ b)] W fun e w' => Below W.heap.size W w' ∧ ∃ v, e = .returned (.tuple #[v, .agg #[.int .i64 0, .int .i64 0, .int .i64 0]]) ∧ w'.ownsRow W.heap.size 37 5 v L.length (tokCells L)) := hide (fun W hV => by
    have h := Tokens_calls (a ++ ⟨#[10]⟩ ++ b) W hV
    rw [hoL] at h
    exact h)
  have HC := hide (fun W => Tryd.strings_Count_one a 10 W)
  have hd1 : decide ((1000 : Int) < (a.size : Int)) = false := by simp; omega
  have hd2 : decide ((1000 : Int) < (b.size : Int)) = false := by simp; omega
  have hbz := Below.refl w.heap.size w
  have HOA := hide hoa
  have HOB := hide hob
  have HA := hide hA
  have HB := hide hB
  have HLN := hide hline
  have HNX := hide hnx
  have HNY := hide hny
  have HNL := hide hnL
  have H12 := hide (And.intro h1 h2)
  have nq := fun W => fault_neq 0 0 0 W
  have nb : (!((0 : Int) == 0 && ((0 : Int) == 0 && (0 : Int) == 0))) = false := by rfl
  rw [nb] at nq
  have gd := fun x y xs ys W => fault_guard x y xs ys W
  have ng := fun p q xs ys W => rtok_guard p q xs ys W
  clear hv hoa hob hoL hA hB hline hnx hny hnL hn hL nb hxn h1 h2
  go_enter Tryd.func4, Tryd.ntmps4
  go_wp2_with (first
    | (go_at_call 9; refine (HR.out _ _ (by first | exact H12.out.1 | exact H12.out.2)).mono ?_; rintro e w1 h; first | (rw [HOA.out] at h; obtain ⟨hbx, v1, rfl, hown⟩ := h; rw [← HNX.out] at hown; obtain ⟨A1, k1, rfl⟩ := own_slice5 hown; have HOx := hide hown; clear hown; replace hbz := hbz.trans (hbx.mono hbz.size); clear hbx) | (rw [HOB.out] at h; obtain ⟨hbx, v1, rfl, hown⟩ := h; rw [← HNY.out] at hown; obtain ⟨A2, k2, rfl⟩ := own_slice5 hown; have HOy := hide hown; have HOx2 := hide (own_below HOx.out hbx); clear hown; replace hbz := hbz.trans (hbx.mono hbz.size); clear hbx))
    | (go_at_call 8; refine (HT.out _ (HV.out.below hbz)).mono ?_; rintro e w3 ⟨hbx, v3, rfl, hown⟩; rw [← HNL.out] at hown; obtain ⟨A3, k3, rfl⟩ := own_slice5 hown; have HOL := hide (hown.alloc (.cells #[.int .i64 0, .int .i64 0, .int .i64 0] 26)); have HOx3 := hide ((own_below HOx2.out hbx).alloc (.cells #[.int .i64 0, .int .i64 0, .int .i64 0] 26)); have HOy3 := hide ((own_below HOy.out hbx).alloc (.cells #[.int .i64 0, .int .i64 0, .int .i64 0] 26)); have hbw := hide ((hbz.trans (hbx.mono hbz.size)).alloc (Nat.le_trans hbz.size hbx.size) (.cells #[.int .i64 0, .int .i64 0, .int .i64 0] 26)); clear hown hbx hbz)
    | (go_at_call 11; refine (HC.out _).mono ?_; rintro e w4 ⟨rfl, rfl⟩))
  generalize (w3.alloc (Obj.cells #[Value.int IntKind.i64 0, Value.int IntKind.i64 0, Value.int IntKind.i64 0] 26)) = w4 at *
  go_loopw [85] (fun a wr => ∃ i : Nat, i ≤ nL ∧ a = .int .i64 (i : Int) ∧ Hid (Below w4.heap.size w4 wr)) (fun a _ => nL - (RowKit.intOf a).toNat)
  case atStart => exact ⟨0, Nat.zero_le _, rfl, Below.refl _ w4⟩
  case round =>
    obtain ⟨i, hi, rfl, hbl⟩ := hrel
    have hsz := hbl.out.size
    by_cases hlt : i < nL
    · have hdl : decide ((i : Int) < (nL : Int)) = true := by simpa using hlt
      have hil : (i : Int) < (nL : Int) := by omega
      have hiL : i < L.length := by have := HNL.out; omega
      have HOL2 := HOL.out
      rw [HNL.out] at HOL2
      obtain ⟨gL, hgl, hcL, hgL, cellL⟩ := tok_cell HOL2 i hiL
      subst hgl
      by_cases hix : i + 1 < nx
      · have hdx : decide ((i : Int) < (nx : Int) - 1) = true := by simp; omega
        have hixi : (i : Int) < (nx : Int) := by omega
        obtain ⟨hxl, hLx⟩ := HA.out i hiL hix
        have HOx4 := HOx3.out
        rw [HNX.out] at HOx4
        obtain ⟨gX, hgx, hcX, hgX, cellX⟩ := tok_cell HOx4 i hxl
        subst hgx
        rw [hLx] at cellL
        obtain ⟨⟨kind, text, v, li, co⟩, ht⟩ : ∃ t, t = x[i] := ⟨_, rfl⟩
        rw [← ht] at cellL cellX
        obtain ⟨s, hs⟩ : ∃ s : ByteArray, s = ⟨text.toArray⟩ := ⟨_, rfl⟩
        have htv : tokV ⟨kind, text, v, li, co⟩ = #[.int .i64 (kind : Int), .string s, .int .u64 (v : Int), .int .i64 (li : Int), .int .i64 (co : Int)] := by rw [hs]; rfl
        rw [htv] at cellL cellX
        have p0 : wr.cell? ⟨gL, i * 5, none⟩ = some (.int .i64 (kind : Int)) := (hbl.out.cell (p := ⟨gL, i * 5 + 0, none⟩) hgL).trans (cellL 0 (by omega))
        have p1 : wr.cell? ⟨gL, i * 5 + 1, none⟩ = some (.string s) := (hbl.out.cell (p := ⟨gL, i * 5 + 1, none⟩) hgL).trans (cellL 1 (by omega))
        have p2 : wr.cell? ⟨gL, i * 5 + 2, none⟩ = some (.int .u64 (v : Int)) := (hbl.out.cell (p := ⟨gL, i * 5 + 2, none⟩) hgL).trans (cellL 2 (by omega))
        have p3 : wr.cell? ⟨gL, i * 5 + 3, none⟩ = some (.int .i64 (li : Int)) := (hbl.out.cell (p := ⟨gL, i * 5 + 3, none⟩) hgL).trans (cellL 3 (by omega))
        have p4 : wr.cell? ⟨gL, i * 5 + 4, none⟩ = some (.int .i64 (co : Int)) := (hbl.out.cell (p := ⟨gL, i * 5 + 4, none⟩) hgL).trans (cellL 4 (by omega))
        have q0 : wr.cell? ⟨gX, i * 5, none⟩ = some (.int .i64 (kind : Int)) := (hbl.out.cell (p := ⟨gX, i * 5 + 0, none⟩) hgX).trans (cellX 0 (by omega))
        have q1 : wr.cell? ⟨gX, i * 5 + 1, none⟩ = some (.string s) := (hbl.out.cell (p := ⟨gX, i * 5 + 1, none⟩) hgX).trans (cellX 1 (by omega))
        have q2 : wr.cell? ⟨gX, i * 5 + 2, none⟩ = some (.int .u64 (v : Int)) := (hbl.out.cell (p := ⟨gX, i * 5 + 2, none⟩) hgX).trans (cellX 2 (by omega))
        have q3 : wr.cell? ⟨gX, i * 5 + 3, none⟩ = some (.int .i64 (li : Int)) := (hbl.out.cell (p := ⟨gX, i * 5 + 3, none⟩) hgX).trans (cellX 3 (by omega))
        have q4 : wr.cell? ⟨gX, i * 5 + 4, none⟩ = some (.int .i64 (co : Int)) := (hbl.out.cell (p := ⟨gX, i * 5 + 4, none⟩) hgX).trans (cellX 4 (by omega))
        have hgX2 : gX < wr.heap.size := by omega
        have nq2 := fun W => rtok_neq kind kind v v li li co co s s W
        have nb2 : (!((kind : Int) == kind && (s.toList == s.toList && ((v : Int) == v && ((li : Int) == li && (co : Int) == co))))) = false := by simp
        rw [nb2] at nq2
        have HL := hide (hbl.out.alloc hsz (.cells #[.int .i64 (kind : Int), .string s, .int .u64 (v : Int), .int .i64 (li : Int), .int .i64 (co : Int)] 37))
        clear cellL cellX ht hs htv nb2 hLx HOL2 HOx4
        go_wp2
        go_quiet (fail)
        go_wp2
        go_roundw
        case rel => first | exact ⟨i + 1, by omega, by go_num, below_drewN HL.out _⟩ | ((repeat apply Exists.intro); exact ⟨⟨i + 1, by omega, by go_num, below_drewN HL.out _⟩, rfl⟩)
        case measure => simp [RowKit.intOf]; omega
      · have hdx : decide ((i : Int) < (nx : Int) - 1) = false := by simp; omega
        obtain ⟨hyl, hLy⟩ := HB.out i hiL (by omega)
        obtain ⟨j, hj⟩ : ∃ j, j = i + 1 - nx := ⟨_, rfl⟩
        have hji : (i : Int) - (nx : Int) + 1 = (j : Int) := by omega
        have hjn : (j : Int) < (ny : Int) := by have := HNY.out; omega
        simp only [← hj] at hyl hLy
        have HOy4 := HOy3.out
        rw [HNY.out] at HOy4
        obtain ⟨gY, hgy, hcY, hgY, cellY⟩ := tok_cell HOy4 j hyl
        subst hgy
        rw [hLy] at cellL
        have hln := HLN.out y[j] (List.getElem_mem hyl)
        obtain ⟨⟨kind, text, v, li, co⟩, ht⟩ : ∃ t, t = y[j] := ⟨_, rfl⟩
        rw [← ht] at cellL cellY hln
        have hln2 : li ≤ 1001 := by have h9 : li ≤ b.size + 1 := hln; have := H12.out.2; omega
        obtain ⟨s, hs⟩ : ∃ s : ByteArray, s = ⟨text.toArray⟩ := ⟨_, rfl⟩
        have htv : tokV ⟨kind, text, v, li, co⟩ = #[.int .i64 (kind : Int), .string s, .int .u64 (v : Int), .int .i64 (li : Int), .int .i64 (co : Int)] := by rw [hs]; rfl
        have htw : tokV (shiftT n ⟨kind, text, v, li, co⟩) = #[.int .i64 (kind : Int), .string s, .int .u64 (v : Int), .int .i64 ((li : Int) + (n : Int)), .int .i64 (co : Int)] := by rw [hs]; rfl
        rw [htv] at cellY
        rw [htw] at cellL
        have p0 : wr.cell? ⟨gL, i * 5, none⟩ = some (.int .i64 (kind : Int)) := (hbl.out.cell (p := ⟨gL, i * 5 + 0, none⟩) hgL).trans (cellL 0 (by omega))
        have p1 : wr.cell? ⟨gL, i * 5 + 1, none⟩ = some (.string s) := (hbl.out.cell (p := ⟨gL, i * 5 + 1, none⟩) hgL).trans (cellL 1 (by omega))
        have p2 : wr.cell? ⟨gL, i * 5 + 2, none⟩ = some (.int .u64 (v : Int)) := (hbl.out.cell (p := ⟨gL, i * 5 + 2, none⟩) hgL).trans (cellL 2 (by omega))
        have p3 : wr.cell? ⟨gL, i * 5 + 3, none⟩ = some (.int .i64 ((li : Int) + (n : Int))) := (hbl.out.cell (p := ⟨gL, i * 5 + 3, none⟩) hgL).trans (cellL 3 (by omega))
        have p4 : wr.cell? ⟨gL, i * 5 + 4, none⟩ = some (.int .i64 (co : Int)) := (hbl.out.cell (p := ⟨gL, i * 5 + 4, none⟩) hgL).trans (cellL 4 (by omega))
        have q0 : wr.cell? ⟨gY, j * 5, none⟩ = some (.int .i64 (kind : Int)) := (hbl.out.cell (p := ⟨gY, j * 5 + 0, none⟩) hgY).trans (cellY 0 (by omega))
        have q1 : wr.cell? ⟨gY, j * 5 + 1, none⟩ = some (.string s) := (hbl.out.cell (p := ⟨gY, j * 5 + 1, none⟩) hgY).trans (cellY 1 (by omega))
        have q2 : wr.cell? ⟨gY, j * 5 + 2, none⟩ = some (.int .u64 (v : Int)) := (hbl.out.cell (p := ⟨gY, j * 5 + 2, none⟩) hgY).trans (cellY 2 (by omega))
        have q3 : wr.cell? ⟨gY, j * 5 + 3, none⟩ = some (.int .i64 (li : Int)) := (hbl.out.cell (p := ⟨gY, j * 5 + 3, none⟩) hgY).trans (cellY 3 (by omega))
        have q4 : wr.cell? ⟨gY, j * 5 + 4, none⟩ = some (.int .i64 (co : Int)) := (hbl.out.cell (p := ⟨gY, j * 5 + 4, none⟩) hgY).trans (cellY 4 (by omega))
        have hgY2 : gY < wr.heap.size := by omega
        have nq2 := fun W => rtok_neq kind kind v v ((li : Int) + (n : Int)) ((li : Int) + (n : Int)) co co s s W
        have nb2 : (!((kind : Int) == kind && (s.toList == s.toList && ((v : Int) == v && (((li : Int) + (n : Int)) == ((li : Int) + (n : Int)) && (co : Int) == co))))) = false := by simp
        rw [nb2] at nq2
        clear cellL cellY ht hs htv htw nb2 hLy HOL2 HOy4 hln hj
        have HL := hide ((hbl.out.alloc hsz (.cells #[.int .i64 (kind : Int), .string s, .int .u64 (v : Int), .int .i64 ((li : Int) + (n : Int)), .int .i64 (co : Int)] 37)).alloc (by simp; omega) (.cells #[.int .i64 (kind : Int), .string s, .int .u64 (v : Int), .int .i64 ((li : Int) + (n : Int)), .int .i64 (co : Int)] 38))
        go_wp2
        refine ⟨⟨i + 1, by omega, by go_num, HL.out⟩, ?_⟩
        simp [RowKit.intOf]; omega
    · have hdl : decide ((i : Int) < (nL : Int)) = false := by simp; omega
      have hbe := hbw.out.trans (hbl.out.mono hbw.out.size)
      go_wp2_with (go_at_call 7; refine (alive_calls _ (HV.out.below hbe)).mono ?_; rintro e w6 ⟨rfl, hbx⟩; have hbf := hbe.trans (hbx.mono hbe.size); clear hbx)
      go_ret
      exact ⟨rfl, hbf⟩

theorem LexSpaces_calls (a b : ByteArray) (w : World) (hv : Vars w) : Calls Tryd.prog 4 #[.string a, .string b] w fun e w' => e = .returned (.bool true) ∧ Below w.heap.size w w' := by
  by_cases h1 : a.size ≤ 1000
  · by_cases h2 : b.size ≤ 1000
    · cases hoa : outOf a with
      | bad c i j => exact LexSpaces_bad1 a b w hv h1 h2 c i j hoa
      | ok x =>
        cases hob : outOf b with
        | bad c i j => exact LexSpaces_bad2 a b w hv h1 h2 x hoa c i j hob
        | ok y => exact LexSpaces_main a b w hv h1 h2 x y hoa hob
    · exact LexSpaces_dead a b w hv false (fun h => by cases h) (fun _ => ⟨h1, by omega⟩)
  · exact LexSpaces_dead a b w hv true (fun _ => by omega) (fun h => by cases h)
end Go.Proofs.YtglkpncjmmeihaaDoor
