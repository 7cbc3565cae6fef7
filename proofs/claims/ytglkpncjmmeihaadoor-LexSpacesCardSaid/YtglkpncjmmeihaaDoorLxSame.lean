/- The walk of same, and of the law LexTokens (chapter 06). -/
import Derived.Test.YtglkpncjmmeihaaDoorLxAlive
import Derived.Test.YtglkpncjmmeihaaDoorLxRefToks
namespace Go.Proofs.YtglkpncjmmeihaaDoor
open Go.RowKit Go.Lib

theorem tokCells_get : ∀ (l : List Token) (i j : Nat) (hi : i < l.length), j < 5 → (tokCells l)[i * 5 + j]? = (tokV l[i])[j]? := by
  intro l
  induction l with
  | nil => intro i j hi; simp at hi
  | cons t l ih =>
    intro i j hi hj
    have e : tokCells (t :: l) = (tokV t).toList ++ tokCells l := rfl
    have hs : (tokV t).toList.length = 5 := rfl
    rw [e]
    cases i with
    | zero =>
      rw [List.getElem?_append_left (by omega), Nat.zero_mul, Nat.zero_add, Array.getElem?_toList]; rfl
    | succ i =>
      rw [List.getElem?_append_right (by omega), hs, show (i + 1) * 5 + j - 5 = i * 5 + j by omega, ih i j (by simpa using hi) hj]; rfl
theorem tok_cell {w : World} {base e n : Nat} {A : Option Addr} {c : Nat} {l : List Token} (h : w.ownsRow base e 5 (.slice A n c) l.length (tokCells l)) (i : Nat) (hi : i < l.length) :
    ∃ g, A = some ⟨g, 0, none⟩ ∧ n ≤ c ∧ g < w.heap.size ∧ ∀ j, j < 5 → w.cell? ⟨g, i * 5 + j, none⟩ = (tokV l[i])[j]? := by
  obtain ⟨g, cap, hv, _, hg, hc, _, hcell⟩ := own_form5 h (by omega)
  injection hv with h1 h2 h3
  refine ⟨g, h1, by omega, hg, fun j hj => ?_⟩
  have h5 := tokCells_get l i j hi hj
  have h6 : (tokV l[i])[j]? = some ((tokV l[i])[j]'(by show j < 5; exact hj)) := Array.getElem?_eq_getElem _
  rw [h6] at h5 ⊢
  exact hcell _ _ h5
theorem toks_len (s : ByteArray) : ∀ (f k : Nat) (l : List Token), toks s f k = .ok l → l.length ≤ f := by
  intro f
  induction f with
  | zero => intro k l h; injection h with h; rw [← h]; exact Nat.le_refl _
  | succ f ih =>
    intro k l h
    rw [toks] at h
    split at h
    · cases h
    · split at h
      · injection h with h; rw [← h]; simp
      · rename_i kind text v stop _ _
        cases hr : toks s f stop with
        | bad a b c => rw [hr] at h; cases h
        | ok r =>
          rw [hr] at h
          injection h with h
          rw [← h, List.length_cons]
          have := ih stop r hr
          omega
theorem outOf_len (s : ByteArray) (l : List Token) (h : outOf s = .ok l) : l.length ≤ 1048577 := by
  unfold outOf at h
  split at h
  · have := toks_len s _ _ l h; omega
  · cases h
theorem rtok_neq (k k2 v v2 i i2 j j2 : Int) (x x2 : ByteArray) (w : World) : (binOp .neq 38 (.agg #[.int .i64 k, .string x, .int .u64 v, .int .i64 i, .int .i64 j]) (.agg #[.int .i64 k2, .string x2, .int .u64 v2, .int .i64 i2, .int .i64 j2])).run Tryd.prog w = .ok (.bool (!(k == k2 && (x.toList == x2.toList && (v == v2 && (i == i2 && j == j2)))))) w := by
  have hf : Tryd.prog.underlying 38 = some (.struct (Tryd.prog.fieldsOf 38)) := by kernel_rfl
  have hp : Tryd.prog.stoodInHeld 38 = false := by kernel_rfl
  rw [run_neq_struct, run_equalIn_agg w 9999 _ _ _ hf hp]
  unfold Program.fieldsOf
  rw [Tryd.underlying38]
  simp [Op.eqFields, part, run_equalIn_int, run_equalIn_string]
  by_cases h1 : k = k2 <;> by_cases h2 : x.toList = x2.toList <;> by_cases h3 : v = v2 <;> by_cases h4 : i = i2 <;> by_cases h5 : j = j2 <;> simp [h1, h2, h3, h4, h5]
theorem rtok_guard (x y : Operand) (xs ys : Array Value) (w : World) : (eqGuard .neq 38 x y (.agg xs) (.agg ys)).run Tryd.prog w = .ok () w :=
  run_eqGuard_agg w _ _ _ _ _ _ (by kernel_rfl)

set_option maxHeartbeats 2000000 in
theorem same_calls (A B : Option Addr) (n cA cB : Nat) (l : List Token) (hn : l.length = n) (hl : n ≤ 2000000) (w : World) (bA bB : Nat) (hA : w.ownsRow bA 37 5 (.slice A n cA) l.length (tokCells l))
    (hB : w.ownsRow bB 38 5 (.slice B n cB) l.length (tokCells l)) :
    Calls Tryd.prog 10 #[.slice A n cA, .slice B n cB] w fun e w' => e = .returned (.bool true) ∧ Below w.heap.size w w' := by
  have HA := hide hA
  have HB := hide hB
  have HN := hide hn
  clear hA hB hn
  go_enter Tryd.func10, Tryd.ntmps10
  go_wp2
  go_loopw [14] (fun a wr => ∃ i : Nat, i ≤ n ∧ a = .int .i64 (i : Int) ∧ Hid (Below w.heap.size w wr)) (fun a _ => n - (RowKit.intOf a).toNat)
  case atStart => exact ⟨0, Nat.zero_le _, rfl, Below.refl _ w⟩
  case round =>
    obtain ⟨i, hi, rfl, hbl⟩ := hrel
    by_cases hlt : i < n
    · have hdl : decide ((i : Int) < (n : Int)) = true := by simpa using hlt
      obtain ⟨gA, rfl, hcA, hgA, cellA⟩ := tok_cell HA.out i (by have := HN.out; omega)
      obtain ⟨gB, rfl, hcB, hgB, cellB⟩ := tok_cell HB.out i (by have := HN.out; omega)
      obtain ⟨⟨kind, text, v, L, C⟩, ht⟩ : ∃ t, t = l[i]'(by have := HN.out; omega) := ⟨_, rfl⟩
      rw [← ht] at cellA cellB
      obtain ⟨x, hx⟩ : ∃ x : ByteArray, x = ⟨text.toArray⟩ := ⟨_, rfl⟩
      have htv : tokV ⟨kind, text, v, L, C⟩ = #[.int .i64 (kind : Int), .string x, .int .u64 (v : Int), .int .i64 (L : Int), .int .i64 (C : Int)] := by rw [hx]; rfl
      rw [htv] at cellA cellB
      have hsz := hbl.out.size
      have a0 : wr.cell? ⟨gA, i * 5, none⟩ = some (.int .i64 (kind : Int)) := (hbl.out.cell (p := ⟨gA, i * 5 + 0, none⟩) hgA).trans (cellA 0 (by omega))
      have a1 : wr.cell? ⟨gA, i * 5 + 1, none⟩ = some (.string x) := (hbl.out.cell (p := ⟨gA, i * 5 + 1, none⟩) hgA).trans (cellA 1 (by omega))
      have a2 : wr.cell? ⟨gA, i * 5 + 2, none⟩ = some (.int .u64 (v : Int)) := (hbl.out.cell (p := ⟨gA, i * 5 + 2, none⟩) hgA).trans (cellA 2 (by omega))
      have a3 : wr.cell? ⟨gA, i * 5 + 3, none⟩ = some (.int .i64 (L : Int)) := (hbl.out.cell (p := ⟨gA, i * 5 + 3, none⟩) hgA).trans (cellA 3 (by omega))
      have a4 : wr.cell? ⟨gA, i * 5 + 4, none⟩ = some (.int .i64 (C : Int)) := (hbl.out.cell (p := ⟨gA, i * 5 + 4, none⟩) hgA).trans (cellA 4 (by omega))
      have b0 : wr.cell? ⟨gB, i * 5, none⟩ = some (.int .i64 (kind : Int)) := (hbl.out.cell (p := ⟨gB, i * 5 + 0, none⟩) hgB).trans (cellB 0 (by omega))
      have b1 : wr.cell? ⟨gB, i * 5 + 1, none⟩ = some (.string x) := (hbl.out.cell (p := ⟨gB, i * 5 + 1, none⟩) hgB).trans (cellB 1 (by omega))
      have b2 : wr.cell? ⟨gB, i * 5 + 2, none⟩ = some (.int .u64 (v : Int)) := (hbl.out.cell (p := ⟨gB, i * 5 + 2, none⟩) hgB).trans (cellB 2 (by omega))
      have b3 : wr.cell? ⟨gB, i * 5 + 3, none⟩ = some (.int .i64 (L : Int)) := (hbl.out.cell (p := ⟨gB, i * 5 + 3, none⟩) hgB).trans (cellB 3 (by omega))
      have b4 : wr.cell? ⟨gB, i * 5 + 4, none⟩ = some (.int .i64 (C : Int)) := (hbl.out.cell (p := ⟨gB, i * 5 + 4, none⟩) hgB).trans (cellB 4 (by omega))
      have hgB2 : gB < wr.heap.size := by omega
      have nq := fun W => rtok_neq kind kind v v L L C C x x W
      have nb : (!((kind : Int) == kind && (x.toList == x.toList && ((v : Int) == v && ((L : Int) == L && (C : Int) == C))))) = false := by simp
      rw [nb] at nq
      have ng := fun p q xs ys W => rtok_guard p q xs ys W
      have hiN : (i : Int) < (n : Int) := by omega
      clear cellA cellB ht hx htv nb
      go_wp2
      have HL := hide (hbl.out.alloc hsz (.cells #[.int .i64 (kind : Int), .string x, .int .u64 (v : Int), .int .i64 (L : Int), .int .i64 (C : Int)] 37))
      go_quiet (fail)
      go_wp2
      go_roundw
      case rel => first | exact ⟨i + 1, by omega, by go_num, below_drewN HL.out _⟩ | ((repeat apply Exists.intro); exact ⟨⟨i + 1, by omega, by go_num, below_drewN HL.out _⟩, rfl⟩)
      case measure => simp [RowKit.intOf]; omega
    · have hdl : decide ((i : Int) < (n : Int)) = false := by simp; omega
      go_wp2
      go_ret
      exact ⟨rfl, hbl.out⟩

set_option maxHeartbeats 2000000 in
theorem LexTokens_calls (s : ByteArray) (w : World) (hv : Vars w) : Calls Tryd.prog 3 #[.string s] w fun e w' => e = .returned (.bool true) ∧ Below w.heap.size w w' := by
  have HV := hide hv
  by_cases hs : s.size ≤ 3000
  · have h1 := Tokens_calls s w hv
    have h2 := fun W => RefTokens_calls s (by omega) W
    have hlen := outOf_len s
    have fg := fun x y xs ys W => fault_guard2 x y xs ys W
    cases ho : outOf s with
    | bad c i j =>
      rw [ho] at h1 h2
      have H1 : Hid (Calls Tryd.prog 8 #[.string s] w fun e w' => Below w.heap.size w w' ∧ e = .returned (.tuple #[.slice none 0 0, .agg #[.int .i64 (c : Int), .int .i64 (i : Int), .int .i64 (j : Int)]])) := hide h1
      have H2 : Hid (∀ W, Calls Tryd.prog 9 #[.string s] W fun e w' => Below W.heap.size W w' ∧ e = .returned (.tuple #[.slice none 0 0, .int .i64 (c : Int), .int .i64 (i : Int), .int .i64 (j : Int)])) := hide h2
      have H3 := hide (fun W => same_calls none none 0 0 0 [] rfl (by omega) W 0 0 (World.ownsRow_nil _ _ _ _) (World.ownsRow_nil _ _ _ _))
      have fe := fun W => fault_eql c i j c i j W
      have nb : ((c : Int) == c && ((i : Int) == i && (j : Int) == j)) = true := by simp
      rw [nb] at fe
      clear h1 h2 hv nb ho hlen
      go_enter Tryd.func3, Tryd.ntmps3
      go_wp2_with (first
        | (go_at_call 8; refine H1.out.mono ?_; rintro e w2 ⟨hb2, rfl⟩; have HB2 := hide (hb2.alloc hb2.size (.cells #[.int .i64 (c : Int), .int .i64 (i : Int), .int .i64 (j : Int)] 26)); have HF2 := hide (Blk.new w2 26 #[.int .i64 (c : Int), .int .i64 (i : Int), .int .i64 (j : Int)]); clear hb2)
        | (go_at_call 9; refine (H2.out _).mono ?_; rintro e w3 ⟨hbx, rfl⟩; have HB3 := hide (HB2.out.trans (hbx.mono HB2.out.size)); have HF3 := hide (HF2.out.below hbx HF2.out.lt); clear hbx)
        | (go_at_call 7; refine (alive_calls _ (HV.out.below HB3.out)).mono ?_; rintro e w4 ⟨rfl, hbx⟩; have HB4 := hide (HB3.out.trans (hbx.mono HB3.out.size)); have HF4 := hide (HF3.out.below hbx HF3.out.lt); clear hbx)
        | (go_at_call 10; refine (H3.out _).mono ?_; rintro e w5 ⟨rfl, hbx⟩; have HB5 := hide (HB4.out.trans (hbx.mono HB4.out.size)); have hf5 := HF4.out.below hbx HF4.out.lt; have c0 : w5.cell? ⟨w2.heap.size, 0, none⟩ = some (.int .i64 (c : Int)) := hf5.cell 0; have c1 : w5.cell? ⟨w2.heap.size, 1, none⟩ = some (.int .i64 (i : Int)) := hf5.cell 1; have c2 : w5.cell? ⟨w2.heap.size, 2, none⟩ = some (.int .i64 (j : Int)) := hf5.cell 2; clear hbx hf5))
      go_ret
      exact ⟨rfl, HB5.out⟩
    | ok l =>
      rw [ho] at h1 h2
      have hll : l.length ≤ 1048577 := hlen l ho
      obtain ⟨n, hn⟩ : ∃ n, n = l.length := ⟨_, rfl⟩
      have H1 : Hid (Calls Tryd.prog 8 #[.string s] w fun e w' => Below w.heap.size w w' ∧ ∃ v, e = .returned (.tuple #[v, .agg #[.int .i64 0, .int .i64 0, .int .i64 0]]) ∧ w'.ownsRow w.heap.size 37 5 v l.length (tokCells l)) := hide h1
      have H2 : Hid (∀ W, Calls Tryd.prog 9 #[.string s] W fun e w' => Below W.heap.size W w' ∧ ∃ v, e = .returned (.tuple #[v, .int .i64 0, .int .i64 0, .int .i64 0]) ∧ w'.ownsRow W.heap.size 38 5 v l.length (tokCells l)) := hide h2
      have fe := fun W => fault_eql 0 0 0 0 0 0 W
      have nb : ((0 : Int) == 0 && ((0 : Int) == 0 && (0 : Int) == 0)) = true := by rfl
      rw [nb] at fe
      clear h1 h2 hv nb ho hlen
      go_enter Tryd.func3, Tryd.ntmps3
      go_wp2_with (first
        | (go_at_call 8; refine H1.out.mono ?_; rintro e w2 ⟨hb2, v1, rfl, ho2⟩; obtain ⟨A1, c1, rfl⟩ := own_slice5 ho2; have HO2 := hide (ho2.alloc (.cells #[.int .i64 0, .int .i64 0, .int .i64 0] 26)); have HB2 := hide (hb2.alloc hb2.size (.cells #[.int .i64 0, .int .i64 0, .int .i64 0] 26)); have HF2 := hide (Blk.new w2 26 #[.int .i64 0, .int .i64 0, .int .i64 0]); clear hb2 ho2)
        | (go_at_call 9; refine (H2.out _).mono ?_; rintro e w3 ⟨hbx, v2, rfl, ho3⟩; obtain ⟨A2, c2, rfl⟩ := own_slice5 ho3; have HO3 := hide (own_below HO2.out hbx); have HP3 := hide ho3; have HB3 := hide (HB2.out.trans (hbx.mono HB2.out.size)); have HF3 := hide (HF2.out.below hbx HF2.out.lt); clear hbx ho3)
        | (go_at_call 7; refine (alive_calls _ (HV.out.below HB3.out)).mono ?_; rintro e w4 ⟨rfl, hbx⟩; have HO4 := hide (own_below HO3.out hbx); have HP4 := hide (own_below HP3.out hbx); have HB4 := hide (HB3.out.trans (hbx.mono HB3.out.size)); have HF4 := hide (HF3.out.below hbx HF3.out.lt); clear hbx)
        | (go_at_call 10; refine (same_calls _ _ l.length _ _ l rfl (by omega) _ _ _ HO4.out HP4.out).mono ?_; rintro e w5 ⟨rfl, hbx⟩; have HB5 := hide (HB4.out.trans (hbx.mono HB4.out.size)); have hf5 := HF4.out.below hbx HF4.out.lt; have c0 : w5.cell? ⟨w2.heap.size, 0, none⟩ = some (.int .i64 0) := hf5.cell 0; have c1 : w5.cell? ⟨w2.heap.size, 1, none⟩ = some (.int .i64 0) := hf5.cell 1; have c2 : w5.cell? ⟨w2.heap.size, 2, none⟩ = some (.int .i64 0) := hf5.cell 2; clear hbx hf5))
      go_ret
      exact ⟨rfl, HB5.out⟩
  · have hs1 : (3000 : Int) < (s.size : Int) := by omega
    clear hv
    go_enter Tryd.func3, Tryd.ntmps3
    go_wp2_with (go_at_call 7; refine (alive_calls _ HV.out).mono ?_; rintro e w4 ⟨rfl, hb4⟩)
    go_ret
    exact ⟨rfl, hb4⟩
end Go.Proofs.YtglkpncjmmeihaaDoor
