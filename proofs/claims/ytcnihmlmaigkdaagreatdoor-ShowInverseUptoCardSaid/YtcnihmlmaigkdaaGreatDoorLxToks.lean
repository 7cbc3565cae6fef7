/- The walk of lex.Tokens (chapter 06). -/
import Derived.Test.YtcnihmlmaigkdaaGreatDoorMLxNextB
import Derived.Maps.AppendAt
import Derived.Great.BuildSlice
import Derived.Laws.StructEq
import Derived.OwnWalk
namespace Go.Proofs.YtcnihmlmaigkdaaGreatDoor
open Go.RowKit Go.Lib

/-- Behind Tokens. -/
def TokensV (o : Out) (w : World) (e : Ending) (w' : World) : Prop :=
  Below w.heap.size w w' ∧
  match o with
  | .ok l => ∃ v, e = .returned (.tuple #[v, .agg (faultC 0 0 0)]) ∧ w'.ownsRow w.heap.size 132 5 v l.length (tokCells l)
  | .bad c i j => e = .returned (.tuple #[.slice none 0 0, .agg (faultC c i j)])
theorem tok_info3 : (Tryz.prog.info? 132).map (fun i => (i.zero, i.size, i.bytes)) = some (some (.agg zTok), 5, 48) := by kernel_rfl
theorem tok_fill (kind : Nat) (x : ByteArray) (v l c : Nat) :
    Instr.fill (fun i => some (i * 5, 5)) ((Array.range (1 * 5)).map ((Value.agg zTok).cells[· % (Value.agg zTok).cells.size]!)) [(0, .agg (tokC kind x v l c))] = some (tokC kind x v l c) := by
  have h : (Array.range (1 * 5)).map ((Value.agg zTok).cells[· % (Value.agg zTok).cells.size]!) = zTok := by kernel_rfl
  rw [h]
  simp [Instr.fill, Value.cells, tokC, zTok]
theorem res_tmp_cell {fn : Func} {p u : Tmp} {ty : TypeId} (h : fn.results = #[.tmp u, .cell p ty]) (tmps : Array Value) (w : World) (g : Nat) (cs : Array Value)
    (hp : tmps.getD p undef = .pointer (some ⟨g, 0, none⟩)) (hl : (loadVar ty ⟨g, 0, none⟩).run Tryz.prog w = .ok (.agg cs) w) :
    (results fn tmps).run Tryz.prog w = .ok (.tuple #[tmps.getD u undef, .agg cs]) w := by
  have hp' : tmps[p]?.getD undef = .pointer (some ⟨g, 0, none⟩) := by simpa using hp
  simp [results, h, hp', asAddr, hl]
theorem own_slice5 {w : World} {base : Nat} {e : TypeId} {size : Nat} {v : Value} {n : Nat} {xs : List Value} (h : w.ownsRow base e size v n xs) : ∃ a c, v = .slice a n c := by
  rcases h.2 with ⟨rfl, h0⟩ | ⟨g, cap, cur, rfl, _⟩
  · rw [h0]; exact ⟨_, _, rfl⟩
  · exact ⟨_, _, rfl⟩
theorem own_low5 {w : World} {X n size : Nat} {e : TypeId} {v : Value} {xs : List Value} (h : w.ownsRow X e size v n xs) : ∀ k, v.ownBlock = some k → X ≤ k := by
  intro k hk
  rcases h.2 with ⟨rfl, _⟩ | ⟨g, cap, cur, rfl, hb, _⟩
  · simp [Value.ownBlock] at hk
  · simp [Value.ownBlock] at hk; omega
theorem own_baseL {w : World} {B B' : Nat} {e : TypeId} {size : Nat} {v : Value} {n : Nat} {xs : List Value} (h : w.ownsRow B e size v n xs) (hB : B' ≤ B) : w.ownsRow B' e size v n xs := by
  refine ⟨h.1, ?_⟩
  rcases h.2 with h0 | ⟨g, cap, cur, hv, hb, hr⟩
  · exact .inl h0
  · exact .inr ⟨g, cap, cur, hv, by omega, hr⟩
theorem tokCells_snoc (l : List Token) (t : Token) : tokCells (l ++ [t]) = tokCells l ++ (tokV t).toList := by
  unfold tokCells; rw [List.flatMap_append]; simp
theorem fault_neq (c i j : Int) (w : World) : (binOp .neq 43 (.agg #[.int .i64 c, .int .i64 i, .int .i64 j]) (.agg #[.int .i64 0, .int .i64 0, .int .i64 0])).run Tryz.prog w = .ok (.bool (!(c == 0 && (i == 0 && j == 0)))) w := by
  have hf : Tryz.prog.underlying 43 = some (.struct (Tryz.prog.fieldsOf 43)) := by kernel_rfl
  have hp : Tryz.prog.stoodInHeld 43 = false := by kernel_rfl
  rw [run_neq_struct, run_equalIn_agg w 9999 _ _ _ hf hp]
  unfold Program.fieldsOf
  rw [Tryz.underlying43]
  simp [Op.eqFields, part, run_equalIn_int]
  by_cases h1 : c = 0 <;> by_cases h2 : i = 0 <;> by_cases h3 : j = 0 <;> simp [h1, h2, h3]
theorem fault_guard (x y : Operand) (xs ys : Array Value) (w : World) : (eqGuard .neq 43 x y (.agg xs) (.agg ys)).run Tryz.prog w = .ok () w :=
  run_eqGuard_agg w _ _ _ _ _ _ (by kernel_rfl)
theorem placeAt_piece (s : ByteArray) (k : Nat) : placeAt s k = placeFrom (1, 1) (piece s 0 k) := by unfold placeAt piece; simp
theorem placeAt_join (s : ByteArray) (k J : Nat) (h : k ≤ J) : placeFrom (placeAt s k) (piece s k J) = placeAt s J := by
  rw [placeAt_piece, placeAt_piece, place_join s (1, 1) 0 k J (Nat.zero_le _) h]
theorem tok_one1 (kind : Nat) (x : ByteArray) (v l c : Nat) : ∀ u ∈ (tokC kind x v l c).toList, u.oneCell' = true := by
  intro u hu
  exact Array.all_eq_true_iff_forall_mem.1 (tok_one kind x v l c) u (by simpa using hu)
theorem cells_at (w : World) (t : TypeId) (T : Array Value) : ∀ j u, T.toList[j]? = some u → (w.alloc (.cells T t)).cell? ((⟨w.heap.size, 0, none⟩ : Addr).add j) = some u := by
  intro j u h
  rw [Addr.add_mid, Nat.zero_add, (Blk.new w t T).cell, ← Array.getElem?_toList]
  exact h
/-- What stands in the round. -/
def TokRel (w : World) (s : ByteArray) (R : Out) (v : Value) (wr : World) (k f : Nat) (l : List Token) : Prop :=
  Cur wr (w.heap.size + 1) (placeAt s k) s k ∧ Blk wr w.heap.size 43 (faultC 0 0 0) ∧ wr.ownsRow (w.heap.size + 2) 132 5 v l.length (tokCells l) ∧ Below w.heap.size w wr ∧
  Out.front l (toks s f k) = R ∧ s.size < f + k ∧ l.length ≤ k
theorem own_set {w : World} {B : Nat} {v : Value} {n : Nat} {xs : List Value} (h : w.ownsRow (B + 2) 132 5 v n xs) (i : Nat) (u : Value) : (w.setCell ⟨B, i, none⟩ u).ownsRow (B + 2) 132 5 v n xs := by
  refine ⟨h.1, ?_⟩
  rcases h.2 with h0 | ⟨g, cap, cur, hv, hb, hg, h1, h2, h3, h4⟩
  · exact .inl h0
  · have hb' : Blk w g 132 cur := hg
    exact .inr ⟨g, cap, cur, hv, hb, hb'.far (p := ⟨B, i, none⟩) (by show g ≠ B; omega) u, h1, h2, h3, h4⟩
/-- In the midst of the round: the fault's cell, the token's and the fault's own variables. -/
def MidT (w W : World) (g : Nat) (T F : Array Value) : Prop :=
  Blk W w.heap.size 43 (faultC 0 0 0) ∧ Below w.heap.size w W ∧ Blk W g 132 T ∧ Blk W (g + 1) 43 F
theorem MidT.grown {w W W' : World} {g : Nat} {T F : Array Value} (h : MidT w W g T F) {row : Option Nat} (hg : W.grownBy W' row) (hr : ∀ r, row = some r → w.heap.size < r ∧ r < g) (hw : w.heap.size ≤ W.heap.size) : MidT w W' g T F :=
  ⟨h.1.grown hg (by intro e; have := hr _ e.symm; omega), h.2.1.grown hg hw (fun r e => by have := hr r e; omega), h.2.2.1.grown hg (by intro e; have := hr _ e.symm; omega), h.2.2.2.grown hg (by intro e; have := hr _ e.symm; omega)⟩
theorem MidT.alloc {w W : World} {g : Nat} {T F : Array Value} (h : MidT w W g T F) (o : Obj) (hw : w.heap.size ≤ W.heap.size) : MidT w (W.alloc o) g T F :=
  ⟨h.1.alloc o, h.2.1.alloc hw o, h.2.2.1.alloc o, h.2.2.2.alloc o⟩
theorem MidT.made {w wr w2 : World} (T F : Array Value) (h1 : Blk wr w.heap.size 43 (faultC 0 0 0)) (h2 : Below w.heap.size w wr) (hO : Only (w.heap.size + 1) wr w2) (hw : w.heap.size + 1 < wr.heap.size) :
    MidT w ((((w2.alloc (.cells #[.int .i64 0, .string ⟨#[]⟩, .int .u64 0, .int .i64 0, .int .i64 0] 132)).alloc (.cells #[.int .i64 0, .int .i64 0, .int .i64 0] 43)).setRow w2.heap.size T).setRow (w2.heap.size + 1) F) w2.heap.size T F := by
  have hw2 := hO.size
  have b1 := hO.kept h1 (by omega)
  have hb2 : Below w.heap.size w w2 := h2.grown hO (by omega) (fun r e => by injection e with e; omega)
  refine ⟨row_far (row_far ((b1.alloc _).alloc _) (by omega)) (by omega), ?_, row_far (row_put ((Blk.new w2 _ _).alloc _)) (by omega), row_put (row_far (by have := Blk.new (w2.alloc (.cells #[.int .i64 0, .string ⟨#[]⟩, .int .u64 0, .int .i64 0, .int .i64 0] 132)) 43 #[.int .i64 0, .int .i64 0, .int .i64 0]; simpa using this) (by omega))⟩
  have e1 := (hb2.alloc (by omega) (.cells #[.int .i64 0, .string ⟨#[]⟩, .int .u64 0, .int .i64 0, .int .i64 0] 132)).alloc (by simp; omega) (.cells #[.int .i64 0, .int .i64 0, .int .i64 0] 43)
  exact ⟨e1.os, e1.tape, e1.output, Nat.le_trans e1.size (by simp [World.setRow]), fun i hi => ((setRow_other _ _ i _ (by omega)).trans (setRow_other _ _ i _ (by omega))).trans (e1.block i hi)⟩
theorem own_made {w2 : World} {v : Value} {n B : Nat} {xs : List Value} (T F : Array Value) (h : w2.ownsRow B 132 5 v n xs) :
    ((((w2.alloc (.cells #[.int .i64 0, .string ⟨#[]⟩, .int .u64 0, .int .i64 0, .int .i64 0] 132)).alloc (.cells #[.int .i64 0, .int .i64 0, .int .i64 0] 43)).setRow w2.heap.size T).setRow (w2.heap.size + 1) F).ownsRow B 132 5 v n xs := by
  have e1 := (Below.refl w2.heap.size w2).alloc (Nat.le_refl _) (.cells #[.int .i64 0, .string ⟨#[]⟩, .int .u64 0, .int .i64 0, .int .i64 0] 132)
  have e2 := e1.alloc (by simp) (.cells #[.int .i64 0, .int .i64 0, .int .i64 0] 43)
  refine own_below h ⟨e2.os, e2.tape, e2.output, Nat.le_trans e2.size (by simp [World.setRow]), fun i hi => ((setRow_other _ _ i _ (by omega)).trans (setRow_other _ _ i _ (by omega))).trans (e2.block i hi)⟩
theorem cur_made {w2 : World} {X k : Nat} {P : Nat × Nat} {s : ByteArray} (T F : Array Value) (h : Cur w2 X P s k) :
    Cur ((((w2.alloc (.cells #[.int .i64 0, .string ⟨#[]⟩, .int .u64 0, .int .i64 0, .int .i64 0] 132)).alloc (.cells #[.int .i64 0, .int .i64 0, .int .i64 0] 43)).setRow w2.heap.size T).setRow (w2.heap.size + 1) F) X P s k := by
  have := h.lt
  exact Cur.row (Cur.row ⟨(h.1.alloc _).alloc _, h.2⟩ (by omega)) (by omega)

set_option maxHeartbeats 4000000 in
theorem Tokens_calls (s : ByteArray) (w : World) (hv : Vars w) : Calls Tryz.prog 75 #[.string s] w (TokensV (outOf s) w) := by
  by_cases hs : s.size ≤ 1048576
  · have hgl := hv.glow (X := w.heap.size + 1) (by omega)
    obtain ⟨R, hR⟩ : ∃ R, R = toks s (s.size + 1) 0 := ⟨_, rfl⟩
    have hO : outOf s = R := by unfold outOf; rw [if_pos hs, hR]
    rw [hO]
    have HR := hide hR
    have HV := hide hv
    clear hO hR hv
    have hN := fun W (hB : Below w.heap.size w W) p k (hC : Cur W (w.heap.size + 1) p s k) => next_calls (w.heap.size + 1) W p s k hC (HV.out.below hB) hgl
    have HN := hide hN
    clear hN hgl
    go_enter Tryz.func75, Tryz.ntmps75
    go_wp2
    go_loopw [4] (fun v wr => ∃ k f l, Hid (TokRel w s R v wr k f l)) (fun _ wr => s.size - atOf wr (w.heap.size + 1))
    case atStart =>
      refine ⟨0, s.size + 1, [], ⟨by have h1 := Blk.new (w.alloc (.cells #[.int .i64 0, .int .i64 0, .int .i64 0] 43)) 202 (curA (1, 1) s 0); have h2 : Blk _ (w.heap.size + 1) 202 (curA (1, 1) s 0) := (by simpa using h1); exact h2, Nat.le_refl _, Nat.le_refl _, Nat.zero_le _, by omega⟩, (Blk.new w _ _).alloc _, World.ownsRow_nil _ _ _ _, ((Below.refl _ w).alloc (Nat.le_refl _) _).alloc (by simp) _, HR.out.symm, by omega, Nat.le_refl _⟩
    case round =>
      obtain ⟨k, f, l, hrel⟩ := hrel
      have hks := hrel.out.1.2.2.2.1
      have hlx := hrel.out.1.lt
      obtain ⟨f, rfl⟩ : ∃ f', f = f' + 1 := ⟨f - 1, by have := hrel.out.2.2.2.2.2.1; omega⟩
      obtain ⟨J, hJ⟩ : ∃ J, J = skipAt s k := ⟨_, rfl⟩
      have hkJ : k ≤ J := by rw [hJ]; exact skipAt_ge s k
      have hJs : J ≤ s.size := by rw [hJ]; exact skipAt_le s k hks
      have hN := HN.out wr hrel.out.2.2.2.1 _ _ hrel.out.1
      rw [← hJ, placeAt_join s k J hkJ] at hN
      have htk := hrel.out.2.2.2.2.1
      rw [toks, ← hJ] at htk
      obtain ⟨a0, c0, hvs⟩ := own_slice5 hrel.out.2.2.1
      subst hvs
      obtain ⟨PL, hPL⟩ : ∃ n, n = (placeAt s J).1 := ⟨_, rfl⟩
      obtain ⟨PC, hPC⟩ : ∃ n, n = (placeAt s J).2 := ⟨_, rfl⟩
      have hln : l.length ≤ 1048576 := by have := hrel.out.2.2.2.2.2.2; omega
      have hB := hrel.out.2.2.2.1.size
      have gd := fun x y xs ys W => fault_guard x y xs ys W
      cases hT : tokAt s J with
      | bad code =>
        have hc0 := tokAt_code s J code hT
        have nq := fun W => fault_neq (code : Int) (PL : Int) (PC : Int) W
        have nb : (!((code : Int) == 0 && ((PL : Int) == 0 && (PC : Int) == 0))) = true := by
          have : ((code : Int) == 0) = false := by simp; omega
          rw [this]; rfl
        rw [nb] at nq
        rw [hT] at hN htk
        unfold NextT at hN
        simp only at hN htk
        rw [← hPL, ← hPC] at hN htk
        rw [Out.front_bad] at htk
        have HNN := hide hN
        have HTK := hide htk
        clear hN htk hT hPL hPC nb hc0 hJ
        go_wp2_with (first
          | (go_at_call 130; refine HNN.out.mono ?_; rintro e w2 ⟨rfl, hO2⟩; have hM := hide (MidT.made (tokC 0 ⟨#[]⟩ 0 0 0) (faultC code PL PC) hrel.out.2.1 hrel.out.2.2.2.1 hO2 hlx); have hs2 := hO2.size; clear hO2)
          | (refine wpList_store_row rfl 132 (.tmp 6) (.tmp 19) rfl w2.heap.size (tokC 0 ⟨#[]⟩ 0 0 0) rfl rfl 132 zTok ((Blk.new w2 _ _).alloc _) (tok_size _ rfl) rfl (tok_one _ _ _ _ _) ?_)
          | (refine wpList_store_row rfl 43 (.tmp 7) (.tmp 20) rfl (w2.heap.size + 1) (faultC code PL PC) rfl rfl 43 #[.int .i64 0, .int .i64 0, .int .i64 0] (row_far (by have := Blk.new (w2.alloc (.cells #[.int .i64 0, .string ⟨#[]⟩, .int .u64 0, .int .i64 0, .int .i64 0] 132)) 43 #[.int .i64 0, .int .i64 0, .int .i64 0]; simpa using this) (by omega)) (fault_size _ rfl) rfl (fault_one _ _ _) ?_; generalize (((w2.alloc (.cells #[.int .i64 0, .string ⟨#[]⟩, .int .u64 0, .int .i64 0, .int .i64 0] 132)).alloc (.cells #[.int .i64 0, .int .i64 0, .int .i64 0] 43)).setRow w2.heap.size (tokC 0 ⟨#[]⟩ 0 0 0)).setRow (w2.heap.size + 1) (faultC code PL PC) = w3 at *; have HM := hide hM.out)
          | (refine wpList_load_row rfl 43 (.tmp 7) rfl (w2.heap.size + 1) rfl 43 #[.int .i64 (code : Int), .int .i64 (PL : Int), .int .i64 (PC : Int)] (0, 0) _ hM.out.2.2.2 Tryz.underlying43 rfl (fault_size _ rfl) ?_))
        have f0 : w3.cell? ⟨w2.heap.size + 1, 0, none⟩ = some (.int .i64 (code : Int)) := HM.out.2.2.2.cell 0
        have f1 : w3.cell? ⟨w2.heap.size + 1, 1, none⟩ = some (.int .i64 (PL : Int)) := HM.out.2.2.2.cell 1
        have f2 : w3.cell? ⟨w2.heap.size + 1, 2, none⟩ = some (.int .i64 (PC : Int)) := HM.out.2.2.2.cell 2
        have b0 : w3.cell? ⟨w.heap.size, 0, none⟩ = some (.int .i64 0) := HM.out.1.cell 0
        have b1 : w3.cell? ⟨w.heap.size, 1, none⟩ = some (.int .i64 0) := HM.out.1.cell 1
        have b2 : w3.cell? ⟨w.heap.size, 2, none⟩ = some (.int .i64 0) := HM.out.1.cell 2
        have bf := fun i => HM.out.1.frozen i
        go_region
        go_wp2_with fail
        have HF := hide ((((HM.out.1.set_ 0 (.int .i64 (code : Int))).set_ 1 (.int .i64 (PL : Int))).set_ 2 (.int .i64 (PC : Int))).drew : Blk _ w.heap.size 43 (faultC code PL PC))
        rw [← HTK.out]
        refine bodyPost_ret (res_tmp_cell (p := 3) (u := 2) rfl _ _ w.heap.size _ rfl (load_fault HF.out rfl)) rfl ⟨(((HM.out.2.1.setCell (Nat.le_refl _) _).setCell (Nat.le_refl _) _).setCell (Nat.le_refl _) _).drew, rfl⟩
      | tok kind text v stop =>
        have nq := fun W => fault_neq 0 0 0 W
        have nb : (!((0 : Int) == 0 && ((0 : Int) == 0 && (0 : Int) == 0))) = false := by rfl
        rw [nb] at nq
        have hst := tokAt_stop s J kind v stop text hT hJs
        have hge := tokAt_ge s J kind v stop text hT hJs
        rw [hT] at hN htk
        unfold NextT at hN
        simp only at hN htk
        rw [placeAt_join s k stop (by omega), ← hPL, ← hPC] at hN
        obtain ⟨t, ht⟩ : ∃ t, t = mkTok s J kind text v := ⟨_, rfl⟩
        obtain ⟨x, hx⟩ : ∃ x : ByteArray, x = ⟨text.toArray⟩ := ⟨_, rfl⟩
        have htv : tokV t = tokC kind x v PL PC := by rw [ht, hx, hPL, hPC]; rfl
        rw [← hx] at hN
        rw [← ht] at htk
        have tsz : (tokC kind x v PL PC).size = 5 := rfl
        have hnx : (Value.slice a0 l.length c0).ownBlock ≠ some (w.heap.size + 1) := fun e => by have := own_low5 hrel.out.2.2.1 _ e; omega
        have hrw := hrel.out.2.2.1.lt
        have HNN := hide hN
        have HTV := hide htv
        have HT := hide ht
        by_cases hk : kind = 0
        · have hb : ((kind : Int) == 0) = true := by rw [hk]; rfl
          rw [if_pos hk, Out.front_ok] at htk
          have HTK := hide htk
          clear hN htk hT hPL hPC hJ hk hx ht htv nb
          go_wp2_with (first
            | (go_at_call 130; refine HNN.out.mono ?_; rintro e w2 ⟨rfl, hC2, hO2⟩; have hM := hide (MidT.made (tokC kind x v PL PC) (faultC 0 0 0) hrel.out.2.1 hrel.out.2.2.2.1 hO2 hlx); have hC3 := hide (cur_made (tokC kind x v PL PC) (faultC 0 0 0) hC2); have hW3 := hide (own_made (tokC kind x v PL PC) (faultC 0 0 0) (hrel.out.2.2.1.kept hO2 (.inr hnx))); have hs2 := hO2.size; clear hO2 hC2)
            | (refine wpList_store_row rfl 132 (.tmp 6) (.tmp 19) rfl w2.heap.size (tokC kind x v PL PC) rfl rfl 132 zTok ((Blk.new w2 _ _).alloc _) (tok_size _ rfl) rfl (tok_one _ _ _ _ _) ?_)
            | (refine wpList_store_row rfl 43 (.tmp 7) (.tmp 20) rfl (w2.heap.size + 1) (faultC 0 0 0) rfl rfl 43 #[.int .i64 0, .int .i64 0, .int .i64 0] (row_far (by have := Blk.new (w2.alloc (.cells #[.int .i64 0, .string ⟨#[]⟩, .int .u64 0, .int .i64 0, .int .i64 0] 132)) 43 #[.int .i64 0, .int .i64 0, .int .i64 0]; simpa using this) (by omega)) (fault_size _ rfl) rfl (fault_one _ _ _) ?_; have hs3 : w2.heap.size + 1 < ((((w2.alloc (.cells #[.int .i64 0, .string ⟨#[]⟩, .int .u64 0, .int .i64 0, .int .i64 0] 132)).alloc (.cells #[.int .i64 0, .int .i64 0, .int .i64 0] 43)).setRow w2.heap.size (tokC kind x v PL PC)).setRow (w2.heap.size + 1) (faultC 0 0 0)).heap.size := hM.out.2.2.2.lt; generalize (((w2.alloc (.cells #[.int .i64 0, .string ⟨#[]⟩, .int .u64 0, .int .i64 0, .int .i64 0] 132)).alloc (.cells #[.int .i64 0, .int .i64 0, .int .i64 0] 43)).setRow w2.heap.size (tokC kind x v PL PC)).setRow (w2.heap.size + 1) (faultC 0 0 0) = w3 at *; generalize w2.heap.size = g6 at *)
            | (refine wpList_load_row rfl 43 (.tmp 7) rfl (g6 + 1) rfl 43 #[.int .i64 0, .int .i64 0, .int .i64 0] (0, 0) _ hM.out.2.2.2 Tryz.underlying43 rfl (fault_size _ rfl) ?_)
            | (refine wpList_load_row rfl 132 (.tmp 6) rfl g6 rfl 132 (tokC kind x v PL PC) (0, 0) _ hM.out.2.2.1 Tryz.underlying132 rfl (tok_size _ rfl) ?_)
            | (obtain ⟨i0, hi, hz0, hz1, hz2⟩ := info_parts tok_info3; refine wpList_buildSlice rfl 127 132 1 _ rfl (tokC kind x v PL PC) i0 _ Tryz.underlying127 hi hz0 (by rw [hz1]; decide) (by rw [hz1]; decide) (by rw [hz1]; exact tok_fill kind x v PL PC) ?_; clear hi hz0 hz1 hz2 i0)
            | (at_builtin; obtain ⟨i0, hi, hz0, hz1, hz2⟩ := info_parts tok_info3; go_must (refine wpList_append_own_at _ rfl (.tmp 25) (.tmp 27) 127 rfl (w.heap.size + 2) 132 i0 _ 5 48 Tryz.underlying127 hi hz0 hz1 hz2 rfl (by decide) (.slice a0 l.length c0) l.length (tokCells l) rfl (hW3.out.alloc _) _ 1 1 (tokC kind x v PL PC).toList rfl rfl (cells_at _ _ _) (tok_one1 kind x v PL PC) (by simp only [maxLen]; omega) (by omega) (by simp; omega) ?_); intro v' w4 hown' hg hnl hat; have hM4 := hide ((hM.out.alloc _ (by omega)).grown hg (fun r e => by have := hrw r e; omega) (by simp; omega)); have HC4 := hide (show Cur w4 (w.heap.size + 1) (placeAt s stop) s stop from ⟨(hC3.out.1.alloc _).grown hg (fun e => hnx e.symm), hC3.out.2⟩); have HO4 := hide hown'; have q0 : w4.cell? ⟨g6, 0, none⟩ = some (.int .i64 (kind : Int)) := hM4.out.2.2.1.cell 0; clear hown' hg hnl hat hi hz0 hz1 hz2 i0))
          have f0 : w4.cell? ⟨g6 + 1, 0, none⟩ = some (.int .i64 0) := hM4.out.2.2.2.cell 0
          have f1 : w4.cell? ⟨g6 + 1, 1, none⟩ = some (.int .i64 0) := hM4.out.2.2.2.cell 1
          have f2 : w4.cell? ⟨g6 + 1, 2, none⟩ = some (.int .i64 0) := hM4.out.2.2.2.cell 2
          have b0 : w4.cell? ⟨w.heap.size, 0, none⟩ = some (.int .i64 0) := hM4.out.1.cell 0
          have b1 : w4.cell? ⟨w.heap.size, 1, none⟩ = some (.int .i64 0) := hM4.out.1.cell 1
          have b2 : w4.cell? ⟨w.heap.size, 2, none⟩ = some (.int .i64 0) := hM4.out.1.cell 2
          have bf := fun i => hM4.out.1.frozen i
          go_region
          go_wp2_with fail
          have HF := hide ((((hM4.out.1.set_ 0 (.int .i64 0)).set_ 1 (.int .i64 0)).set_ 2 (.int .i64 0)).drew : Blk _ w.heap.size 43 (faultC 0 0 0))
          rw [← HTK.out]
          refine bodyPost_ret (res_tmp_cell (p := 3) (u := 2) rfl _ _ w.heap.size _ rfl (load_fault HF.out rfl)) rfl ⟨(((hM4.out.2.1.setCell (Nat.le_refl _) _).setCell (Nat.le_refl _) _).setCell (Nat.le_refl _) _).drew, v', rfl, ?_⟩
          have e1 := HO4.out
          rw [← HTV.out, ← tokCells_snoc] at e1
          rw [List.length_append]
          exact own_baseL (own_set (own_set (own_set e1 _ _) _ _) _ _) (B' := w.heap.size) (by omega)
        · have hb : ((kind : Int) == 0) = false := by simp; omega
          rw [if_neg hk, ← Out.front_snoc] at htk
          have hlt := hst.2 hk
          have HTK := hide htk
          clear hN htk hT hPL hPC hJ hk hx ht htv nb
          go_wp2_with (first
            | (go_at_call 130; refine HNN.out.mono ?_; rintro e w2 ⟨rfl, hC2, hO2⟩; have hM := hide (MidT.made (tokC kind x v PL PC) (faultC 0 0 0) hrel.out.2.1 hrel.out.2.2.2.1 hO2 hlx); have hC3 := hide (cur_made (tokC kind x v PL PC) (faultC 0 0 0) hC2); have hW3 := hide (own_made (tokC kind x v PL PC) (faultC 0 0 0) (hrel.out.2.2.1.kept hO2 (.inr hnx))); have hs2 := hO2.size; clear hO2 hC2)
            | (refine wpList_store_row rfl 132 (.tmp 6) (.tmp 19) rfl w2.heap.size (tokC kind x v PL PC) rfl rfl 132 zTok ((Blk.new w2 _ _).alloc _) (tok_size _ rfl) rfl (tok_one _ _ _ _ _) ?_)
            | (refine wpList_store_row rfl 43 (.tmp 7) (.tmp 20) rfl (w2.heap.size + 1) (faultC 0 0 0) rfl rfl 43 #[.int .i64 0, .int .i64 0, .int .i64 0] (row_far (by have := Blk.new (w2.alloc (.cells #[.int .i64 0, .string ⟨#[]⟩, .int .u64 0, .int .i64 0, .int .i64 0] 132)) 43 #[.int .i64 0, .int .i64 0, .int .i64 0]; simpa using this) (by omega)) (fault_size _ rfl) rfl (fault_one _ _ _) ?_; have hs3 : w2.heap.size + 1 < ((((w2.alloc (.cells #[.int .i64 0, .string ⟨#[]⟩, .int .u64 0, .int .i64 0, .int .i64 0] 132)).alloc (.cells #[.int .i64 0, .int .i64 0, .int .i64 0] 43)).setRow w2.heap.size (tokC kind x v PL PC)).setRow (w2.heap.size + 1) (faultC 0 0 0)).heap.size := hM.out.2.2.2.lt; generalize (((w2.alloc (.cells #[.int .i64 0, .string ⟨#[]⟩, .int .u64 0, .int .i64 0, .int .i64 0] 132)).alloc (.cells #[.int .i64 0, .int .i64 0, .int .i64 0] 43)).setRow w2.heap.size (tokC kind x v PL PC)).setRow (w2.heap.size + 1) (faultC 0 0 0) = w3 at *; generalize w2.heap.size = g6 at *)
            | (refine wpList_load_row rfl 43 (.tmp 7) rfl (g6 + 1) rfl 43 #[.int .i64 0, .int .i64 0, .int .i64 0] (0, 0) _ hM.out.2.2.2 Tryz.underlying43 rfl (fault_size _ rfl) ?_)
            | (refine wpList_load_row rfl 132 (.tmp 6) rfl g6 rfl 132 (tokC kind x v PL PC) (0, 0) _ hM.out.2.2.1 Tryz.underlying132 rfl (tok_size _ rfl) ?_)
            | (obtain ⟨i0, hi, hz0, hz1, hz2⟩ := info_parts tok_info3; refine wpList_buildSlice rfl 127 132 1 _ rfl (tokC kind x v PL PC) i0 _ Tryz.underlying127 hi hz0 (by rw [hz1]; decide) (by rw [hz1]; decide) (by rw [hz1]; exact tok_fill kind x v PL PC) ?_; clear hi hz0 hz1 hz2 i0)
            | (at_builtin; obtain ⟨i0, hi, hz0, hz1, hz2⟩ := info_parts tok_info3; go_must (refine wpList_append_own_at _ rfl (.tmp 25) (.tmp 27) 127 rfl (w.heap.size + 2) 132 i0 _ 5 48 Tryz.underlying127 hi hz0 hz1 hz2 rfl (by decide) (.slice a0 l.length c0) l.length (tokCells l) rfl (hW3.out.alloc _) _ 1 1 (tokC kind x v PL PC).toList rfl rfl (cells_at _ _ _) (tok_one1 kind x v PL PC) (by simp only [maxLen]; omega) (by omega) (by simp; omega) ?_); intro v' w4 hown' hg hnl hat; have hM4 := hide ((hM.out.alloc _ (by omega)).grown hg (fun r e => by have := hrw r e; omega) (by simp; omega)); have HC4 := hide (show Cur w4 (w.heap.size + 1) (placeAt s stop) s stop from ⟨(hC3.out.1.alloc _).grown hg (fun e => hnx e.symm), hC3.out.2⟩); have HO4 := hide hown'; have q0 : w4.cell? ⟨g6, 0, none⟩ = some (.int .i64 (kind : Int)) := hM4.out.2.2.1.cell 0; clear hown' hg hnl hat hi hz0 hz1 hz2 i0))
          have e1 := HO4.out
          rw [← HTV.out, ← tokCells_snoc] at e1
          have hrl := hide (show TokRel w s R v' w4 stop f (l ++ [t]) from ⟨HC4.out, hM4.out.1, by rw [List.length_append]; exact e1, hM4.out.2.1, HTK.out, by have := hrel.out.2.2.2.2.2.1; omega, by have := hrel.out.2.2.2.2.2.2; simp; omega⟩)
          clear e1
          go_roundw
          case rel => first | exact ⟨stop, f, l ++ [t], hrl.out⟩ | ((repeat apply Exists.intro); exact ⟨⟨stop, f, l ++ [t], hrl.out⟩, rfl⟩)
          case measure => rw [HC4.out.atOf, hrel.out.1.atOf]; omega
  · have hO : outOf s = .bad 2 0 0 := by unfold outOf; rw [if_neg hs]
    rw [hO]
    have hs1 : (1048576 : Int) < (s.size : Int) := by omega
    clear hO hs hv
    go_enter Tryz.func75, Tryz.ntmps75
    go_wp2
    refine bodyPost_ret (res_tmp_cell (p := 3) (u := 2) rfl _ _ w.heap.size _ rfl (load_fault (Blk.new w _ _) rfl)) rfl ⟨(Below.refl _ w).alloc (Nat.le_refl _) _, rfl⟩
end Go.Proofs.YtcnihmlmaigkdaaGreatDoor
