/- The walks of the cursor's readers: end, word, number, name, sign (chapter 06). -/
import Derived.Test.YtjkglbgenbnjoaaGreatDoorLxSpacing
import Derived.Test.YtjkglbgenbnjoaaGreatDoorNuParseTop
import Derived.Test.YtjkglbgenbnjoaaGreatDoorNmScanTop
import Derived.Laws.ResultCell
import Derived.Laws.Rows
import Derived.Laws.Tables
namespace Go.Proofs.YtjkglbgenbnjoaaGreatDoor
open Go.RowKit Go.Lib

def tokC (kind : Nat) (text : ByteArray) (v line col : Nat) : Array Value := #[.int .i64 (kind : Int), .string text, .int .u64 (v : Int), .int .i64 (line : Int), .int .i64 (col : Int)]
/-- Behind a reader: the token, or the code. -/
def MethV (X : Nat) (p : Nat × Nat) (s : ByteArray) (k : Nat) (T : Tk) (w : World) (e : Ending) (w' : World) : Prop :=
  match T with
  | .tok kind text v stop => e = .returned (.tuple #[.agg (tokC kind ⟨text.toArray⟩ v 0 0), .int .i64 0]) ∧ Cur w' X (placeFrom p (piece s k stop)) s stop ∧ Only X w w'
  | .bad code => e = .returned (.tuple #[.agg (tokC 0 ⟨#[]⟩ 0 0 0), .int .i64 (code : Int)]) ∧ Only X w w'

theorem res_cell_tmp {fn : Func} {p u : Tmp} {ty : TypeId} (h : fn.results = #[.cell p ty, .tmp u]) (tmps : Array Value) (w : World) (g : Nat) (cs : Array Value)
    (hp : tmps.getD p undef = .pointer (some ⟨g, 0, none⟩)) (hl : (loadVar ty ⟨g, 0, none⟩).run Tryz.prog w = .ok (.agg cs) w) :
    (results fn tmps).run Tryz.prog w = .ok (.tuple #[.agg cs, tmps.getD u undef]) w := by
  rw [results_cell_tmp h, hp]
  simp only [asAddr, Sem.run_pure, Result.andThen]
  rw [hl]
theorem res_cell_cell {fn : Func} {p q : Tmp} {ty ty2 : TypeId} (h : fn.results = #[.cell p ty, .cell q ty2]) (tmps : Array Value) (w : World) (g g2 : Nat) (cs cs2 : Array Value)
    (hp : tmps.getD p undef = .pointer (some ⟨g, 0, none⟩)) (hl : (loadVar ty ⟨g, 0, none⟩).run Tryz.prog w = .ok (.agg cs) w)
    (hp2 : tmps.getD q undef = .pointer (some ⟨g2, 0, none⟩)) (hl2 : (loadVar ty2 ⟨g2, 0, none⟩).run Tryz.prog w = .ok (.agg cs2) w) :
    (results fn tmps).run Tryz.prog w = .ok (.tuple #[.agg cs, .agg cs2]) w := by
  have hp' : tmps[p]?.getD undef = .pointer (some ⟨g, 0, none⟩) := by simpa using hp
  have hp2' : tmps[q]?.getD undef = .pointer (some ⟨g2, 0, none⟩) := by simpa using hp2
  simp [results, h, hp', hp2', asAddr, hl, hl2]
theorem load_tok {w : World} {g : Nat} {cs : Array Value} (hg : Blk w g 56 cs) (hc : cs.size = 5) : (loadVar 56 ⟨g, 0, none⟩).run Tryz.prog w = .ok (.agg cs) w :=
  run_loadVar_row (P := Tryz.prog) w g 56 56 cs (0, 0) _ hg Tryz.underlying56 rfl (by rw [hc]; kernel_rfl)
theorem load_fault {w : World} {g : Nat} {cs : Array Value} (hg : Blk w g 27 cs) (hc : cs.size = 3) : (loadVar 27 ⟨g, 0, none⟩).run Tryz.prog w = .ok (.agg cs) w :=
  run_loadVar_row (P := Tryz.prog) w g 27 27 cs (0, 0) _ hg Tryz.underlying27 rfl (by rw [hc]; kernel_rfl)
theorem tok_info : (Tryz.prog.info? 56).map (·.size) = some 5 := by kernel_rfl
theorem tok_one (kind : Nat) (x : ByteArray) (v l c : Nat) : (tokC kind x v l c).all (·.oneCell') = true := by
  rw [← Array.all_toList]; rfl
theorem tok_size (n : Nat) (h : n = 5) : (Tryz.prog.info? 56).map (·.size) = some n := by rw [h]; kernel_rfl
theorem row_put {w : World} {B : Nat} {t : TypeId} {cs cs' : Array Value} (h : Blk w B t cs) : Blk (w.setRow B cs') B t cs' := setRow_heap w B cs cs' t (0, 0) h
theorem row_far {w : World} {B g : Nat} {t : TypeId} {cs cs' : Array Value} (h : Blk w g t cs) (hne : g ≠ B) : Blk (w.setRow B cs') g t cs := (setRow_other w B g cs' hne).trans h
theorem Only.setRow {X g : Nat} {a w : World} (h : Only X a w) (hg : a.heap.size ≤ g) (cs : Array Value) : Only X a (w.setRow g cs) :=
  ⟨h.os, h.tape, h.output, Nat.le_trans h.size (by simp [World.setRow]), fun i hi hn => (setRow_other w g i cs (by omega)).trans (h.block i hi hn)⟩
theorem Cur.row {w : World} {X g : Nat} {p : Nat × Nat} {s : ByteArray} {k : Nat} {cs : Array Value} (h : Cur w X p s k) (hg : X ≠ g) : Cur (w.setRow g cs) X p s k := ⟨row_far h.1 hg, h.2⟩
theorem Only.kept {X g : Nat} {w w' : World} {t : TypeId} {cs : Array Value} (h : Only X w w') (hb : Blk w g t cs) (hg : g ≠ X) : Blk w' g t cs :=
  (h.block g hb.lt (by intro e; injection e with e; exact hg e)).trans hb
/-- The library's variables lie below block X. -/
def GLow (X : Nat) : Prop := 3 < X ∧ 5 < X ∧ 1 < X ∧ 2 < X
theorem var_block {w : World} {name : String} {g : Nat} {cs : Array Value} (hg : Tryz.prog.globalNamed name = some g) (h : w.var? Tryz.prog name = some cs) : g < w.heap.size := by
  unfold World.var? at h
  rw [hg] at h
  simp only [Option.bind_some] at h
  rcases Nat.lt_or_ge g w.heap.size with hl | hl
  · exact hl
  · rw [Array.getElem?_eq_none hl] at h; cases h
theorem Vars.glow {w : World} {X : Nat} (h : Vars w) (hX : w.heap.size ≤ X) : GLow X := by
  obtain ⟨h1, h2, ⟨t3, p3, h3⟩, ⟨t4, p4, h4⟩⟩ := h
  have l1 : 3 < w.heap.size := var_block (by kernel_rfl) h1
  have l2 := cell_lt h2
  have l3 := cell_lt h3
  have l4 := cell_lt h4
  exact ⟨by omega, by omega, by omega, by omega⟩
theorem Vars.only {w w' : World} {X : Nat} (h : Vars w) (hg : GLow X) (hb : Below X w w') : Vars w' := by
  obtain ⟨h1, h2, ⟨t3, p3, h3⟩, ⟨t4, p4, h4⟩⟩ := h
  obtain ⟨g1, g2, g3, g4⟩ := hg
  refine ⟨?_, (hb.cell (p := ⟨5, 15, none⟩) g2).trans h2, ⟨t3, p3, (hb.cell (p := ⟨1, 0, none⟩) g3).trans h3⟩, ⟨t4, p4, (hb.cell (p := ⟨2, 0, none⟩) g4).trans h4⟩⟩
  unfold Tab10 Lib.TabIs World.var? at h1 ⊢
  rw [show Tryz.prog.globalNamed "internal/strconv.uint64pow10" = some 3 by kernel_rfl] at h1 ⊢
  simp only [Option.bind_some] at h1 ⊢
  rw [hb.block _ g1]
  exact h1
theorem piece_none (s : ByteArray) (p : Nat × Nat) (k : Nat) : placeFrom p (piece s k k) = p := by rw [piece_self]; rfl
theorem Cur.only {w w' : World} {X : Nat} {p : Nat × Nat} {s : ByteArray} {k : Nat} (h : Cur w X p s k) (hb : Below w.heap.size w w') : Cur w' X p s k := ⟨h.1.below hb h.1.lt, h.2⟩
/-- A result's cell behind the cursor's own: written. -/
theorem cur_set {w : World} {X g : Nat} {p : Nat × Nat} {s : ByteArray} {k : Nat} (h : Cur w X p s k) (hg : X ≠ g) (i : Nat) (u : Value) : Cur (w.setCell ⟨g, i, none⟩ u) X p s k := ⟨h.1.far hg u, h.2⟩

theorem end_calls (X : Nat) (w : World) (p : Nat × Nat) (s : ByteArray) (k : Nat) (h : Cur w X p s k) :
    Calls Tryz.prog 39 #[.pointer (some ⟨X, 0, none⟩)] w (MethV X p s k (.tok 0 [] 0 k) w) := by
  have H := hide h
  clear h
  go_enter Tryz.func39, Tryz.ntmps39
  go_wp2
  refine bodyPost_ret (res_cell_tmp (p := 2) (u := 3) rfl _ _ w.heap.size _ rfl (load_tok (Blk.new w 56 (tokC 0 ⟨#[]⟩ 0 0 0)) rfl)) rfl ⟨rfl, ?_, ?_⟩
  · rw [piece_none]
    exact H.out.only ((Below.refl _ w).alloc (Nat.le_refl _) _)
  · exact (Only.refl _ _).alloc _

set_option maxHeartbeats 1000000 in
theorem word_calls (X : Nat) (w : World) (p : Nat × Nat) (s : ByteArray) (k n : Nat) (hn : n = runLen isLet (s.data.toList.drop k)) (h : Cur w X p s k) :
    Calls Tryz.prog 41 #[.pointer (some ⟨X, 0, none⟩)] w (MethV X p s k (.tok 1 ((s.data.toList.drop k).take n) 0 (k + n)) w) := by
  have h1 := fun W hC => while_let X W p s k hC
  rw [← hn] at h1
  have H := hide h
  have hX := h.lt
  obtain ⟨x, hx⟩ : ∃ x, x = s.extract k (k + n) := ⟨_, rfl⟩
  have hpc := hide (show x = ⟨((s.data.toList.drop k).take n).toArray⟩ from by
    rw [hx]
    apply ByteArray.ext
    have h2 := extract_piece s k (k + n)
    unfold piece at h2
    rw [Nat.add_sub_cancel_left] at h2
    rw [← h2])
  unfold WhileV at h1
  rw [← hx] at h1
  obtain ⟨J, hJ⟩ : ∃ J, J = k + n := ⟨_, rfl⟩
  rw [← hJ] at h1 ⊢
  have H1 := hide h1
  clear h h1 hx hn hJ
  go_enter Tryz.func41, Tryz.ntmps41
  go_wp2_with (first
    | (go_at_call 35; refine (H1.out _ (H.out.only ((Below.refl _ w).alloc (Nat.le_refl _) _))).mono ?_; rintro e w2 ⟨rfl, hC2, hO2⟩; have hR2 := hO2.kept (Blk.new w 56 (tokC 0 ⟨#[]⟩ 0 0 0)) (by omega); have HC2 := hide hC2; have HO2 := hide hO2; have HR2 := hide hR2; clear hC2 hO2 hR2)
    | (refine wpList_store_row rfl 56 (.tmp 2) (.tmp 6) rfl w.heap.size (tokC 1 x 0 0 0) rfl rfl 56 (tokC 0 ⟨#[]⟩ 0 0 0) HR2.out (tok_size _ rfl) rfl (tok_one _ _ _ _ _) ?_))
  refine bodyPost_ret (res_cell_tmp (p := 2) (u := 3) rfl _ _ w.heap.size _ rfl (load_tok (row_put HR2.out) rfl)) rfl ⟨?_, HC2.out.row (by omega), ((((Only.refl X w).alloc _).trans HO2.out).setRow (Nat.le_refl _) _)⟩
  rw [hpc.out]; rfl

set_option maxHeartbeats 1000000 in
theorem number_calls (X : Nat) (w : World) (p : Nat × Nat) (s : ByteArray) (k n : Nat) (hn : n = runLen isAl (s.data.toList.drop k)) (h : Cur w X p s k) (hv : Vars w) (hgl : GLow X) :
    Calls Tryz.prog 43 #[.pointer (some ⟨X, 0, none⟩)] w (MethV X p s k (match parseN ((s.data.toList.drop k).take n) with | some v => .tok 2 ((s.data.toList.drop k).take n) v (k + n) | none => .bad 5) w) := by
  have h1 := fun W hC => while_al X W p s k hC
  rw [← hn] at h1
  have H := hide h
  have hX := h.lt
  have HV := hide hv
  obtain ⟨x, hx⟩ : ∃ x, x = s.extract k (k + n) := ⟨_, rfl⟩
  have hxd : x.data.toList = (s.data.toList.drop k).take n := by
    rw [hx]
    have h2 := extract_piece s k (k + n)
    unfold piece at h2
    rwa [Nat.add_sub_cancel_left] at h2
  have hpc := hide (show x = ⟨((s.data.toList.drop k).take n).toArray⟩ from by
    apply ByteArray.ext
    rw [← hxd])
  have hxs : x.size ≤ 100000000000000 := by
    have h9 := h.2.2.2.2
    have h1 := Lib.size_eq x
    have h2 := Lib.size_eq s
    rw [h1, hxd, List.length_take, List.length_drop]; omega
  have hP := fun W hV => Parse_calls x hxs W hV
  rw [hxd] at hP
  unfold WhileV at h1
  rw [← hx] at h1
  obtain ⟨J, hJ⟩ : ∃ J, J = k + n := ⟨_, rfl⟩
  rw [← hJ] at h1 ⊢
  unfold FoldV at hP
  have HVX := hide (fun (W : World) (hO : Only X (w.alloc (.cells (tokC 0 ⟨#[]⟩ 0 0 0) 56)) W) => (HV.out.below ((Below.refl _ w).alloc (Nat.le_refl _) _)).only hgl (hO.below (by simp; omega)))
  clear hgl
  cases hr : parseN ((s.data.toList.drop k).take n) with
  | none =>
    rw [hr, optV] at hP
    have H1 := hide h1
    have HP := hide hP
    clear h h1 hP hx hn hJ hr hxd hv hxs
    go_enter Tryz.func43, Tryz.ntmps43
    go_wp2_with (first
      | (go_at_call 35; refine (H1.out _ (H.out.only ((Below.refl _ w).alloc (Nat.le_refl _) _))).mono ?_; rintro e w2 ⟨rfl, hC2, hO2⟩; have hR2 := hO2.kept (Blk.new w 56 (tokC 0 ⟨#[]⟩ 0 0 0)) (by omega); have HC2 := hide hC2; have HO2 := hide hO2; have HR2 := hide hR2; clear hC2 hO2 hR2)
      | (go_at_call 50; refine (HP.out _ (HVX.out _ HO2.out)).mono ?_; rintro e w3 ⟨rfl, hb3⟩; have HB3 := hide hb3; have HR3 := hide (HR2.out.below hb3 HR2.out.lt); clear hb3)
      | (refine wpList_store_row rfl 56 (.tmp 2) (.tmp 16) rfl w.heap.size (tokC 0 ⟨#[]⟩ 0 0 0) rfl rfl 56 (tokC 0 ⟨#[]⟩ 0 0 0) HR3.out (tok_size _ rfl) rfl (tok_one _ _ _ _ _) ?_))
    refine bodyPost_ret (res_cell_tmp (p := 2) (u := 3) rfl _ _ w.heap.size _ rfl (load_tok (row_put HR3.out) rfl)) rfl ⟨rfl, ?_⟩
    exact ((((Only.refl X w).alloc _).trans HO2.out).trans (Only.of_below HB3.out)).setRow (Nat.le_refl _) _
  | some v =>
    rw [hr, optV] at hP
    have H1 := hide h1
    have HP := hide hP
    clear h h1 hP hx hn hJ hr hxd hv hxs
    go_enter Tryz.func43, Tryz.ntmps43
    go_wp2_with (first
      | (go_at_call 35; refine (H1.out _ (H.out.only ((Below.refl _ w).alloc (Nat.le_refl _) _))).mono ?_; rintro e w2 ⟨rfl, hC2, hO2⟩; have hR2 := hO2.kept (Blk.new w 56 (tokC 0 ⟨#[]⟩ 0 0 0)) (by omega); have HC2 := hide hC2; have HO2 := hide hO2; have HR2 := hide hR2; clear hC2 hO2 hR2)
      | (go_at_call 50; refine (HP.out _ (HVX.out _ HO2.out)).mono ?_; rintro e w3 ⟨rfl, hb3⟩; have HB3 := hide hb3; have HR3 := hide (HR2.out.below hb3 HR2.out.lt); clear hb3)
      | (refine wpList_store_row rfl 56 (.tmp 2) (.tmp 19) rfl w.heap.size (tokC 2 x v 0 0) rfl rfl 56 (tokC 0 ⟨#[]⟩ 0 0 0) HR3.out (tok_size _ rfl) rfl (tok_one _ _ _ _ _) ?_))
    refine bodyPost_ret (res_cell_tmp (p := 2) (u := 3) rfl _ _ w.heap.size _ rfl (load_tok (row_put HR3.out) rfl)) rfl ⟨?_, (HC2.out.only HB3.out).row (by omega), ((((Only.refl X w).alloc _).trans HO2.out).trans (Only.of_below HB3.out)).setRow (Nat.le_refl _) _⟩
    rw [hpc.out]; rfl
end Go.Proofs.YtjkglbgenbnjoaaGreatDoor
