/- The walks of the cursor's readers: end, word, number, name, sign (chapter 06). The walks of the cursor's name and sign, and of its reader (chapter 06). The walks of the cursor's sign and reader (chapter 06). The walk of the cursor's next, at one method (chapter 06). The walk of the cursor's next, method by method (chapter 06). Written by gennext.py. -/
import Derived.Test.YtcnihmlmaigkdaaGreatDoorMLxWhile
import Derived.Test.YtcnihmlmaigkdaaGreatDoorMLxSpec
import Derived.Test.YtcnihmlmaigkdaaGreatDoorMNuParse
import Derived.Test.YtcnihmlmaigkdaaGreatDoorNmScanTop
import Derived.Laws.ResultCell
import Derived.Laws.Rows
import Derived.Laws.Tables
import Derived.BigRegion
import Derived.Deep.MidRow
namespace Go.Proofs.YtcnihmlmaigkdaaGreatDoor
open Go.RowKit Go.Lib

/-- Behind a reader: the token, or the code. -/
def MethV (X : Nat) (p : Nat × Nat) (s : ByteArray) (k : Nat) (T : Tk) (w : World) (e : Ending) (w' : World) : Prop :=
  match T with
  | .tok kind text v stop => e = .returned (.tuple #[.agg (tokC kind ⟨text.toArray⟩ v 0 0), .int .i64 0]) ∧ Cur w' X (placeFrom p (piece s k stop)) s stop ∧ Only X w w'
  | .bad code => e = .returned (.tuple #[.agg (tokC 0 ⟨#[]⟩ 0 0 0), .int .i64 (code : Int)]) ∧ Only X w w'

theorem res_cell_tmp {fn : Func} {p u : Tmp} {ty : TypeId} (h : fn.results = #[.cell p ty, .tmp u]) (tmps : Array Value) (w : World) (g : Nat) (cs : Array Value)
    (hp : tmps.getD p undef = .pointer (some ⟨g, 0, none⟩)) (hl : (loadVar ty ⟨g, 0, none⟩).run Tryz.prog w = .ok (.agg cs) w) :
    (results fn tmps).run Tryz.prog w = .ok (.tuple #[.agg cs, tmps.getD u undef]) w := by
  rw [results_cell_tmp h, hp]
  simp only [asAddr, Sem.run_pure, Result.andThen]
  rw [hl]
theorem res_cell_cell {fn : Func} {p q : Tmp} {ty ty2 : TypeId} (h : fn.results = #[.cell p ty, .cell q ty2]) (tmps : Array Value) (w : World) (g g2 : Nat) (cs cs2 : Array Value)
    (hp : tmps.getD p undef = .pointer (some ⟨g, 0, none⟩)) (hl : (loadVar ty ⟨g, 0, none⟩).run Tryz.prog w = .ok (.agg cs) w)
    (hp2 : tmps.getD q undef = .pointer (some ⟨g2, 0, none⟩)) (hl2 : (loadVar ty2 ⟨g2, 0, none⟩).run Tryz.prog w = .ok (.agg cs2) w) :
    (results fn tmps).run Tryz.prog w = .ok (.tuple #[.agg cs, .agg cs2]) w := by
  have hp' : tmps[p]?.getD undef = .pointer (some ⟨g, 0, none⟩) := by simpa using hp
  have hp2' : tmps[q]?.getD undef = .pointer (some ⟨g2, 0, none⟩) := by simpa using hp2
  simp [results, h, hp', hp2', asAddr, hl, hl2]
theorem load_tok {w : World} {g : Nat} {cs : Array Value} (hg : Blk w g 132 cs) (hc : cs.size = 5) : (loadVar 132 ⟨g, 0, none⟩).run Tryz.prog w = .ok (.agg cs) w :=
  run_loadVar_row (P := Tryz.prog) w g 132 132 cs (0, 0) _ hg Tryz.underlying132 rfl (by rw [hc]; kernel_rfl)
theorem load_fault {w : World} {g : Nat} {cs : Array Value} (hg : Blk w g 43 cs) (hc : cs.size = 3) : (loadVar 43 ⟨g, 0, none⟩).run Tryz.prog w = .ok (.agg cs) w :=
  run_loadVar_row (P := Tryz.prog) w g 43 43 cs (0, 0) _ hg Tryz.underlying43 rfl (by rw [hc]; kernel_rfl)
theorem tok_one (kind : Nat) (x : ByteArray) (v l c : Nat) : (tokC kind x v l c).all (·.oneCell') = true := by
  rw [← Array.all_toList]; rfl
theorem tok_size (n : Nat) (h : n = 5) : (Tryz.prog.info? 132).map (·.size) = some n := by rw [h]; kernel_rfl
theorem row_put {w : World} {B : Nat} {t : TypeId} {cs cs' : Array Value} (h : Blk w B t cs) : Blk (w.setRow B cs') B t cs' := setRow_heap w B cs cs' t (0, 0) h
theorem row_far {w : World} {B g : Nat} {t : TypeId} {cs cs' : Array Value} (h : Blk w g t cs) (hne : g ≠ B) : Blk (w.setRow B cs') g t cs := (setRow_other w B g cs' hne).trans h
theorem Only.setRow {X g : Nat} {a w : World} (h : Only X a w) (hg : a.heap.size ≤ g) (cs : Array Value) : Only X a (w.setRow g cs) :=
  ⟨h.os, h.tape, h.output, Nat.le_trans h.size (by simp [World.setRow]), fun i hi hn => (setRow_other w g i cs (by omega)).trans (h.block i hi hn)⟩
theorem Cur.row {w : World} {X g : Nat} {p : Nat × Nat} {s : ByteArray} {k : Nat} {cs : Array Value} (h : Cur w X p s k) (hg : X ≠ g) : Cur (w.setRow g cs) X p s k := ⟨row_far h.1 hg, h.2⟩
theorem Only.kept {X g : Nat} {w w' : World} {t : TypeId} {cs : Array Value} (h : Only X w w') (hb : Blk w g t cs) (hg : g ≠ X) : Blk w' g t cs :=
  (h.block g hb.lt (by intro e; injection e with e; exact hg e)).trans hb
theorem piece_none (s : ByteArray) (p : Nat × Nat) (k : Nat) : placeFrom p (piece s k k) = p := by rw [piece_self]; rfl
theorem Cur.only {w w' : World} {X : Nat} {p : Nat × Nat} {s : ByteArray} {k : Nat} (h : Cur w X p s k) (hb : Below w.heap.size w w') : Cur w' X p s k := ⟨h.1.below hb h.1.lt, h.2⟩
/-- A result's cell behind the cursor's own: written. -/
theorem cur_set {w : World} {X g : Nat} {p : Nat × Nat} {s : ByteArray} {k : Nat} (h : Cur w X p s k) (hg : X ≠ g) (i : Nat) (u : Value) : Cur (w.setCell ⟨g, i, none⟩ u) X p s k := ⟨h.1.far hg u, h.2⟩

theorem end_calls (X : Nat) (w : World) (p : Nat × Nat) (s : ByteArray) (k : Nat) (h : Cur w X p s k) :
    Calls Tryz.prog 245 #[.pointer (some ⟨X, 0, none⟩)] w (MethV X p s k (.tok 0 [] 0 k) w) := by
  have H := hide h
  clear h
  go_enter Tryz.func245, Tryz.ntmps245
  go_wp2
  refine bodyPost_ret (res_cell_tmp (p := 2) (u := 3) rfl _ _ w.heap.size _ rfl (load_tok (Blk.new w 132 (tokC 0 ⟨#[]⟩ 0 0 0)) rfl)) rfl ⟨rfl, ?_, ?_⟩
  · rw [piece_none]
    exact H.out.only ((Below.refl _ w).alloc (Nat.le_refl _) _)
  · exact (Only.refl _ _).alloc _

set_option maxHeartbeats 1000000 in
theorem word_calls (X : Nat) (w : World) (p : Nat × Nat) (s : ByteArray) (k n : Nat) (hn : n = runLen isLet (s.data.toList.drop k)) (h : Cur w X p s k) :
    Calls Tryz.prog 247 #[.pointer (some ⟨X, 0, none⟩)] w (MethV X p s k (.tok 1 ((s.data.toList.drop k).take n) 0 (k + n)) w) := by
  have h1 := fun W hC => while_let X W p s k hC
  rw [← hn] at h1
  have H := hide h
  have hX := h.lt
  obtain ⟨x, hx⟩ : ∃ x, x = s.extract k (k + n) := ⟨_, rfl⟩
  have hpc := hide (show x = ⟨((s.data.toList.drop k).take n).toArray⟩ from by
    rw [hx]
    apply ByteArray.ext
    have h2 := extract_piece s k (k + n)
    unfold piece at h2
    rw [Nat.add_sub_cancel_left] at h2
    rw [← h2])
  unfold WhileV at h1
  rw [← hx] at h1
  obtain ⟨J, hJ⟩ : ∃ J, J = k + n := ⟨_, rfl⟩
  rw [← hJ] at h1 ⊢
  have H1 := hide h1
  clear h h1 hx hn hJ
  go_enter Tryz.func247, Tryz.ntmps247
  go_wp2_with (first
    | (go_at_call 241; refine (H1.out _ (H.out.only ((Below.refl _ w).alloc (Nat.le_refl _) _))).mono ?_; rintro e w2 ⟨rfl, hC2, hO2⟩; have hR2 := hO2.kept (Blk.new w 132 (tokC 0 ⟨#[]⟩ 0 0 0)) (by omega); have HC2 := hide hC2; have HO2 := hide hO2; have HR2 := hide hR2; clear hC2 hO2 hR2)
    | (refine wpList_store_row rfl 132 (.tmp 2) (.tmp 6) rfl w.heap.size (tokC 1 x 0 0 0) rfl rfl 132 (tokC 0 ⟨#[]⟩ 0 0 0) HR2.out (tok_size _ rfl) rfl (tok_one _ _ _ _ _) ?_))
  refine bodyPost_ret (res_cell_tmp (p := 2) (u := 3) rfl _ _ w.heap.size _ rfl (load_tok (row_put HR2.out) rfl)) rfl ⟨?_, HC2.out.row (by omega), ((((Only.refl X w).alloc _).trans HO2.out).setRow (Nat.le_refl _) _)⟩
  rw [hpc.out]; rfl

set_option maxHeartbeats 1000000 in
theorem number_calls (X : Nat) (w : World) (p : Nat × Nat) (s : ByteArray) (k n : Nat) (hn : n = runLen isAl (s.data.toList.drop k)) (h : Cur w X p s k) (hv : Vars w) (hgl : GLow X) :
    Calls Tryz.prog 249 #[.pointer (some ⟨X, 0, none⟩)] w (MethV X p s k (match parseN ((s.data.toList.drop k).take n) with | some v => .tok 2 ((s.data.toList.drop k).take n) v (k + n) | none => .bad 5) w) := by
  have h1 := fun W hC => while_al X W p s k hC
  rw [← hn] at h1
  have H := hide h
  have hX := h.lt
  have HV := hide hv
  obtain ⟨x, hx⟩ : ∃ x, x = s.extract k (k + n) := ⟨_, rfl⟩
  have hxd : x.data.toList = (s.data.toList.drop k).take n := by
    rw [hx]
    have h2 := extract_piece s k (k + n)
    unfold piece at h2
    rwa [Nat.add_sub_cancel_left] at h2
  have hpc := hide (show x = ⟨((s.data.toList.drop k).take n).toArray⟩ from by
    apply ByteArray.ext
    rw [← hxd])
  have hxs : x.size ≤ 100000000000000 := by
    have h9 := h.2.2.2.2
    have h1 := Lib.size_eq x
    have h2 := Lib.size_eq s
    rw [h1, hxd, List.length_take, List.length_drop]; omega
  have hP := fun W hV => Parse_calls x hxs W hV
  rw [hxd] at hP
  unfold WhileV at h1
  rw [← hx] at h1
  obtain ⟨J, hJ⟩ : ∃ J, J = k + n := ⟨_, rfl⟩
  rw [← hJ] at h1 ⊢
  unfold FoldV at hP
  have HVX := hide (fun (W : World) (hO : Only X (w.alloc (.cells (tokC 0 ⟨#[]⟩ 0 0 0) 132)) W) => (HV.out.below ((Below.refl _ w).alloc (Nat.le_refl _) _)).only hgl (hO.below (by simp; omega)))
  clear hgl
  cases hr : parseN ((s.data.toList.drop k).take n) with
  | none =>
    rw [hr, optV] at hP
    have H1 := hide h1
    have HP := hide hP
    clear h h1 hP hx hn hJ hr hxd hv hxs
    go_enter Tryz.func249, Tryz.ntmps249
    go_wp2_with (first
      | (go_at_call 241; refine (H1.out _ (H.out.only ((Below.refl _ w).alloc (Nat.le_refl _) _))).mono ?_; rintro e w2 ⟨rfl, hC2, hO2⟩; have hR2 := hO2.kept (Blk.new w 132 (tokC 0 ⟨#[]⟩ 0 0 0)) (by omega); have HC2 := hide hC2; have HO2 := hide hO2; have HR2 := hide hR2; clear hC2 hO2 hR2)
      | (go_at_call 278; refine (HP.out _ (HVX.out _ HO2.out)).mono ?_; rintro e w3 ⟨rfl, hb3⟩; have HB3 := hide hb3; have HR3 := hide (HR2.out.below hb3 HR2.out.lt); clear hb3)
      | (refine wpList_store_row rfl 132 (.tmp 2) (.tmp 16) rfl w.heap.size (tokC 0 ⟨#[]⟩ 0 0 0) rfl rfl 132 (tokC 0 ⟨#[]⟩ 0 0 0) HR3.out (tok_size _ rfl) rfl (tok_one _ _ _ _ _) ?_))
    refine bodyPost_ret (res_cell_tmp (p := 2) (u := 3) rfl _ _ w.heap.size _ rfl (load_tok (row_put HR3.out) rfl)) rfl ⟨rfl, ?_⟩
    exact ((((Only.refl X w).alloc _).trans HO2.out).trans (Only.of_below HB3.out)).setRow (Nat.le_refl _) _
  | some v =>
    rw [hr, optV] at hP
    have H1 := hide h1
    have HP := hide hP
    clear h h1 hP hx hn hJ hr hxd hv hxs
    go_enter Tryz.func249, Tryz.ntmps249
    go_wp2_with (first
      | (go_at_call 241; refine (H1.out _ (H.out.only ((Below.refl _ w).alloc (Nat.le_refl _) _))).mono ?_; rintro e w2 ⟨rfl, hC2, hO2⟩; have hR2 := hO2.kept (Blk.new w 132 (tokC 0 ⟨#[]⟩ 0 0 0)) (by omega); have HC2 := hide hC2; have HO2 := hide hO2; have HR2 := hide hR2; clear hC2 hO2 hR2)
      | (go_at_call 278; refine (HP.out _ (HVX.out _ HO2.out)).mono ?_; rintro e w3 ⟨rfl, hb3⟩; have HB3 := hide hb3; have HR3 := hide (HR2.out.below hb3 HR2.out.lt); clear hb3)
      | (refine wpList_store_row rfl 132 (.tmp 2) (.tmp 19) rfl w.heap.size (tokC 2 x v 0 0) rfl rfl 132 (tokC 0 ⟨#[]⟩ 0 0 0) HR3.out (tok_size _ rfl) rfl (tok_one _ _ _ _ _) ?_))
    refine bodyPost_ret (res_cell_tmp (p := 2) (u := 3) rfl _ _ w.heap.size _ rfl (load_tok (row_put HR3.out) rfl)) rfl ⟨?_, (HC2.out.only HB3.out).row (by omega), ((((Only.refl X w).alloc _).trans HO2.out).trans (Only.of_below HB3.out)).setRow (Nat.le_refl _) _⟩
    rw [hpc.out]; rfl
end Go.Proofs.YtcnihmlmaigkdaaGreatDoor
namespace Go.Proofs.YtcnihmlmaigkdaaGreatDoor
open Go.RowKit Go.Lib

theorem scanV_form (r : List UInt8 × Nat × Nat) : scanV r = .tuple #[.string ⟨r.1.toArray⟩, .int .i64 (r.2.1 : Int), .int .i64 (r.2.2 : Int)] := rfl
theorem undrew {w w' : World} (h : Below w.drew.heap.size w.drew w') : Below w.heap.size w w' := ⟨h.os, h.tape, h.output, h.size, h.block⟩
theorem held_cells {w w' : World} {X : Nat} {v2 v3 : Value} (hX : X < w.heap.size) (h : w.cell? ⟨X, 2, none⟩ = some v2 ∧ w.cell? ⟨X, 3, none⟩ = some v3) (hb : Below w.heap.size w w') :
    w'.cell? ⟨X, 2, none⟩ = some v2 ∧ w'.cell? ⟨X, 3, none⟩ = some v3 := ⟨(hb.cell (p := ⟨X, 2, none⟩) hX).trans h.1, (hb.cell (p := ⟨X, 3, none⟩) hX).trans h.2⟩

set_option maxHeartbeats 1000000 in
theorem name_calls (X : Nat) (w : World) (p : Nat × Nat) (s : ByteArray) (k : Nat) (h : Cur w X p s k) :
    Calls Tryz.prog 250 #[.pointer (some ⟨X, 0, none⟩)] w (MethV X p s k (if (scanR s (k : Int)).2.2 = 0 then .tok 3 (scanR s (k : Int)).1 0 (scanR s (k : Int)).2.1 else .bad 6) w) := by
  have hX := h.lt
  have hS := fun W => Scan_calls s (k : Int) W h.2.2.2.2
  have hst := scanR_stop s k
  obtain ⟨R, hR⟩ : ∃ R, R = scanR s (k : Int) := ⟨_, rfl⟩
  rw [← hR] at hS hst ⊢
  obtain ⟨x, n, c⟩ := R
  simp only at hst
  have hsz := h.2.2.2.2
  have hks := h.2.2.2.1
  have H0 := hide (h.only ((Below.refl _ w).alloc (Nat.le_refl _) (.cells (tokC 0 ⟨#[]⟩ 0 0 0) 132)))
  have HT := hide (Blk.new w 132 (tokC 0 ⟨#[]⟩ 0 0 0))
  obtain ⟨_, _, c2, c3⟩ := H0.out.cells
  have hX1 : X < (w.alloc (.cells (tokC 0 ⟨#[]⟩ 0 0 0) 132)).heap.size := by simp; omega
  obtain ⟨X8, hX8⟩ : ∃ X8 : ByteArray, X8 = ⟨x.toArray⟩ := ⟨_, rfl⟩
  have hS2 : ∀ W, Calls Tryz.prog 279 #[.string s, .int .i64 (k : Int)] W fun e w' => e = .returned (.tuple #[.string X8, .int .i64 (n : Int), .int .i64 (c : Int)]) ∧ Below W.heap.size W w' := fun W => by
    have h1 := hS W
    rw [scanV_form] at h1
    rw [hX8]; exact h1
  have HS := hide hS2
  by_cases hc : c = 0
  · subst hc
    rw [if_pos rfl]
    obtain ⟨hs1, hs2⟩ := hst rfl
    have HX8 := hide hX8
    clear hS hS2 hR hst h hX8
    go_enter Tryz.func250, Tryz.ntmps250
    go_wp2_with fail
    go_region_held3 (fun W => W.cell? ⟨X, 2, none⟩ = some (.string s) ∧ W.cell? ⟨X, 3, none⟩ = some (.int .i64 (k : Int))) (first | assumption | exact ⟨c2, c3⟩ | exact held_cells hX1 ⟨c2, c3⟩ hb2)
      (first | (go_at_call 279; refine (HS.out _).mono ?_; rintro e w2 ⟨rfl, hbq⟩; have hb2 := undrew hbq; clear hbq))
    have HC2 := hide (H0.out.only hb2)
    have HT2 := hide (HT.out.below hb2 HT.out.lt)
    have HB2 := hide hb2
    clear hb2
    go_wp2
    go_loopw [23] (fun _ wr => ∃ m : Nat, k ≤ m ∧ m ≤ n ∧ Hid (Cur wr X (placeFrom p (piece s k m)) s m ∧ Blk wr w.heap.size 132 (tokC 0 ⟨#[]⟩ 0 0 0) ∧ Only X w wr)) (fun _ wr => s.size - atOf wr X)
    case atStart => exact ⟨k, Nat.le_refl _, by omega, by rw [piece_self]; exact HC2.out, HT2.out, ((Only.refl X w).alloc _).trans (Only.of_below HB2.out)⟩
    case round =>
      obtain ⟨m, hkm, hmn, hH⟩ := hrel
      obtain ⟨_, _, d2, d3⟩ := hH.out.1.cells
      by_cases hlt : m < n
      · have hms : m < s.size := by omega
        have hpl := place_next s p k m hkm hms
        have hst := fun W (hC : Cur W X (placeFrom p (piece s k m)) s m) => step_calls X W (placeFrom p (piece s k m)) s m hms hC
        rw [hpl] at hst
        have HST := hide hst
        clear hst hpl
        go_wp2_with (go_at_call 276; refine (HST.out _ hH.out.1).mono ?_; rintro e w3 ⟨rfl, hC3, hO3⟩; have HC3 := hide hC3; have HT3 := hide (hO3.kept hH.out.2.1 (by omega)); have HO3 := hide (hH.out.2.2.trans hO3); clear hC3 hO3)
        go_roundw
        case rel => first | exact ⟨m + 1, by omega, by omega, HC3.out, HT3.out, HO3.out⟩ | ((repeat apply Exists.intro); exact ⟨⟨m + 1, by omega, by omega, HC3.out, HT3.out, HO3.out⟩, rfl⟩)
        case measure => rw [HC3.out.atOf, hH.out.1.atOf]; omega
      · obtain rfl : m = n := by omega
        go_wp2_with (refine wpList_store_row rfl 132 (.tmp 2) (.tmp 32) rfl w.heap.size (tokC 3 X8 0 0 0) rfl rfl 132 (tokC 0 ⟨#[]⟩ 0 0 0) hH.out.2.1 (tok_size _ rfl) rfl (tok_one _ _ _ _ _) ?_)
        refine bodyPost_ret (res_cell_tmp (p := 2) (u := 3) rfl _ _ w.heap.size _ rfl (load_tok (row_put hH.out.2.1) rfl)) rfl ⟨?_, hH.out.1.row (by omega), hH.out.2.2.setRow (Nat.le_refl _) _⟩
        rw [HX8.out]; rfl
  · rw [if_neg hc]
    have hc1 : ((c : Int) == 0) = false := by simp; omega
    have hc2 : ((c : Int) != 0) = true := by rw [bne, hc1]; rfl
    clear hS hS2 hR hst h hX8 hc
    go_enter Tryz.func250, Tryz.ntmps250
    go_wp2_with fail
    go_region_held3 (fun W => W.cell? ⟨X, 2, none⟩ = some (.string s) ∧ W.cell? ⟨X, 3, none⟩ = some (.int .i64 (k : Int))) (first | assumption | exact ⟨c2, c3⟩ | exact held_cells hX1 ⟨c2, c3⟩ hb2)
      (first | (go_at_call 279; refine (HS.out _).mono ?_; rintro e w2 ⟨rfl, hbq⟩; have hb2 := undrew hbq; clear hbq))
    have HT2 := hide (HT.out.below hb2 HT.out.lt)
    have HB2 := hide hb2
    clear hb2
    go_wp2_with (refine wpList_store_row rfl 132 (.tmp 2) (.tmp 22) rfl w.heap.size (tokC 0 ⟨#[]⟩ 0 0 0) rfl rfl 132 (tokC 0 ⟨#[]⟩ 0 0 0) HT2.out (tok_size _ rfl) rfl (tok_one _ _ _ _ _) ?_)
    refine bodyPost_ret (res_cell_tmp (p := 2) (u := 3) rfl _ _ w.heap.size _ rfl (load_tok (row_put HT2.out) rfl)) rfl ⟨rfl, ?_⟩
    exact (((Only.refl X w).alloc _).trans (Only.of_below HB2.out)).setRow (Nat.le_refl _) _
end Go.Proofs.YtcnihmlmaigkdaaGreatDoor
namespace Go.Proofs.YtcnihmlmaigkdaaGreatDoor
open Go.RowKit Go.Lib

theorem sign_index : ∀ c : UInt8, decide (0 ≤ Lib.indexByte [123, 125, 59, 44] c) = isSign c := by
  have h : ∀ k : Fin 256, decide (0 ≤ Lib.indexByte [123, 125, 59, 44] (UInt8.ofNat k.val)) = isSign (UInt8.ofNat k.val) := by decide +kernel
  intro c
  have h2 := h ⟨c.toNat, UInt8.toNat_lt c⟩
  rwa [show UInt8.ofNat (⟨c.toNat, UInt8.toNat_lt c⟩ : Fin 256).val = c from UInt8.ofNat_toNat] at h2
theorem contains_sign (c : UInt8) (w : World) : Calls Tryz.prog 280 #[.string ⟨#[123, 125, 59, 44]⟩, .string ⟨#[c]⟩] w fun e w' => e = .returned (.bool (isSign c)) ∧ w' = w := by
  have h := Tryz.strings_Contains_one ⟨#[123, 125, 59, 44]⟩ c w
  have e : (⟨#[123, 125, 59, 44]⟩ : ByteArray).data.toList = [123, 125, 59, 44] := rfl
  rw [e, sign_index] at h
  exact h
theorem extract_byte (s : ByteArray) (k : Nat) (hk : k < s.size) : s.extract k (k + 1) = ⟨#[s[k]]⟩ := by
  apply ByteArray.ext
  apply Array.toList_inj.1
  have h2 := extract_piece s k (k + 1)
  rw [piece_succ s k k (Nat.le_refl _) hk, piece_self] at h2
  exact h2

set_option maxHeartbeats 1000000 in
theorem sign_calls (X : Nat) (w : World) (p : Nat × Nat) (s : ByteArray) (k : Nat) (hk : k < s.size) (h : Cur w X p s k) :
    Calls Tryz.prog 251 #[.pointer (some ⟨X, 0, none⟩)] w (MethV X p s k (if isSign s[k] = true then .tok 4 [s[k]] 0 (k + 1) else .bad 3) w) := by
  have hX := h.lt
  have hsz := h.2.2.2.2
  have H0 := hide (h.only ((Below.refl _ w).alloc (Nat.le_refl _) (.cells (tokC 0 ⟨#[]⟩ 0 0 0) 132)))
  have HT := hide (Blk.new w 132 (tokC 0 ⟨#[]⟩ 0 0 0))
  obtain ⟨_, _, c2, c3⟩ := h.cells
  have hst := fun W (hC : Cur W X p s k) => step_calls X W p s k hk hC
  have hpl : pass p s[k] = placeFrom p (piece s k (k + 1)) := by
    have := place_next s p k k (Nat.le_refl _) hk
    rwa [piece_none] at this
  rw [hpl] at hst
  have hex := extract_byte s k hk
  obtain ⟨c, hc⟩ : ∃ c, c = s[k] := ⟨_, rfl⟩
  rw [← hc] at hex ⊢
  obtain ⟨q, hq⟩ : ∃ q, q = k + 1 := ⟨_, rfl⟩
  rw [← hq] at hex hst ⊢
  have hw : IntKind.i64.wrap ((k : Int) + 1) = (q : Int) := by rw [IntKind.wrap_i64]; omega
  have hkq : (k : Int) ≤ (q : Int) := by omega
  have hqs : (q : Int) ≤ (s.size : Int) := by omega
  have hcon := fun W => contains_sign c W
  have HST := hide hst
  cases hsg : isSign c
  · rw [if_neg (by decide)]
    rw [hsg] at hcon
    have HCON := hide hcon
    clear hst hpl hc hq hcon hsg h
    go_enter Tryz.func251, Tryz.ntmps251
    go_wp2_with fail
    go_quiet (fail)
    go_wp2_with (first
      | (go_at_call 280; refine (HCON.out _).mono ?_; rintro e w2 ⟨rfl, rfl⟩)
      | (refine wpList_store_row rfl 132 (.tmp 2) (.tmp 22) rfl w.heap.size (tokC 0 ⟨#[]⟩ 0 0 0) rfl rfl 132 (tokC 0 ⟨#[]⟩ 0 0 0) (HT.out.drewN nq) (tok_size _ rfl) rfl (tok_one _ _ _ _ _) ?_))
    refine bodyPost_ret (res_cell_tmp (p := 2) (u := 3) rfl _ _ w.heap.size _ rfl (load_tok (row_put (HT.out.drewN nq)) rfl)) rfl ⟨rfl, ?_⟩
    exact (((Only.refl X w).alloc _).drewN nq).setRow (Nat.le_refl _) _
  · rw [if_pos rfl]
    rw [hsg] at hcon
    have HCON := hide hcon
    have HQ := hide hq
    clear hst hpl hc hq hcon hsg h
    go_enter Tryz.func251, Tryz.ntmps251
    go_wp2_with fail
    go_quiet (fail)
    go_wp2_with (first
      | (go_at_call 280; refine (HCON.out _).mono ?_; rintro e w2 ⟨rfl, rfl⟩)
      | (go_at_call 276; refine (HST.out _ (H0.out.drewN nq)).mono ?_; rintro e w3 ⟨rfl, hC3, hO3⟩; have HC3 := hide hC3; have HT3 := hide (hO3.kept (HT.out.drewN nq) (by omega)); have HO3 := hide hO3; clear hC3 hO3)
      | (refine wpList_store_row rfl 132 (.tmp 2) (.tmp 26) rfl w.heap.size (tokC 4 ⟨#[c]⟩ 0 0 0) rfl rfl 132 (tokC 0 ⟨#[]⟩ 0 0 0) HT3.out (tok_size _ rfl) rfl (tok_one _ _ _ _ _) ?_))
    refine bodyPost_ret (res_cell_tmp (p := 2) (u := 3) rfl _ _ w.heap.size _ rfl (load_tok (row_put HT3.out) rfl)) rfl ⟨rfl, HC3.out.row (by omega), ?_⟩
    exact ((((Only.refl X w).alloc _).drewN nq).trans HO3.out).setRow (Nat.le_refl _) _

/-- The function that reader picks. -/
def pick (s : ByteArray) (k : Nat) : Nat :=
  match s.data.toList.drop k with
  | [] => 245
  | c :: _ => if isLet c = true then 247 else if isDig c = true then 249 else if c = 34 then 250 else 251
set_option maxHeartbeats 1000000 in
theorem reader_calls (X : Nat) (w : World) (p : Nat × Nat) (s : ByteArray) (k : Nat) (h : Cur w X p s k) :
    Calls Tryz.prog 193 #[.pointer (some ⟨X, 0, none⟩)] w fun e w' => e = .returned (.func (.func (pick s k)) #[.pointer (some ⟨X, 0, none⟩)] #[]) ∧ ∃ n, w' = w.drewN n := by
  obtain ⟨_, _, c2, c3⟩ := h.cells
  have hsz := h.2.2.2.2
  have hks := h.2.2.2.1
  clear h
  by_cases hk : k < s.size
  · have he : ((k : Int) == (s.size : Int)) = false := by simp; omega
    have hi : (k : Int) < (s.size : Int) := by omega
    have hdrop := at_data s k hk
    obtain ⟨c, hc⟩ : ∃ c, c = s[k] := ⟨_, rfl⟩
    have hck : ((s[k].toNat : Nat) : Int) = ((c.toNat : Nat) : Int) := by rw [hc]
    rw [← hc] at hdrop
    have hpk : pick s k = if isLet c = true then 247 else if isDig c = true then 249 else if c = 34 then 250 else 251 := by unfold pick; rw [hdrop]
    have hL := fun W => isLetter_calls c W
    have hD := fun W => isDigit_calls c W
    cases h1 : isLet c
    · rw [h1] at hL hpk
      cases h2 : isDig c
      · rw [h2] at hD hpk
        by_cases h3 : c = 34
        · rw [if_neg (by decide), if_neg (by decide), if_pos h3] at hpk
          have hb : ((c.toNat : Int) == 34) = true := by rw [h3]; rfl
          rw [hpk]
          have HL := hide hL
          have HD := hide hD
          clear hL hD hpk h1 h2 h3 hdrop hc
          go_enter Tryz.func193, Tryz.ntmps193
          go_wp2_with fail
          go_quiet (fail)
          go_wp2_with fail
          go_quiet (fail)
          go_wp2_with (first | (go_at_call 246; refine (HL.out _).mono ?_; rintro e w' ⟨rfl, rfl⟩) | (go_at_call 248; refine (HD.out _).mono ?_; rintro e w' ⟨rfl, rfl⟩))
          go_ret
          exact ⟨rfl, _, rfl⟩
        · rw [if_neg (by decide), if_neg (by decide), if_neg h3] at hpk
          have hb : ((c.toNat : Int) == 34) = false := by
            have : c.toNat ≠ 34 := fun e => h3 (UInt8.toNat_inj.1 (by rw [e]; rfl))
            simp; omega
          rw [hpk]
          have HL := hide hL
          have HD := hide hD
          clear hL hD hpk h1 h2 h3 hdrop hc
          go_enter Tryz.func193, Tryz.ntmps193
          go_wp2_with fail
          go_quiet (fail)
          go_wp2_with fail
          go_quiet (fail)
          go_wp2_with (first | (go_at_call 246; refine (HL.out _).mono ?_; rintro e w' ⟨rfl, rfl⟩) | (go_at_call 248; refine (HD.out _).mono ?_; rintro e w' ⟨rfl, rfl⟩))
          go_ret
          exact ⟨rfl, _, rfl⟩
      · rw [h2] at hD hpk
        rw [if_neg (by decide), if_pos rfl] at hpk
        rw [hpk]
        have HL := hide hL
        have HD := hide hD
        clear hL hD hpk h1 h2 hdrop hc
        go_enter Tryz.func193, Tryz.ntmps193
        go_wp2_with fail
        go_quiet (fail)
        go_wp2_with fail
        go_quiet (fail)
        go_wp2_with (first | (go_at_call 246; refine (HL.out _).mono ?_; rintro e w' ⟨rfl, rfl⟩) | (go_at_call 248; refine (HD.out _).mono ?_; rintro e w' ⟨rfl, rfl⟩))
        go_ret
        exact ⟨rfl, _, rfl⟩
    · rw [h1] at hL hpk
      rw [if_pos rfl] at hpk
      rw [hpk]
      have HL := hide hL
      have HD := hide hD
      clear hL hD hpk h1 hdrop hc
      go_enter Tryz.func193, Tryz.ntmps193
      go_wp2_with fail
      go_quiet (fail)
      go_wp2_with fail
      go_quiet (fail)
      go_wp2_with (first | (go_at_call 246; refine (HL.out _).mono ?_; rintro e w' ⟨rfl, rfl⟩) | (go_at_call 248; refine (HD.out _).mono ?_; rintro e w' ⟨rfl, rfl⟩))
      go_ret
      exact ⟨rfl, _, rfl⟩
  · have hpk : pick s k = 245 := by
      unfold pick
      rw [List.drop_of_length_le (by have := Lib.size_eq s; omega)]
    have he : ((k : Int) == (s.size : Int)) = true := by simp; omega
    rw [hpk]
    clear hpk
    go_enter Tryz.func193, Tryz.ntmps193
    go_wp2_with fail
    go_quiet (fail)
    go_wp2_with fail
    go_ret
    exact ⟨rfl, _, rfl⟩
end Go.Proofs.YtcnihmlmaigkdaaGreatDoor
namespace Go.Proofs.YtcnihmlmaigkdaaGreatDoor
open Go.RowKit Go.Lib

def faultC (code line col : Nat) : Array Value := #[.int .i64 (code : Int), .int .i64 (line : Int), .int .i64 (col : Int)]
theorem fault_one (c l k : Nat) : (faultC c l k).all (·.oneCell') = true := by rw [← Array.all_toList]; rfl
theorem fault_size (n : Nat) (h : n = 3) : (Tryz.prog.info? 43).map (·.size) = some n := by rw [h]; kernel_rfl
/-- Behind next: the token with its place, or the fault. -/
def NextT (X : Nat) (p : Nat × Nat) (s : ByteArray) (k : Nat) (P : Nat × Nat) (T : Tk) (w : World) (e : Ending) (w' : World) : Prop :=
  match T with
  | .tok kind text v stop => e = .returned (.tuple #[.agg (tokC kind ⟨text.toArray⟩ v P.1 P.2), .agg (faultC 0 0 0)]) ∧ Cur w' X (placeFrom p (piece s k stop)) s stop ∧ Only X w w'
  | .bad code => e = .returned (.tuple #[.agg (tokC 0 ⟨#[]⟩ 0 0 0), .agg (faultC code P.1 P.2)]) ∧ Only X w w'
theorem place_load {w : World} {X : Nat} {p : Nat × Nat} {s : ByteArray} {k : Nat} (h : Cur w X p s k) :
    (loadVar 200 ⟨X, 0, none⟩).run Tryz.prog w = .ok (.agg #[.int .i64 (p.1 : Int), .int .i64 (p.2 : Int)]) w :=
  run_loadVar_mid w X 0 200 [.int .i64 (p.1 : Int), .int .i64 (p.2 : Int)] _
    (fun j v hv => by
      obtain ⟨c0, c1, _, _⟩ := h.cells
      match j with
      | 0 => simp at hv; subst hv; exact c0
      | 1 => simp at hv; subst hv; exact c1
      | j + 2 => simp at hv)
    Tryz.underlying200 rfl (by kernel_rfl)

theorem place_range {w : World} {X : Nat} {p : Nat × Nat} {s : ByteArray} {k : Nat} (h : Cur w X p s k) : w.rangeAt X 0 [.int .i64 (p.1 : Int), .int .i64 (p.2 : Int)] := fun j v hv => by
  obtain ⟨c0, c1, _, _⟩ := h.cells
  match j with
  | 0 => simp at hv; subst hv; exact c0
  | 1 => simp at hv; subst hv; exact c1
  | j + 2 => simp at hv
def zTok : Array Value := tokC 0 ⟨#[]⟩ 0 0 0
def plA (P : Nat × Nat) : Array Value := #[.int .i64 (P.1 : Int), .int .i64 (P.2 : Int)]
/-- What stands while next runs: the two cells of its results, B and B + 1; the kept place, g. -/
def Held (X B : Nat) (w W : World) : Prop := Blk W B 132 zTok ∧ Blk W (B + 1) 43 (faultC 0 0 0) ∧ Only X w W
theorem Held.next {X B : Nat} {w W W' : World} (h : Held X B w W) (hX : X < B) (hO : Only X W W') : Held X B w W' := ⟨hO.kept h.1 (by omega), hO.kept h.2.1 (by omega), h.2.2.trans hO⟩
theorem Cur.put {w : World} {X g : Nat} {p : Nat × Nat} {s : ByteArray} {k : Nat} (h : Cur w X p s k) (hg : X < g) (i : Nat) (u : Value) : Cur (w.setCell ⟨g, i, none⟩ u) X p s k := cur_set h (Nat.ne_of_lt hg) i u
theorem Held.put {X B g : Nat} {w W : World} (h : Held X B w W) (hB : B = w.heap.size) (hg : B + 1 < g) (i : Nat) (u : Value) : Held X B w (W.setCell ⟨g, i, none⟩ u) :=
  ⟨h.1.far (by show B ≠ g; omega) u, h.2.1.far (by show B + 1 ≠ g; omega) u, only_setCell h.2.2 (.inr (by show _ ≤ g; omega)) u⟩
theorem Held.drew {X B : Nat} {w W : World} (h : Held X B w W) : Held X B w W.drew := ⟨h.1.drew, h.2.1.drew, h.2.2.drew⟩
theorem Held.lt {X B : Nat} {w W : World} (h : Held X B w W) : B + 1 < W.heap.size := h.2.1.lt
theorem Held.init (X : Nat) (w : World) : Held X w.heap.size w ((w.alloc (.cells (tokC 0 ⟨#[]⟩ 0 0 0) 132)).alloc (.cells (faultC 0 0 0) 43)) :=
  ⟨(Blk.new w _ _).alloc _, by have := Blk.new (w.alloc (.cells (tokC 0 ⟨#[]⟩ 0 0 0) 132)) 43 (faultC 0 0 0); simpa using this, ((Only.refl X w).alloc _).alloc _⟩

end Go.Proofs.YtcnihmlmaigkdaaGreatDoor
namespace Go.Proofs.YtcnihmlmaigkdaaGreatDoor
open Go.RowKit Go.Lib

set_option maxHeartbeats 4000000 in
theorem next_end (X : Nat) (w : World) (p : Nat × Nat) (s : ByteArray) (k J : Nat) (P : Nat × Nat) (T : Tk) (h : Cur w X p s k) (hJ : J = skipAt s k) (hP : P = placeFrom p (piece s k J))
    (hpk : pick s J = 245) (hT : ∀ code, T = .bad code → code ≠ 0)
    (hM : ∀ W, Cur W X P s J → Only X w W → Calls Tryz.prog 245 #[.pointer (some ⟨X, 0, none⟩)] W (MethV X P s J T W))
    (hS : ∀ kind text v stop, T = .tok kind text v stop → placeFrom P (piece s J stop) = placeFrom p (piece s k stop)) :
    Calls Tryz.prog 130 #[.pointer (some ⟨X, 0, none⟩)] w (NextT X p s k P T w) := by
  have hX := h.lt
  have H0 := hide (h.only (((Below.refl w.heap.size w).alloc (Nat.le_refl _) (.cells (tokC 0 ⟨#[]⟩ 0 0 0) 132)).alloc (by simp) (.cells (faultC 0 0 0) 43)))
  have I0 := hide (Held.init X w)
  have hsp := fun W hC => spacing_calls X W p s k hC
  rw [← hJ] at hsp
  unfold SpaceV at hsp
  rw [← hP] at hsp
  have HSP := hide hsp
  have hR : ∀ W, Cur W X P s J → Calls Tryz.prog 193 #[.pointer (some ⟨X, 0, none⟩)] W fun e w' => e = .returned (.func (.func 245) #[.pointer (some ⟨X, 0, none⟩)] #[]) ∧ Cur w' X P s J ∧ Below W.heap.size W w' := fun W hC => by
    have h1 := reader_calls X W P s J hC
    rw [hpk] at h1
    refine h1.mono ?_
    rintro e w' ⟨h2, n, rfl⟩
    exact ⟨h2, hC.drewN n, below_drewN (Below.refl _ W) n⟩
  have HR := hide hR
  have hsz := h.2.2.2.2
  clear h hsp hR hpk hJ hP
  cases T with
  | tok kind text v stop =>
    have hs := hS kind text v stop rfl
    have HM := hide hM
    obtain ⟨x, hx⟩ : ∃ x : ByteArray, x = ⟨text.toArray⟩ := ⟨_, rfl⟩
    unfold MethV at HM
    unfold NextT
    simp only at HM ⊢
    rw [← hx] at HM ⊢
    rw [hs] at HM
    obtain ⟨P1, P2⟩ := P
    clear hM hS hs hT hx
    go_enter Tryz.func130, Tryz.ntmps130
    go_wp2_with (first
      | (go_at_call 192; refine (HSP.out _ H0.out).mono ?_; rintro e w2 ⟨rfl, hC2, hO2⟩; have hl2 : w.heap.size < w2.heap.size := Nat.lt_of_succ_lt (I0.out.next hX hO2).lt; have HC2 := hide hC2; have HH2 := hide (I0.out.next hX hO2); clear hC2 hO2)
      | (refine wpList_load_mid rfl 200 (.tmp 12) rfl X 0 rfl [.int .i64 (P1 : Int), .int .i64 (P2 : Int)] _ (place_range HC2.out) Tryz.underlying200 rfl (by kernel_rfl) ?_)
      | (go_at_call 193; refine (HR.out _ (HC2.out.only ((Below.refl _ w2).alloc (Nat.le_refl _) _))).mono ?_; rintro e w3 ⟨rfl, hC3, hb3⟩; have HC3 := hide hC3; have HH3 := hide ((HH2.out.next hX ((Only.refl X w2).alloc (.cells (plA (P1, P2)) 200))).next hX (Only.of_below hb3)); have HG3 := hide ((Blk.new w2 200 (plA (P1, P2))).below hb3 (by simp)); clear hC3 hb3)
      | (go_at_call 245; refine (HM.out _ HC3.out HH3.out.2.2).mono ?_; rintro e w4 ⟨rfl, hC4, hO4⟩; have HC4 := hide hC4; have HH4 := hide (HH3.out.next hX hO4); have HG4 := hide (hO4.kept HG3.out (by omega)); clear hC4 hO4)
      | (refine wpList_store_row rfl 132 (.tmp 6) (.tmp 19) rfl w4.heap.size (tokC kind x v 0 0) rfl rfl 132 zTok (Blk.new w4 _ _) (tok_size _ rfl) rfl (tok_one _ _ _ _ _) ?_; have HT5 := hide (row_put (cs' := tokC kind x v 0 0) (Blk.new w4 132 #[.int .i64 0, .string ⟨#[]⟩, .int .u64 0, .int .i64 0, .int .i64 0])); have HC5 := hide ((HC4.out.only ((Below.refl _ w4).alloc (Nat.le_refl _) (.cells #[.int .i64 0, .string ⟨#[]⟩, .int .u64 0, .int .i64 0, .int .i64 0] 132))).row (g := w4.heap.size) (cs := tokC kind x v 0 0) (by have := HC4.out.lt; omega)); have HH5 := hide (HH4.out.next hX (((Only.refl X w4).alloc (.cells #[.int .i64 0, .string ⟨#[]⟩, .int .u64 0, .int .i64 0, .int .i64 0] 132)).setRow (Nat.le_refl _) (tokC kind x v 0 0))); have HG5 := hide (row_far (cs' := tokC kind x v 0 0) (HG4.out.alloc (.cells #[.int .i64 0, .string ⟨#[]⟩, .int .u64 0, .int .i64 0, .int .i64 0] 132)) (Nat.ne_of_lt HG4.out.lt)); have hl5 := HG4.out.lt))
    generalize (w4.alloc (Obj.cells #[.int .i64 0, .string ⟨#[]⟩, .int .u64 0, .int .i64 0, .int .i64 0] 132)).setRow w4.heap.size (tokC kind x v 0 0) = w5 at *
    generalize w4.heap.size = g6 at *
    have g0 : w5.cell? ⟨w2.heap.size, 0, none⟩ = some (.int .i64 (P1 : Int)) := HG5.out.cell 0
    have g1 : w5.cell? ⟨w2.heap.size, 1, none⟩ = some (.int .i64 (P2 : Int)) := HG5.out.cell 1
    have t3 : w5.cell? ⟨g6, 3, none⟩ = some (.int .i64 0) := HT5.out.cell 3
    have t4 : w5.cell? ⟨g6, 4, none⟩ = some (.int .i64 0) := HT5.out.cell 4
    have f3 := HT5.out.frozen 3
    have f4 := HT5.out.frozen 4
    have hne : g6 ≠ w2.heap.size := by omega
    go_region
    have HT6 := hide (((HT5.out.set_ 3 (.int .i64 (P1 : Int))).set_ 4 (.int .i64 (P2 : Int))).drew : Blk _ g6 132 (tokC kind x v P1 P2))
    have hg6 : w.heap.size + 1 < g6 := by have := HH2.out.lt; omega
    have hX6 : X < g6 := by omega
    have HC6 := hide ((HC5.out.put hX6 3 (.int .i64 (P1 : Int))).put hX6 4 (.int .i64 (P2 : Int))).drew
    have HH6 := hide (((HH5.out.put rfl hg6 3 (.int .i64 (P1 : Int))).put rfl hg6 4 (.int .i64 (P2 : Int))).drew)
    generalize ((w5.setCell ⟨g6, 3, none⟩ (.int .i64 (P1 : Int))).setCell ⟨g6, 4, none⟩ (.int .i64 (P2 : Int))).drew = w6 at *
    clear HT5 HC5 HH5 HG5 g0 g1 t3 t4 f3 f4
    go_wp2_with (first
      | (refine wpList_load_row rfl 132 (.tmp 6) rfl g6 rfl 132 (tokC kind x v P1 P2) (0, 0) _ HT6.out Tryz.underlying132 rfl (tok_size _ rfl) ?_)
      | (refine wpList_store_row rfl 132 (.tmp 2) (.tmp 36) rfl w.heap.size (tokC kind x v P1 P2) rfl rfl 132 zTok HH6.out.1 (tok_size _ rfl) rfl (tok_one _ _ _ _ _) ?_)
      | (refine wpList_store_row rfl 43 (.tmp 3) (.tmp 37) rfl (w.heap.size + 1) (faultC 0 0 0) rfl rfl 43 (faultC 0 0 0) (row_far HH6.out.2.1 (by omega)) (fault_size _ rfl) rfl (fault_one _ _ _) ?_))
    refine bodyPost_ret (res_cell_cell (p := 2) (q := 3) rfl _ _ w.heap.size (w.heap.size + 1) _ _ rfl (load_tok (row_far (row_put HH6.out.1) (by omega)) rfl) rfl (load_fault (row_put (row_far HH6.out.2.1 (by omega))) rfl)) rfl ⟨rfl, (HC6.out.row (by omega)).row (by omega), (HH6.out.2.2.setRow (Nat.le_refl _) _).setRow (Nat.le_succ _) _⟩
  | bad code =>
    have hc0 : ((code : Int) != 0) = true := by
      have := hT code rfl
      simp; omega
    have HM := hide hM
    unfold MethV at HM
    unfold NextT
    simp only at HM ⊢
    obtain ⟨P1, P2⟩ := P
    clear hM hS hT
    go_enter Tryz.func130, Tryz.ntmps130
    go_wp2_with (first
      | (go_at_call 192; refine (HSP.out _ H0.out).mono ?_; rintro e w2 ⟨rfl, hC2, hO2⟩; have hl2 : w.heap.size < w2.heap.size := Nat.lt_of_succ_lt (I0.out.next hX hO2).lt; have HC2 := hide hC2; have HH2 := hide (I0.out.next hX hO2); clear hC2 hO2)
      | (refine wpList_load_mid rfl 200 (.tmp 12) rfl X 0 rfl [.int .i64 (P1 : Int), .int .i64 (P2 : Int)] _ (place_range HC2.out) Tryz.underlying200 rfl (by kernel_rfl) ?_)
      | (go_at_call 193; refine (HR.out _ (HC2.out.only ((Below.refl _ w2).alloc (Nat.le_refl _) _))).mono ?_; rintro e w3 ⟨rfl, hC3, hb3⟩; have HC3 := hide hC3; have HH3 := hide ((HH2.out.next hX ((Only.refl X w2).alloc (.cells (plA (P1, P2)) 200))).next hX (Only.of_below hb3)); have HG3 := hide ((Blk.new w2 200 (plA (P1, P2))).below hb3 (by simp)); clear hC3 hb3)
      | (go_at_call 245; refine (HM.out _ HC3.out HH3.out.2.2).mono ?_; rintro e w4 ⟨rfl, hO4⟩; have HH4 := hide (HH3.out.next hX hO4); have HG4 := hide (hO4.kept HG3.out (by omega)); clear hO4)
      | (refine wpList_store_row rfl 132 (.tmp 6) (.tmp 19) rfl w4.heap.size (tokC 0 ⟨#[]⟩ 0 0 0) rfl rfl 132 zTok (Blk.new w4 _ _) (tok_size _ rfl) rfl (tok_one _ _ _ _ _) ?_; have HH5 := hide (HH4.out.next hX (((Only.refl X w4).alloc (.cells #[.int .i64 0, .string ⟨#[]⟩, .int .u64 0, .int .i64 0, .int .i64 0] 132)).setRow (Nat.le_refl _) (tokC 0 ⟨#[]⟩ 0 0 0))); have HG5 := hide (row_far (cs' := tokC 0 ⟨#[]⟩ 0 0 0) (HG4.out.alloc (.cells #[.int .i64 0, .string ⟨#[]⟩, .int .u64 0, .int .i64 0, .int .i64 0] 132)) (Nat.ne_of_lt HG4.out.lt))))
    generalize (w4.alloc (Obj.cells #[.int .i64 0, .string ⟨#[]⟩, .int .u64 0, .int .i64 0, .int .i64 0] 132)).setRow w4.heap.size (tokC 0 ⟨#[]⟩ 0 0 0) = w5 at *
    have g0 : w5.cell? ⟨w2.heap.size, 0, none⟩ = some (.int .i64 (P1 : Int)) := HG5.out.cell 0
    have g1 : w5.cell? ⟨w2.heap.size, 1, none⟩ = some (.int .i64 (P2 : Int)) := HG5.out.cell 1
    have b0 : w5.cell? ⟨w.heap.size, 0, none⟩ = some (.int .i64 0) := HH5.out.1.cell 0
    have b1 : w5.cell? ⟨w.heap.size, 1, none⟩ = some (.string ⟨#[]⟩) := HH5.out.1.cell 1
    have b2 : w5.cell? ⟨w.heap.size, 2, none⟩ = some (.int .u64 0) := HH5.out.1.cell 2
    have b3 : w5.cell? ⟨w.heap.size, 3, none⟩ = some (.int .i64 0) := HH5.out.1.cell 3
    have b4 : w5.cell? ⟨w.heap.size, 4, none⟩ = some (.int .i64 0) := HH5.out.1.cell 4
    have d0 : w5.cell? ⟨w.heap.size + 1, 0, none⟩ = some (.int .i64 0) := HH5.out.2.1.cell 0
    have d1 : w5.cell? ⟨w.heap.size + 1, 1, none⟩ = some (.int .i64 0) := HH5.out.2.1.cell 1
    have d2 : w5.cell? ⟨w.heap.size + 1, 2, none⟩ = some (.int .i64 0) := HH5.out.2.1.cell 2
    have f1 := fun i => HH5.out.1.frozen i
    have f2 := fun i => HH5.out.2.1.frozen i
    go_region
    go_wp2_with fail
    have HT := hide (((((((((HH5.out.1.set_ 0 (.int .i64 0)).set_ 1 (.string ⟨#[]⟩)).set_ 2 (.int .u64 0)).set_ 3 (.int .i64 0)).set_ 4 (.int .i64 0)).far (p := ⟨w.heap.size + 1, 0, none⟩) (Nat.ne_of_lt (Nat.lt_succ_self _)) (.int .i64 (code : Int))).far (p := ⟨w.heap.size + 1, 1, none⟩) (Nat.ne_of_lt (Nat.lt_succ_self _)) (.int .i64 (P1 : Int))).far (p := ⟨w.heap.size + 1, 2, none⟩) (Nat.ne_of_lt (Nat.lt_succ_self _)) (.int .i64 (P2 : Int))).drew : Blk _ w.heap.size 132 zTok)
    have HF := hide (((((((((HH5.out.2.1.far (p := ⟨w.heap.size, 0, none⟩) (Nat.ne_of_gt (Nat.lt_succ_self _)) (.int .i64 0)).far (p := ⟨w.heap.size, 1, none⟩) (Nat.ne_of_gt (Nat.lt_succ_self _)) (.string ⟨#[]⟩)).far (p := ⟨w.heap.size, 2, none⟩) (Nat.ne_of_gt (Nat.lt_succ_self _)) (.int .u64 0)).far (p := ⟨w.heap.size, 3, none⟩) (Nat.ne_of_gt (Nat.lt_succ_self _)) (.int .i64 0)).far (p := ⟨w.heap.size, 4, none⟩) (Nat.ne_of_gt (Nat.lt_succ_self _)) (.int .i64 0)).set_ 0 (.int .i64 (code : Int))).set_ 1 (.int .i64 (P1 : Int))).set_ 2 (.int .i64 (P2 : Int))).drew : Blk _ (w.heap.size + 1) 43 (faultC code P1 P2))
    have HO := hide (Only.drew (only_setCell (only_setCell (only_setCell (only_setCell (only_setCell (only_setCell (only_setCell (only_setCell HH5.out.2.2 (p := ⟨w.heap.size, 0, none⟩) (.inr (Nat.le_refl _)) (.int .i64 0)) (p := ⟨w.heap.size, 1, none⟩) (.inr (Nat.le_refl _)) (.string ⟨#[]⟩)) (p := ⟨w.heap.size, 2, none⟩) (.inr (Nat.le_refl _)) (.int .u64 0)) (p := ⟨w.heap.size, 3, none⟩) (.inr (Nat.le_refl _)) (.int .i64 0)) (p := ⟨w.heap.size, 4, none⟩) (.inr (Nat.le_refl _)) (.int .i64 0)) (p := ⟨w.heap.size + 1, 0, none⟩) (.inr (Nat.le_succ _)) (.int .i64 (code : Int))) (p := ⟨w.heap.size + 1, 1, none⟩) (.inr (Nat.le_succ _)) (.int .i64 (P1 : Int))) (p := ⟨w.heap.size + 1, 2, none⟩) (.inr (Nat.le_succ _)) (.int .i64 (P2 : Int))))
    refine bodyPost_ret (res_cell_cell (p := 2) (q := 3) rfl _ _ w.heap.size (w.heap.size + 1) _ _ rfl (load_tok HT.out rfl) rfl (load_fault HF.out rfl)) rfl ⟨rfl, HO.out⟩
set_option maxHeartbeats 4000000 in
theorem next_word (X : Nat) (w : World) (p : Nat × Nat) (s : ByteArray) (k J : Nat) (P : Nat × Nat) (T : Tk) (h : Cur w X p s k) (hJ : J = skipAt s k) (hP : P = placeFrom p (piece s k J))
    (hpk : pick s J = 247) (hT : ∀ code, T = .bad code → code ≠ 0)
    (hM : ∀ W, Cur W X P s J → Only X w W → Calls Tryz.prog 247 #[.pointer (some ⟨X, 0, none⟩)] W (MethV X P s J T W))
    (hS : ∀ kind text v stop, T = .tok kind text v stop → placeFrom P (piece s J stop) = placeFrom p (piece s k stop)) :
    Calls Tryz.prog 130 #[.pointer (some ⟨X, 0, none⟩)] w (NextT X p s k P T w) := by
  have hX := h.lt
  have H0 := hide (h.only (((Below.refl w.heap.size w).alloc (Nat.le_refl _) (.cells (tokC 0 ⟨#[]⟩ 0 0 0) 132)).alloc (by simp) (.cells (faultC 0 0 0) 43)))
  have I0 := hide (Held.init X w)
  have hsp := fun W hC => spacing_calls X W p s k hC
  rw [← hJ] at hsp
  unfold SpaceV at hsp
  rw [← hP] at hsp
  have HSP := hide hsp
  have hR : ∀ W, Cur W X P s J → Calls Tryz.prog 193 #[.pointer (some ⟨X, 0, none⟩)] W fun e w' => e = .returned (.func (.func 247) #[.pointer (some ⟨X, 0, none⟩)] #[]) ∧ Cur w' X P s J ∧ Below W.heap.size W w' := fun W hC => by
    have h1 := reader_calls X W P s J hC
    rw [hpk] at h1
    refine h1.mono ?_
    rintro e w' ⟨h2, n, rfl⟩
    exact ⟨h2, hC.drewN n, below_drewN (Below.refl _ W) n⟩
  have HR := hide hR
  have hsz := h.2.2.2.2
  clear h hsp hR hpk hJ hP
  cases T with
  | tok kind text v stop =>
    have hs := hS kind text v stop rfl
    have HM := hide hM
    obtain ⟨x, hx⟩ : ∃ x : ByteArray, x = ⟨text.toArray⟩ := ⟨_, rfl⟩
    unfold MethV at HM
    unfold NextT
    simp only at HM ⊢
    rw [← hx] at HM ⊢
    rw [hs] at HM
    obtain ⟨P1, P2⟩ := P
    clear hM hS hs hT hx
    go_enter Tryz.func130, Tryz.ntmps130
    go_wp2_with (first
      | (go_at_call 192; refine (HSP.out _ H0.out).mono ?_; rintro e w2 ⟨rfl, hC2, hO2⟩; have hl2 : w.heap.size < w2.heap.size := Nat.lt_of_succ_lt (I0.out.next hX hO2).lt; have HC2 := hide hC2; have HH2 := hide (I0.out.next hX hO2); clear hC2 hO2)
      | (refine wpList_load_mid rfl 200 (.tmp 12) rfl X 0 rfl [.int .i64 (P1 : Int), .int .i64 (P2 : Int)] _ (place_range HC2.out) Tryz.underlying200 rfl (by kernel_rfl) ?_)
      | (go_at_call 193; refine (HR.out _ (HC2.out.only ((Below.refl _ w2).alloc (Nat.le_refl _) _))).mono ?_; rintro e w3 ⟨rfl, hC3, hb3⟩; have HC3 := hide hC3; have HH3 := hide ((HH2.out.next hX ((Only.refl X w2).alloc (.cells (plA (P1, P2)) 200))).next hX (Only.of_below hb3)); have HG3 := hide ((Blk.new w2 200 (plA (P1, P2))).below hb3 (by simp)); clear hC3 hb3)
      | (go_at_call 247; refine (HM.out _ HC3.out HH3.out.2.2).mono ?_; rintro e w4 ⟨rfl, hC4, hO4⟩; have HC4 := hide hC4; have HH4 := hide (HH3.out.next hX hO4); have HG4 := hide (hO4.kept HG3.out (by omega)); clear hC4 hO4)
      | (refine wpList_store_row rfl 132 (.tmp 6) (.tmp 19) rfl w4.heap.size (tokC kind x v 0 0) rfl rfl 132 zTok (Blk.new w4 _ _) (tok_size _ rfl) rfl (tok_one _ _ _ _ _) ?_; have HT5 := hide (row_put (cs' := tokC kind x v 0 0) (Blk.new w4 132 #[.int .i64 0, .string ⟨#[]⟩, .int .u64 0, .int .i64 0, .int .i64 0])); have HC5 := hide ((HC4.out.only ((Below.refl _ w4).alloc (Nat.le_refl _) (.cells #[.int .i64 0, .string ⟨#[]⟩, .int .u64 0, .int .i64 0, .int .i64 0] 132))).row (g := w4.heap.size) (cs := tokC kind x v 0 0) (by have := HC4.out.lt; omega)); have HH5 := hide (HH4.out.next hX (((Only.refl X w4).alloc (.cells #[.int .i64 0, .string ⟨#[]⟩, .int .u64 0, .int .i64 0, .int .i64 0] 132)).setRow (Nat.le_refl _) (tokC kind x v 0 0))); have HG5 := hide (row_far (cs' := tokC kind x v 0 0) (HG4.out.alloc (.cells #[.int .i64 0, .string ⟨#[]⟩, .int .u64 0, .int .i64 0, .int .i64 0] 132)) (Nat.ne_of_lt HG4.out.lt)); have hl5 := HG4.out.lt))
    generalize (w4.alloc (Obj.cells #[.int .i64 0, .string ⟨#[]⟩, .int .u64 0, .int .i64 0, .int .i64 0] 132)).setRow w4.heap.size (tokC kind x v 0 0) = w5 at *
    generalize w4.heap.size = g6 at *
    have g0 : w5.cell? ⟨w2.heap.size, 0, none⟩ = some (.int .i64 (P1 : Int)) := HG5.out.cell 0
    have g1 : w5.cell? ⟨w2.heap.size, 1, none⟩ = some (.int .i64 (P2 : Int)) := HG5.out.cell 1
    have t3 : w5.cell? ⟨g6, 3, none⟩ = some (.int .i64 0) := HT5.out.cell 3
    have t4 : w5.cell? ⟨g6, 4, none⟩ = some (.int .i64 0) := HT5.out.cell 4
    have f3 := HT5.out.frozen 3
    have f4 := HT5.out.frozen 4
    have hne : g6 ≠ w2.heap.size := by omega
    go_region
    have HT6 := hide (((HT5.out.set_ 3 (.int .i64 (P1 : Int))).set_ 4 (.int .i64 (P2 : Int))).drew : Blk _ g6 132 (tokC kind x v P1 P2))
    have hg6 : w.heap.size + 1 < g6 := by have := HH2.out.lt; omega
    have hX6 : X < g6 := by omega
    have HC6 := hide ((HC5.out.put hX6 3 (.int .i64 (P1 : Int))).put hX6 4 (.int .i64 (P2 : Int))).drew
    have HH6 := hide (((HH5.out.put rfl hg6 3 (.int .i64 (P1 : Int))).put rfl hg6 4 (.int .i64 (P2 : Int))).drew)
    generalize ((w5.setCell ⟨g6, 3, none⟩ (.int .i64 (P1 : Int))).setCell ⟨g6, 4, none⟩ (.int .i64 (P2 : Int))).drew = w6 at *
    clear HT5 HC5 HH5 HG5 g0 g1 t3 t4 f3 f4
    go_wp2_with (first
      | (refine wpList_load_row rfl 132 (.tmp 6) rfl g6 rfl 132 (tokC kind x v P1 P2) (0, 0) _ HT6.out Tryz.underlying132 rfl (tok_size _ rfl) ?_)
      | (refine wpList_store_row rfl 132 (.tmp 2) (.tmp 36) rfl w.heap.size (tokC kind x v P1 P2) rfl rfl 132 zTok HH6.out.1 (tok_size _ rfl) rfl (tok_one _ _ _ _ _) ?_)
      | (refine wpList_store_row rfl 43 (.tmp 3) (.tmp 37) rfl (w.heap.size + 1) (faultC 0 0 0) rfl rfl 43 (faultC 0 0 0) (row_far HH6.out.2.1 (by omega)) (fault_size _ rfl) rfl (fault_one _ _ _) ?_))
    refine bodyPost_ret (res_cell_cell (p := 2) (q := 3) rfl _ _ w.heap.size (w.heap.size + 1) _ _ rfl (load_tok (row_far (row_put HH6.out.1) (by omega)) rfl) rfl (load_fault (row_put (row_far HH6.out.2.1 (by omega))) rfl)) rfl ⟨rfl, (HC6.out.row (by omega)).row (by omega), (HH6.out.2.2.setRow (Nat.le_refl _) _).setRow (Nat.le_succ _) _⟩
  | bad code =>
    have hc0 : ((code : Int) != 0) = true := by
      have := hT code rfl
      simp; omega
    have HM := hide hM
    unfold MethV at HM
    unfold NextT
    simp only at HM ⊢
    obtain ⟨P1, P2⟩ := P
    clear hM hS hT
    go_enter Tryz.func130, Tryz.ntmps130
    go_wp2_with (first
      | (go_at_call 192; refine (HSP.out _ H0.out).mono ?_; rintro e w2 ⟨rfl, hC2, hO2⟩; have hl2 : w.heap.size < w2.heap.size := Nat.lt_of_succ_lt (I0.out.next hX hO2).lt; have HC2 := hide hC2; have HH2 := hide (I0.out.next hX hO2); clear hC2 hO2)
      | (refine wpList_load_mid rfl 200 (.tmp 12) rfl X 0 rfl [.int .i64 (P1 : Int), .int .i64 (P2 : Int)] _ (place_range HC2.out) Tryz.underlying200 rfl (by kernel_rfl) ?_)
      | (go_at_call 193; refine (HR.out _ (HC2.out.only ((Below.refl _ w2).alloc (Nat.le_refl _) _))).mono ?_; rintro e w3 ⟨rfl, hC3, hb3⟩; have HC3 := hide hC3; have HH3 := hide ((HH2.out.next hX ((Only.refl X w2).alloc (.cells (plA (P1, P2)) 200))).next hX (Only.of_below hb3)); have HG3 := hide ((Blk.new w2 200 (plA (P1, P2))).below hb3 (by simp)); clear hC3 hb3)
      | (go_at_call 247; refine (HM.out _ HC3.out HH3.out.2.2).mono ?_; rintro e w4 ⟨rfl, hO4⟩; have HH4 := hide (HH3.out.next hX hO4); have HG4 := hide (hO4.kept HG3.out (by omega)); clear hO4)
      | (refine wpList_store_row rfl 132 (.tmp 6) (.tmp 19) rfl w4.heap.size (tokC 0 ⟨#[]⟩ 0 0 0) rfl rfl 132 zTok (Blk.new w4 _ _) (tok_size _ rfl) rfl (tok_one _ _ _ _ _) ?_; have HH5 := hide (HH4.out.next hX (((Only.refl X w4).alloc (.cells #[.int .i64 0, .string ⟨#[]⟩, .int .u64 0, .int .i64 0, .int .i64 0] 132)).setRow (Nat.le_refl _) (tokC 0 ⟨#[]⟩ 0 0 0))); have HG5 := hide (row_far (cs' := tokC 0 ⟨#[]⟩ 0 0 0) (HG4.out.alloc (.cells #[.int .i64 0, .string ⟨#[]⟩, .int .u64 0, .int .i64 0, .int .i64 0] 132)) (Nat.ne_of_lt HG4.out.lt))))
    generalize (w4.alloc (Obj.cells #[.int .i64 0, .string ⟨#[]⟩, .int .u64 0, .int .i64 0, .int .i64 0] 132)).setRow w4.heap.size (tokC 0 ⟨#[]⟩ 0 0 0) = w5 at *
    have g0 : w5.cell? ⟨w2.heap.size, 0, none⟩ = some (.int .i64 (P1 : Int)) := HG5.out.cell 0
    have g1 : w5.cell? ⟨w2.heap.size, 1, none⟩ = some (.int .i64 (P2 : Int)) := HG5.out.cell 1
    have b0 : w5.cell? ⟨w.heap.size, 0, none⟩ = some (.int .i64 0) := HH5.out.1.cell 0
    have b1 : w5.cell? ⟨w.heap.size, 1, none⟩ = some (.string ⟨#[]⟩) := HH5.out.1.cell 1
    have b2 : w5.cell? ⟨w.heap.size, 2, none⟩ = some (.int .u64 0) := HH5.out.1.cell 2
    have b3 : w5.cell? ⟨w.heap.size, 3, none⟩ = some (.int .i64 0) := HH5.out.1.cell 3
    have b4 : w5.cell? ⟨w.heap.size, 4, none⟩ = some (.int .i64 0) := HH5.out.1.cell 4
    have d0 : w5.cell? ⟨w.heap.size + 1, 0, none⟩ = some (.int .i64 0) := HH5.out.2.1.cell 0
    have d1 : w5.cell? ⟨w.heap.size + 1, 1, none⟩ = some (.int .i64 0) := HH5.out.2.1.cell 1
    have d2 : w5.cell? ⟨w.heap.size + 1, 2, none⟩ = some (.int .i64 0) := HH5.out.2.1.cell 2
    have f1 := fun i => HH5.out.1.frozen i
    have f2 := fun i => HH5.out.2.1.frozen i
    go_region
    go_wp2_with fail
    have HT := hide (((((((((HH5.out.1.set_ 0 (.int .i64 0)).set_ 1 (.string ⟨#[]⟩)).set_ 2 (.int .u64 0)).set_ 3 (.int .i64 0)).set_ 4 (.int .i64 0)).far (p := ⟨w.heap.size + 1, 0, none⟩) (Nat.ne_of_lt (Nat.lt_succ_self _)) (.int .i64 (code : Int))).far (p := ⟨w.heap.size + 1, 1, none⟩) (Nat.ne_of_lt (Nat.lt_succ_self _)) (.int .i64 (P1 : Int))).far (p := ⟨w.heap.size + 1, 2, none⟩) (Nat.ne_of_lt (Nat.lt_succ_self _)) (.int .i64 (P2 : Int))).drew : Blk _ w.heap.size 132 zTok)
    have HF := hide (((((((((HH5.out.2.1.far (p := ⟨w.heap.size, 0, none⟩) (Nat.ne_of_gt (Nat.lt_succ_self _)) (.int .i64 0)).far (p := ⟨w.heap.size, 1, none⟩) (Nat.ne_of_gt (Nat.lt_succ_self _)) (.string ⟨#[]⟩)).far (p := ⟨w.heap.size, 2, none⟩) (Nat.ne_of_gt (Nat.lt_succ_self _)) (.int .u64 0)).far (p := ⟨w.heap.size, 3, none⟩) (Nat.ne_of_gt (Nat.lt_succ_self _)) (.int .i64 0)).far (p := ⟨w.heap.size, 4, none⟩) (Nat.ne_of_gt (Nat.lt_succ_self _)) (.int .i64 0)).set_ 0 (.int .i64 (code : Int))).set_ 1 (.int .i64 (P1 : Int))).set_ 2 (.int .i64 (P2 : Int))).drew : Blk _ (w.heap.size + 1) 43 (faultC code P1 P2))
    have HO := hide (Only.drew (only_setCell (only_setCell (only_setCell (only_setCell (only_setCell (only_setCell (only_setCell (only_setCell HH5.out.2.2 (p := ⟨w.heap.size, 0, none⟩) (.inr (Nat.le_refl _)) (.int .i64 0)) (p := ⟨w.heap.size, 1, none⟩) (.inr (Nat.le_refl _)) (.string ⟨#[]⟩)) (p := ⟨w.heap.size, 2, none⟩) (.inr (Nat.le_refl _)) (.int .u64 0)) (p := ⟨w.heap.size, 3, none⟩) (.inr (Nat.le_refl _)) (.int .i64 0)) (p := ⟨w.heap.size, 4, none⟩) (.inr (Nat.le_refl _)) (.int .i64 0)) (p := ⟨w.heap.size + 1, 0, none⟩) (.inr (Nat.le_succ _)) (.int .i64 (code : Int))) (p := ⟨w.heap.size + 1, 1, none⟩) (.inr (Nat.le_succ _)) (.int .i64 (P1 : Int))) (p := ⟨w.heap.size + 1, 2, none⟩) (.inr (Nat.le_succ _)) (.int .i64 (P2 : Int))))
    refine bodyPost_ret (res_cell_cell (p := 2) (q := 3) rfl _ _ w.heap.size (w.heap.size + 1) _ _ rfl (load_tok HT.out rfl) rfl (load_fault HF.out rfl)) rfl ⟨rfl, HO.out⟩
set_option maxHeartbeats 4000000 in
theorem next_number (X : Nat) (w : World) (p : Nat × Nat) (s : ByteArray) (k J : Nat) (P : Nat × Nat) (T : Tk) (h : Cur w X p s k) (hJ : J = skipAt s k) (hP : P = placeFrom p (piece s k J))
    (hpk : pick s J = 249) (hT : ∀ code, T = .bad code → code ≠ 0)
    (hM : ∀ W, Cur W X P s J → Only X w W → Calls Tryz.prog 249 #[.pointer (some ⟨X, 0, none⟩)] W (MethV X P s J T W))
    (hS : ∀ kind text v stop, T = .tok kind text v stop → placeFrom P (piece s J stop) = placeFrom p (piece s k stop)) :
    Calls Tryz.prog 130 #[.pointer (some ⟨X, 0, none⟩)] w (NextT X p s k P T w) := by
  have hX := h.lt
  have H0 := hide (h.only (((Below.refl w.heap.size w).alloc (Nat.le_refl _) (.cells (tokC 0 ⟨#[]⟩ 0 0 0) 132)).alloc (by simp) (.cells (faultC 0 0 0) 43)))
  have I0 := hide (Held.init X w)
  have hsp := fun W hC => spacing_calls X W p s k hC
  rw [← hJ] at hsp
  unfold SpaceV at hsp
  rw [← hP] at hsp
  have HSP := hide hsp
  have hR : ∀ W, Cur W X P s J → Calls Tryz.prog 193 #[.pointer (some ⟨X, 0, none⟩)] W fun e w' => e = .returned (.func (.func 249) #[.pointer (some ⟨X, 0, none⟩)] #[]) ∧ Cur w' X P s J ∧ Below W.heap.size W w' := fun W hC => by
    have h1 := reader_calls X W P s J hC
    rw [hpk] at h1
    refine h1.mono ?_
    rintro e w' ⟨h2, n, rfl⟩
    exact ⟨h2, hC.drewN n, below_drewN (Below.refl _ W) n⟩
  have HR := hide hR
  have hsz := h.2.2.2.2
  clear h hsp hR hpk hJ hP
  cases T with
  | tok kind text v stop =>
    have hs := hS kind text v stop rfl
    have HM := hide hM
    obtain ⟨x, hx⟩ : ∃ x : ByteArray, x = ⟨text.toArray⟩ := ⟨_, rfl⟩
    unfold MethV at HM
    unfold NextT
    simp only at HM ⊢
    rw [← hx] at HM ⊢
    rw [hs] at HM
    obtain ⟨P1, P2⟩ := P
    clear hM hS hs hT hx
    go_enter Tryz.func130, Tryz.ntmps130
    go_wp2_with (first
      | (go_at_call 192; refine (HSP.out _ H0.out).mono ?_; rintro e w2 ⟨rfl, hC2, hO2⟩; have hl2 : w.heap.size < w2.heap.size := Nat.lt_of_succ_lt (I0.out.next hX hO2).lt; have HC2 := hide hC2; have HH2 := hide (I0.out.next hX hO2); clear hC2 hO2)
      | (refine wpList_load_mid rfl 200 (.tmp 12) rfl X 0 rfl [.int .i64 (P1 : Int), .int .i64 (P2 : Int)] _ (place_range HC2.out) Tryz.underlying200 rfl (by kernel_rfl) ?_)
      | (go_at_call 193; refine (HR.out _ (HC2.out.only ((Below.refl _ w2).alloc (Nat.le_refl _) _))).mono ?_; rintro e w3 ⟨rfl, hC3, hb3⟩; have HC3 := hide hC3; have HH3 := hide ((HH2.out.next hX ((Only.refl X w2).alloc (.cells (plA (P1, P2)) 200))).next hX (Only.of_below hb3)); have HG3 := hide ((Blk.new w2 200 (plA (P1, P2))).below hb3 (by simp)); clear hC3 hb3)
      | (go_at_call 249; refine (HM.out _ HC3.out HH3.out.2.2).mono ?_; rintro e w4 ⟨rfl, hC4, hO4⟩; have HC4 := hide hC4; have HH4 := hide (HH3.out.next hX hO4); have HG4 := hide (hO4.kept HG3.out (by omega)); clear hC4 hO4)
      | (refine wpList_store_row rfl 132 (.tmp 6) (.tmp 19) rfl w4.heap.size (tokC kind x v 0 0) rfl rfl 132 zTok (Blk.new w4 _ _) (tok_size _ rfl) rfl (tok_one _ _ _ _ _) ?_; have HT5 := hide (row_put (cs' := tokC kind x v 0 0) (Blk.new w4 132 #[.int .i64 0, .string ⟨#[]⟩, .int .u64 0, .int .i64 0, .int .i64 0])); have HC5 := hide ((HC4.out.only ((Below.refl _ w4).alloc (Nat.le_refl _) (.cells #[.int .i64 0, .string ⟨#[]⟩, .int .u64 0, .int .i64 0, .int .i64 0] 132))).row (g := w4.heap.size) (cs := tokC kind x v 0 0) (by have := HC4.out.lt; omega)); have HH5 := hide (HH4.out.next hX (((Only.refl X w4).alloc (.cells #[.int .i64 0, .string ⟨#[]⟩, .int .u64 0, .int .i64 0, .int .i64 0] 132)).setRow (Nat.le_refl _) (tokC kind x v 0 0))); have HG5 := hide (row_far (cs' := tokC kind x v 0 0) (HG4.out.alloc (.cells #[.int .i64 0, .string ⟨#[]⟩, .int .u64 0, .int .i64 0, .int .i64 0] 132)) (Nat.ne_of_lt HG4.out.lt)); have hl5 := HG4.out.lt))
    generalize (w4.alloc (Obj.cells #[.int .i64 0, .string ⟨#[]⟩, .int .u64 0, .int .i64 0, .int .i64 0] 132)).setRow w4.heap.size (tokC kind x v 0 0) = w5 at *
    generalize w4.heap.size = g6 at *
    have g0 : w5.cell? ⟨w2.heap.size, 0, none⟩ = some (.int .i64 (P1 : Int)) := HG5.out.cell 0
    have g1 : w5.cell? ⟨w2.heap.size, 1, none⟩ = some (.int .i64 (P2 : Int)) := HG5.out.cell 1
    have t3 : w5.cell? ⟨g6, 3, none⟩ = some (.int .i64 0) := HT5.out.cell 3
    have t4 : w5.cell? ⟨g6, 4, none⟩ = some (.int .i64 0) := HT5.out.cell 4
    have f3 := HT5.out.frozen 3
    have f4 := HT5.out.frozen 4
    have hne : g6 ≠ w2.heap.size := by omega
    go_region
    have HT6 := hide (((HT5.out.set_ 3 (.int .i64 (P1 : Int))).set_ 4 (.int .i64 (P2 : Int))).drew : Blk _ g6 132 (tokC kind x v P1 P2))
    have hg6 : w.heap.size + 1 < g6 := by have := HH2.out.lt; omega
    have hX6 : X < g6 := by omega
    have HC6 := hide ((HC5.out.put hX6 3 (.int .i64 (P1 : Int))).put hX6 4 (.int .i64 (P2 : Int))).drew
    have HH6 := hide (((HH5.out.put rfl hg6 3 (.int .i64 (P1 : Int))).put rfl hg6 4 (.int .i64 (P2 : Int))).drew)
    generalize ((w5.setCell ⟨g6, 3, none⟩ (.int .i64 (P1 : Int))).setCell ⟨g6, 4, none⟩ (.int .i64 (P2 : Int))).drew = w6 at *
    clear HT5 HC5 HH5 HG5 g0 g1 t3 t4 f3 f4
    go_wp2_with (first
      | (refine wpList_load_row rfl 132 (.tmp 6) rfl g6 rfl 132 (tokC kind x v P1 P2) (0, 0) _ HT6.out Tryz.underlying132 rfl (tok_size _ rfl) ?_)
      | (refine wpList_store_row rfl 132 (.tmp 2) (.tmp 36) rfl w.heap.size (tokC kind x v P1 P2) rfl rfl 132 zTok HH6.out.1 (tok_size _ rfl) rfl (tok_one _ _ _ _ _) ?_)
      | (refine wpList_store_row rfl 43 (.tmp 3) (.tmp 37) rfl (w.heap.size + 1) (faultC 0 0 0) rfl rfl 43 (faultC 0 0 0) (row_far HH6.out.2.1 (by omega)) (fault_size _ rfl) rfl (fault_one _ _ _) ?_))
    refine bodyPost_ret (res_cell_cell (p := 2) (q := 3) rfl _ _ w.heap.size (w.heap.size + 1) _ _ rfl (load_tok (row_far (row_put HH6.out.1) (by omega)) rfl) rfl (load_fault (row_put (row_far HH6.out.2.1 (by omega))) rfl)) rfl ⟨rfl, (HC6.out.row (by omega)).row (by omega), (HH6.out.2.2.setRow (Nat.le_refl _) _).setRow (Nat.le_succ _) _⟩
  | bad code =>
    have hc0 : ((code : Int) != 0) = true := by
      have := hT code rfl
      simp; omega
    have HM := hide hM
    unfold MethV at HM
    unfold NextT
    simp only at HM ⊢
    obtain ⟨P1, P2⟩ := P
    clear hM hS hT
    go_enter Tryz.func130, Tryz.ntmps130
    go_wp2_with (first
      | (go_at_call 192; refine (HSP.out _ H0.out).mono ?_; rintro e w2 ⟨rfl, hC2, hO2⟩; have hl2 : w.heap.size < w2.heap.size := Nat.lt_of_succ_lt (I0.out.next hX hO2).lt; have HC2 := hide hC2; have HH2 := hide (I0.out.next hX hO2); clear hC2 hO2)
      | (refine wpList_load_mid rfl 200 (.tmp 12) rfl X 0 rfl [.int .i64 (P1 : Int), .int .i64 (P2 : Int)] _ (place_range HC2.out) Tryz.underlying200 rfl (by kernel_rfl) ?_)
      | (go_at_call 193; refine (HR.out _ (HC2.out.only ((Below.refl _ w2).alloc (Nat.le_refl _) _))).mono ?_; rintro e w3 ⟨rfl, hC3, hb3⟩; have HC3 := hide hC3; have HH3 := hide ((HH2.out.next hX ((Only.refl X w2).alloc (.cells (plA (P1, P2)) 200))).next hX (Only.of_below hb3)); have HG3 := hide ((Blk.new w2 200 (plA (P1, P2))).below hb3 (by simp)); clear hC3 hb3)
      | (go_at_call 249; refine (HM.out _ HC3.out HH3.out.2.2).mono ?_; rintro e w4 ⟨rfl, hO4⟩; have HH4 := hide (HH3.out.next hX hO4); have HG4 := hide (hO4.kept HG3.out (by omega)); clear hO4)
      | (refine wpList_store_row rfl 132 (.tmp 6) (.tmp 19) rfl w4.heap.size (tokC 0 ⟨#[]⟩ 0 0 0) rfl rfl 132 zTok (Blk.new w4 _ _) (tok_size _ rfl) rfl (tok_one _ _ _ _ _) ?_; have HH5 := hide (HH4.out.next hX (((Only.refl X w4).alloc (.cells #[.int .i64 0, .string ⟨#[]⟩, .int .u64 0, .int .i64 0, .int .i64 0] 132)).setRow (Nat.le_refl _) (tokC 0 ⟨#[]⟩ 0 0 0))); have HG5 := hide (row_far (cs' := tokC 0 ⟨#[]⟩ 0 0 0) (HG4.out.alloc (.cells #[.int .i64 0, .string ⟨#[]⟩, .int .u64 0, .int .i64 0, .int .i64 0] 132)) (Nat.ne_of_lt HG4.out.lt))))
    generalize (w4.alloc (Obj.cells #[.int .i64 0, .string ⟨#[]⟩, .int .u64 0, .int .i64 0, .int .i64 0] 132)).setRow w4.heap.size (tokC 0 ⟨#[]⟩ 0 0 0) = w5 at *
    have g0 : w5.cell? ⟨w2.heap.size, 0, none⟩ = some (.int .i64 (P1 : Int)) := HG5.out.cell 0
    have g1 : w5.cell? ⟨w2.heap.size, 1, none⟩ = some (.int .i64 (P2 : Int)) := HG5.out.cell 1
    have b0 : w5.cell? ⟨w.heap.size, 0, none⟩ = some (.int .i64 0) := HH5.out.1.cell 0
    have b1 : w5.cell? ⟨w.heap.size, 1, none⟩ = some (.string ⟨#[]⟩) := HH5.out.1.cell 1
    have b2 : w5.cell? ⟨w.heap.size, 2, none⟩ = some (.int .u64 0) := HH5.out.1.cell 2
    have b3 : w5.cell? ⟨w.heap.size, 3, none⟩ = some (.int .i64 0) := HH5.out.1.cell 3
    have b4 : w5.cell? ⟨w.heap.size, 4, none⟩ = some (.int .i64 0) := HH5.out.1.cell 4
    have d0 : w5.cell? ⟨w.heap.size + 1, 0, none⟩ = some (.int .i64 0) := HH5.out.2.1.cell 0
    have d1 : w5.cell? ⟨w.heap.size + 1, 1, none⟩ = some (.int .i64 0) := HH5.out.2.1.cell 1
    have d2 : w5.cell? ⟨w.heap.size + 1, 2, none⟩ = some (.int .i64 0) := HH5.out.2.1.cell 2
    have f1 := fun i => HH5.out.1.frozen i
    have f2 := fun i => HH5.out.2.1.frozen i
    go_region
    go_wp2_with fail
    have HT := hide (((((((((HH5.out.1.set_ 0 (.int .i64 0)).set_ 1 (.string ⟨#[]⟩)).set_ 2 (.int .u64 0)).set_ 3 (.int .i64 0)).set_ 4 (.int .i64 0)).far (p := ⟨w.heap.size + 1, 0, none⟩) (Nat.ne_of_lt (Nat.lt_succ_self _)) (.int .i64 (code : Int))).far (p := ⟨w.heap.size + 1, 1, none⟩) (Nat.ne_of_lt (Nat.lt_succ_self _)) (.int .i64 (P1 : Int))).far (p := ⟨w.heap.size + 1, 2, none⟩) (Nat.ne_of_lt (Nat.lt_succ_self _)) (.int .i64 (P2 : Int))).drew : Blk _ w.heap.size 132 zTok)
    have HF := hide (((((((((HH5.out.2.1.far (p := ⟨w.heap.size, 0, none⟩) (Nat.ne_of_gt (Nat.lt_succ_self _)) (.int .i64 0)).far (p := ⟨w.heap.size, 1, none⟩) (Nat.ne_of_gt (Nat.lt_succ_self _)) (.string ⟨#[]⟩)).far (p := ⟨w.heap.size, 2, none⟩) (Nat.ne_of_gt (Nat.lt_succ_self _)) (.int .u64 0)).far (p := ⟨w.heap.size, 3, none⟩) (Nat.ne_of_gt (Nat.lt_succ_self _)) (.int .i64 0)).far (p := ⟨w.heap.size, 4, none⟩) (Nat.ne_of_gt (Nat.lt_succ_self _)) (.int .i64 0)).set_ 0 (.int .i64 (code : Int))).set_ 1 (.int .i64 (P1 : Int))).set_ 2 (.int .i64 (P2 : Int))).drew : Blk _ (w.heap.size + 1) 43 (faultC code P1 P2))
    have HO := hide (Only.drew (only_setCell (only_setCell (only_setCell (only_setCell (only_setCell (only_setCell (only_setCell (only_setCell HH5.out.2.2 (p := ⟨w.heap.size, 0, none⟩) (.inr (Nat.le_refl _)) (.int .i64 0)) (p := ⟨w.heap.size, 1, none⟩) (.inr (Nat.le_refl _)) (.string ⟨#[]⟩)) (p := ⟨w.heap.size, 2, none⟩) (.inr (Nat.le_refl _)) (.int .u64 0)) (p := ⟨w.heap.size, 3, none⟩) (.inr (Nat.le_refl _)) (.int .i64 0)) (p := ⟨w.heap.size, 4, none⟩) (.inr (Nat.le_refl _)) (.int .i64 0)) (p := ⟨w.heap.size + 1, 0, none⟩) (.inr (Nat.le_succ _)) (.int .i64 (code : Int))) (p := ⟨w.heap.size + 1, 1, none⟩) (.inr (Nat.le_succ _)) (.int .i64 (P1 : Int))) (p := ⟨w.heap.size + 1, 2, none⟩) (.inr (Nat.le_succ _)) (.int .i64 (P2 : Int))))
    refine bodyPost_ret (res_cell_cell (p := 2) (q := 3) rfl _ _ w.heap.size (w.heap.size + 1) _ _ rfl (load_tok HT.out rfl) rfl (load_fault HF.out rfl)) rfl ⟨rfl, HO.out⟩
end Go.Proofs.YtcnihmlmaigkdaaGreatDoor
