/- The maps of package uniq: add, find (chapter 13). uniq.collect at its four instances, uniq.New, (*Index).Partition (chapter 13). Written by tools/gencollect.py. uniq.collect at ports' names, uniq.New, (*Index).Partition (chapter 13). uniq.New, (*Index).Partition (chapter 13). num.Add, at two numbers too (chapter 01): cut out of the texts of chapter 01. frame's checker of one window (chapter 15). frame.spans (chapter 15). frame.Check (chapter 15). frame.Idle (chapter 15). -/
import Derived.Test.YtkhcdnehfiopgaaFrRef1
import Derived.Maps.OwnSet
import Derived.Maps.Views
import Derived.DeepKeys4
import Derived.MapViews
import Derived.Laws.EntriesVeiled
import Derived.Test.YtkhcdnehfiopgaaFrRef3
import Derived.StillTailTactics
import Derived.Test.YtkhcdnehfiopgaaNuWord
import Derived.Test.YtkhcdnehfiopgaaNuV
import Derived.Test.YtkhcdnehfiopgaaSwAll
import Derived.Test.YtkhcdnehfiopgaaWvA
import Derived.Laws.ResultCell
import Derived.Laws.Rows
import Derived.Laws.Tables
import Derived.Test.YtkhcdnehfiopgaaFrWins
namespace Go.Proofs.Ytkhcdnehfiopgaa
open Go.RowKit Go.Sort Go.Maps Go.ChangeShapes Go.WideShapes Go.Joins
set_option linter.unusedVariables false

/-- What a map of identifiers reads as: each identifier's first place. -/
def MapU (ids : List Nat) (b : Nat) (W : World) : Prop :=
  ∃ D : DataW Unit, W.ownsMap Try.prog 38 (plainElem Try.prog 3) b ids.length D ∧
    ∀ k : Nat, k < 65536 → Maps.has D (.int .u16 (k : Int)) = decide (k ∈ ids) ∧ (k ∈ ids → D.atKey (.int .u16 (k : Int)) (.lit (.int .i64 0)) = .lit (.int .i64 (idxId ids k)))
theorem law16 : Keyed Try.prog 38 := int_keyed Try.underlying38
theorem zeroI (w : World) : (zeroValue 3).run Try.prog w = .ok (.int .i64 0) w := by kernel_rfl
theorem wf_u16 {k : Nat} (h : k < 65536) : (Lit.int .u16 (k : Int)).wf = true := by
  simp [Lit.wf, IntKind.min, IntKind.max, IntKind.signed, IntKind.bits]; omega
theorem key16 {k : Nat} (h : k < 65536) : keyOf Try.prog 38 (.int .u16 (k : Int)) = some (.int .u16 (k : Int)) := keyOf_int_mk Try.underlying38 (wf_u16 h)
theorem MapU.kept {ids : List Nat} {b : Nat} {W W' : World} {row : Option Nat} (h : MapU ids b W) (hg : W.grownBy W' row) (hne : some b ≠ row) : MapU ids b W' := by
  obtain ⟨D, h1, h2⟩ := h
  exact ⟨D, h1.kept hg hne, h2⟩
theorem MapU.alloc {ids : List Nat} {b : Nat} {W : World} (h : MapU ids b W) (o : Obj) : MapU ids b (W.alloc o) := h.kept (World.grownBy_alloc W o none) (by simp)
theorem MapU.made (w : World) : MapU [] w.heap.size (w.alloc (.map #[] 0)) :=
  ⟨.map [], World.ownsMap_made w _ _ _, fun k _ => ⟨by simp [Maps.has], fun h => by cases h⟩⟩
theorem idxId_snoc_mem {ids : List Nat} {k x : Nat} (h : x ∈ ids) : idxId (ids ++ [k]) x = idxId ids x := by
  have aux : ∀ (l : List Nat) (i : Nat), x ∈ l → idxFrom x (l ++ [k]) i = idxFrom x l i := by
    intro l
    induction l with
    | nil => intro i h; cases h
    | cons y l ih =>
      intro i h
      rw [List.cons_append, idxFrom, idxFrom]
      by_cases hy : y = x
      · rw [if_pos hy, if_pos hy]
      · rw [if_neg hy, if_neg hy]
        refine ih _ ?_
        rcases List.mem_cons.1 h with e | e
        · exact absurd e.symm hy
        · exact e
  exact aux ids 0 h
theorem idxId_snoc_new {ids : List Nat} {k : Nat} (h : k ∉ ids) : idxId (ids ++ [k]) k = (ids.length : Int) := by
  refine idxId_at (by simp) (fun j hj => ?_) (by simp)
  rw [List.getElem_append_left hj]
  intro e
  exact h (e ▸ List.getElem_mem _)
theorem idxId_not {ids : List Nat} {k : Nat} (h : k ∉ ids) : idxId ids k = -1 := idxFrom_no (fun x hx e => h (by rw [← e]; exact hx)) 0
theorem wf_i64 {n : Nat} (h : n < 9223372036854775808) : (Lit.int .i64 (n : Int)).wf = true := by
  simp [Lit.wf, IntKind.min, IntKind.max, IntKind.signed, IntKind.bits]; omega
theorem isMap_own {H : Type} {P : Program} {k : TypeId} {R : Value → Option (DataW H × List MemPlace)} {w : World} {b n : Nat} {D : DataW H} (K : Keyed P k) (h : w.ownsMap P k R b n D) : IsMap D := (h.tidy K).isMap
end Go.Proofs.Ytkhcdnehfiopgaa
namespace Go.Proofs.Ytkhcdnehfiopgaa
open Go.RowKit Go.Sort Go.Maps Go.ChangeShapes Go.WideShapes Go.Joins
set_option linter.unusedVariables false

theorem grown_of_below {W W' : World} (h : Below W.heap.size W W') (row : Option Nat) : W.grownBy W' row := ⟨h.os, h.tape, h.output, h.size, fun k hk _ => h.block k hk⟩
end Go.Proofs.Ytkhcdnehfiopgaa
namespace Go.Proofs.Ytkhcdnehfiopgaa
open Go.RowKit Go.Sort Go.Maps Go.ChangeShapes Go.WideShapes Go.Joins
set_option linter.unusedVariables false

end Go.Proofs.Ytkhcdnehfiopgaa
namespace Go.Proofs.Ytkhcdnehfiopgaa
open Go.RowKit Go.Sort Go.Maps Go.ChangeShapes Go.WideShapes Go.Joins
set_option linter.unusedVariables false

theorem grown_of_but {b : Nat} {W W' : World} (h : But (fun i => i = b) W W') : W.grownBy W' (some b) := ⟨h.os, h.tape, h.output, h.size, fun k hk hne => h.block k hk (fun e => hne (by rw [e]))⟩
theorem MapU.lt {ids : List Nat} {b : Nat} {W : World} (h : MapU ids b W) : b < W.heap.size := by obtain ⟨D, h, _⟩ := h; exact h.lt
theorem MapU.but {ids : List Nat} {b b' : Nat} {W W' : World} (h : MapU ids b W) (hb : But (fun i => i = b') W W') (hne : b ≠ b') : MapU ids b W' := h.kept (grown_of_but hb) (fun e => hne (by injection e))
theorem MapU.drew {ids : List Nat} {b : Nat} {W : World} (h : MapU ids b W) : MapU ids b W.drew := h
end Go.Proofs.Ytkhcdnehfiopgaa
namespace Go.Proofs.Ytkhcdnehfiopgaa
open Go.RowKit Go.Lib
set_option linter.unusedVariables false

theorem fitO_ltA {n m : Nat} (h : fitO n = some m) : m < top64 := by obtain ⟨rfl, h⟩ := fitO_some h; exact h
theorem plusO_ltA {a b m : Nat} (h : plusO a b = some m) : m < top64 := fitO_ltA h
theorem timesO_ltA {a b m : Nat} (h : timesO a b = some m) : m < top64 := fitO_ltA h
theorem reads_atA {w wr : World} {A : Option Addr} {len k : Nat} {l : List Nat} (hr : Reads w w.heap.size 1 A len (l.map U64)) (hl : l.length = len) (hx : ∀ x ∈ l, x < top64) (hk : k < len) (hb : Below w.heap.size w wr) :
    ∃ (ad : Addr) (x : Nat), A = some ad ∧ ad.block < w.heap.size ∧ wr.cell? (ad.add k) = some (.int .u64 (x : Int)) ∧ x < top64 ∧ l.drop k = x :: l.drop (k + 1) := by
  obtain ⟨ad, u, hA, hbk, hu, hc⟩ := (hr.below hb).at_ hk
  have hk2 : k < l.length := by omega
  rw [List.getElem?_map, List.getElem?_eq_getElem hk2] at hu
  injection hu with hu
  subst hu
  exact ⟨ad, l[k], hA, hbk, hc, hx _ (List.getElem_mem hk2), List.drop_eq_getElem_cons hk2⟩

set_option maxHeartbeats 400000 in
theorem foldW_plusA (n0 : Nat) (h0 : n0 < top64) (A : Option Addr) (len cap : Nat) (l : List Nat) (hl : l.length = len) (hlen : len ≤ 9223372036854775807) (hx : ∀ x ∈ l, x < top64) (w : World)
    (hr : Reads w w.heap.size 1 A len (l.map U64)) :
    Calls Try.prog 55 #[.int .u64 (n0 : Int), .func (.func 56) #[] #[], .slice A len cap] w (FoldV (foldO plusO n0 l) w) := by
  have HL := hide hl
  have HX := hide hx
  have HR := hide hr
  have H0 := hide h0
  clear hl hx hr h0
  go_enter Try.func55, Try.ntmps55
  go_wp2
  go_loopw [8, 15] (fun n i wr => ∃ k acc : Nat, k ≤ len ∧ n = .int .u64 (acc : Int) ∧ i = .int .i64 (k : Int) ∧ Hid (acc < top64 ∧ foldO plusO n0 l = foldO plusO acc (l.drop k)) ∧ Below w.heap.size w wr) (fun _ i _ => len - (RowKit.intOf i).toNat)
  case atStart => exact ⟨0, n0, Nat.zero_le _, rfl, rfl, ⟨H0.out, rfl⟩, Below.refl _ _⟩
  case round =>
    obtain ⟨k, acc, hk, rfl, rfl, hH, hbl⟩ := hrel
    by_cases hlt : k < len
    · obtain ⟨ad, x, hA, hbk, hcell, hxl, hdrop⟩ := reads_atA HR.out HL.out HX.out hlt hbl
      subst hA
      have hP := fun W => plus_calls acc x hH.out.1 hxl W
      have e1 : foldO plusO n0 l = (match plusO acc x with | none => none | some m => foldO plusO m (l.drop (k + 1))) := by rw [hH.out.2, hdrop]; rfl
      have HP := hide hP
      have E1 := hide e1
      clear hP e1 hdrop hxl
      rcases hc : plusO acc x with _ | m
      · have e2 : foldO plusO n0 l = none := by rw [E1.out, hc]
        have HC := hide hc
        have E2 := hide e2
        clear hc e2
        go_wp2_with (go_at_call 56; refine (HP.out _).mono ?_; rintro e w' hO; obtain ⟨m, rfl, hb2⟩ := hO.no HC.out)
        go_ret2
        exact ⟨by rw [E2.out]; rfl, hbl.trans (hb2.mono hbl.size)⟩
      · have e2 : foldO plusO n0 l = foldO plusO m (l.drop (k + 1)) := by rw [E1.out, hc]
        have hm : m < top64 := plusO_ltA hc
        have HC := hide hc
        have E2 := hide (And.intro hm e2)
        clear hc e2 hm
        go_wp2_with (go_at_call 56; refine (HP.out _).mono ?_; rintro e w' hO; obtain ⟨rfl, hb2⟩ := hO.yes HC.out)
        go_roundw
        case rel => exact ⟨k + 1, m, by omega, rfl, by go_num, E2.out, hbl.trans (hb2.mono hbl.size)⟩
        case measure => simp [RowKit.intOf]; omega
    · obtain rfl : k = len := by omega
      have e2 : foldO plusO n0 l = some acc := by rw [hH.out.2, List.drop_of_length_le (by rw [HL.out]; omega)]; rfl
      have E2 := hide e2
      clear e2
      go_wp2_with fail
      go_ret2
      exact ⟨by rw [E2.out]; rfl, hbl⟩

theorem NumAdd_calls (A : Option Addr) (len cap : Nat) (l : List Nat) (hl : l.length = len) (hlen : len ≤ 9223372036854775807) (hx : ∀ x ∈ l, x < top64) (w : World) (hr : Reads w w.heap.size 1 A len (l.map U64)) :
    Calls Try.prog 40 #[.slice A len cap] w (FoldV (foldO plusO 0 l) w) := by
  have hf := foldW_plusA 0 (by decide) A len cap l hl hlen hx w hr
  unfold FoldV at hf ⊢
  obtain ⟨m, k, hv⟩ := optV_shape (foldO plusO 0 l)
  rw [hv] at hf ⊢
  have H := hide hf
  clear hr hx hl hf hv
  go_enter Try.func40, Try.ntmps40
  go_wp2_with (go_at_call 55; refine H.out.mono ?_; rintro e w' ⟨rfl, hb⟩)
  go_ret2
  exact ⟨rfl, hb⟩
theorem reads_twoA (w : World) (a b : Nat) (t : TypeId) : Reads (w.alloc (.cells #[.int .u64 (a : Int), .int .u64 (b : Int)] t)) (w.alloc (.cells #[.int .u64 (a : Int), .int .u64 (b : Int)] t)).heap.size 1 (some ⟨w.heap.size, 0, none⟩) 2 ([a, b].map U64) := by
  refine ⟨rfl, fun _ => ⟨_, rfl, by simp, fun j u hu => ?_⟩⟩
  have hB := Blk.new w t #[.int .u64 (a : Int), .int .u64 (b : Int)]
  have e : (⟨w.heap.size, 0, none⟩ : Addr).add j = ⟨w.heap.size, j, none⟩ := by unfold Addr.add; split <;> simp_all
  rw [e, hB.cell, ← Array.getElem?_toList]
  exact hu
theorem foldO_two_plusA (a b : Nat) (ha : a < top64) : foldO plusO 0 [a, b] = plusO a b := by
  have h1 : plusO 0 a = some a := by unfold plusO fitO; rw [Nat.zero_add, if_pos ha]
  simp only [foldO, h1]
  cases plusO a b <;> rfl
/-- num.Add at two numbers in a new slice. -/
theorem Add_twoA (a b : Nat) (ha : a < top64) (hb : b < top64) (w : World) (t : TypeId) :
    Calls Try.prog 40 #[.slice (some ⟨w.heap.size, 0, none⟩) 2 2] (w.alloc (.cells #[.int .u64 (a : Int), .int .u64 (b : Int)] t)) fun e w' => e = .returned (optV (plusO a b)) ∧ Below w.heap.size w w' :=
  (NumAdd_calls _ 2 2 [a, b] rfl (by omega) (by intro x hx; simp at hx; rcases hx with rfl | rfl <;> assumption) _ (reads_twoA w a b t)).mono fun e w' ⟨he, hb⟩ =>
    ⟨by rw [he, foldO_two_plusA a b ha], ((Below.refl _ w).alloc (Nat.le_refl _) _).trans (hb.mono (by simp))⟩
end Go.Proofs.Ytkhcdnehfiopgaa
namespace Go.Proofs.Ytkhcdnehfiopgaa
open Go.RowKit Go.Sort
set_option linter.unusedVariables false

/-- A window's code, as the program reckons it. -/
def winP (f : Nat) (ps : List Nat) (x : WinR) : Nat := if idxId ps x.part < 0 then 19 else match plusO x.st x.len with | none => 20 | some m => if x.len = 0 ∨ f < m then 20 else 0
theorem winP_eq (c : Cfg) (x : WinR) (hf : c.frame < 18446744073709551616) : winP c.frame (ids c.parts.l) x = winCode c x := by
  unfold winP winCode
  split
  · rfl
  · unfold plusO fitO top64
    split
    · rename_i h
      split at h
      · cases h
      · rw [if_pos (by omega)]
    · rename_i m h
      split at h
      · injection h with h
        subst h
        by_cases h1 : x.len = 0
        · rw [if_pos (.inl h1), if_pos (.inl h1)]
        · by_cases h2 : c.frame < x.st + x.len
          · rw [if_pos (.inr h2), if_pos (by omega)]
          · rw [if_neg (by omega), if_neg (by omega)]
      · cases h
theorem ret_i64 {a b : Nat} (h : a = b) : Ending.returned (.int .i64 (a : Int)) = .returned (.int .i64 (b : Int)) := by rw [h]
end Go.Proofs.Ytkhcdnehfiopgaa
namespace Go.Proofs.Ytkhcdnehfiopgaa
open Go.RowKit Go.Sort
set_option linter.unusedVariables false

theorem sp_cells_at (w : World) (s : Nat × Nat) (t : TypeId) (g : Nat) (hg : g = w.heap.size) : ∀ j u, (spL s)[j]? = some u → (w.alloc (.cells #[.int .u64 (s.1 : Int), .int .u64 (s.2 : Int)] t)).cell? ((⟨g, 0, none⟩ : Addr).add j) = some u := by
  subst hg; exact sp_cells w s t
end Go.Proofs.Ytkhcdnehfiopgaa
namespace Go.Proofs.Ytkhcdnehfiopgaa
open Go.RowKit Go.Sort
set_option linter.unusedVariables false

def fltC (r : Nat × Nat × Nat) : Array Value := #[.int .i64 (r.1 : Int), .int .i64 (r.2.1 : Int), .int .i64 (r.2.2 : Int)]
theorem flt_size (r : Nat × Nat × Nat) (T : TypeId) (hT : T = 36) : (Try.prog.info? T).map (·.size) = some (fltC r).size := by subst hT; kernel_rfl
theorem flt_one (r : Nat × Nat × Nat) : (fltC r).all (·.oneCell') = true := by rw [← Array.all_toList]; rfl
theorem row_put3 {w : World} {B : Nat} {t : TypeId} {cs cs' : Array Value} (h : Blk w B t cs) : Blk (w.setRow B cs') B t cs' := setRow_heap w B cs cs' t (0, 0) h
theorem below_row {a w : World} {B g : Nat} (h : Below B a w) (hg : B ≤ g) (cs : Array Value) : Below B a (w.setRow g cs) :=
  ⟨h.os, h.tape, h.output, Nat.le_trans h.size (by simp [World.setRow]), fun i hi => (setRow_other w g i cs (by omega)).trans (h.block i hi)⟩
theorem load_flt {w : World} {g : Nat} {cs : Array Value} (hg : Blk w g 36 cs) (hc : cs.size = 3) : (loadVar 36 ⟨g, 0, none⟩).run Try.prog w = .ok (.agg cs) w :=
  run_loadVar_row (P := Try.prog) w g 36 36 cs (0, 0) _ hg Try.underlying36 rfl (by rw [hc]; kernel_rfl)
theorem res_cell1 {fn : Func} {p : Tmp} {ty : TypeId} (h : fn.results = #[.cell p ty]) (tmps : Array Value) (w : World) (g : Nat) (cs : Array Value)
    (hp : tmps.getD p undef = .pointer (some ⟨g, 0, none⟩)) (hl : (loadVar ty ⟨g, 0, none⟩).run Try.prog w = .ok (.agg cs) w) :
    (results fn tmps).run Try.prog w = .ok (.agg cs) w := by
  have hp' : tmps[p]?.getD undef = .pointer (some ⟨g, 0, none⟩) := by simpa using hp
  simp [results, h, hp', asAddr, hl]
/-- The configuration's box, and the result's. -/
def Boxed3 (w : World) (c : Cfg) (W : World) : Prop := Boxed1 w c W ∧ Blk W (w.heap.size + 1) 36 (fltC (0, 0, 0))
theorem Boxed3.below {w W W' : World} {c : Cfg} (h : Boxed3 w c W) (hb : Below W.heap.size W W') : Boxed3 w c W' := ⟨h.1.below hb, h.2.below hb h.2.lt⟩
theorem Boxed3.alloc {w W : World} {c : Cfg} (h : Boxed3 w c W) (o : Obj) : Boxed3 w c (W.alloc o) := ⟨h.1.alloc o, h.2.alloc o⟩
theorem Boxed3.drew {w W : World} {c : Cfg} (h : Boxed3 w c W) : Boxed3 w c W.drew := ⟨⟨h.1.1.drew, h.1.2⟩, h.2⟩
theorem Boxed3.start (w : World) (c : Cfg) : Boxed3 w c ((w.alloc (.cells (cfgC c) 29)).alloc (.cells (fltC (0, 0, 0)) 36)) := by
  refine ⟨(Boxed1.start w c).alloc _, ?_⟩
  have := Blk.new (w.alloc (.cells (cfgC c) 29)) 36 (fltC (0, 0, 0))
  rwa [World.size_alloc] at this
/-- The end: the fault stored in the result's box. -/
theorem Boxed3.stored {w W : World} {c : Cfg} (h : Boxed3 w c W) (r : Nat × Nat × Nat) : (loadVar 36 ⟨w.heap.size + 1, 0, none⟩).run Try.prog (W.setRow (w.heap.size + 1) (fltC r)) = .ok (.agg (fltC r)) (W.setRow (w.heap.size + 1) (fltC r)) ∧ Below w.heap.size w (W.setRow (w.heap.size + 1) (fltC r)) :=
  ⟨load_flt (row_put3 h.2) rfl, below_row h.1.1 (by omega) _⟩
theorem ok_of_code {c : Cfg} {x : WinR} (h : winCode c x = 0) (hf : c.frame < 18446744073709551616) : okSpan (wsp x) := by
  unfold winCode at h
  split at h
  · cases h
  · split at h
    · cases h
    · unfold okSpan wsp
      simp only
      omega
theorem ret_f {a b : Nat × Nat × Nat} (h : a = b) : Ending.returned (.agg (fltC a)) = .returned (.agg (fltC b)) := by rw [h]
end Go.Proofs.Ytkhcdnehfiopgaa
namespace Go.Proofs.Ytkhcdnehfiopgaa
open Go.RowKit Go.Sort
set_option linter.unusedVariables false

def idW (s : Nat × Nat) : WinR := ⟨s.1, s.2, 0⟩
end Go.Proofs.Ytkhcdnehfiopgaa
