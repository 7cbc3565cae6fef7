/- A law's end, whatever its arguments are: they read behind the call as they read before, since nothing below the heap's old size has turned; slices of numbers opened. A configuration as an argument, opened. The walks of the reference's Partition, Counts, Few (chapters 13, 5): configurations that came in. The walks of the reference's Counts and Few (chapter 5). The walks of the reference's span, Check, Right and of the law's right (chapter 15). conf.Counts and show.Line (chapters 05, 08). -/
import Derived.Test.YtcnihmlmaigkdaaGreatDoorMMem
import Derived.Test.YtcnihmlmaigkdaaGreatDoorProg
import Derived.Carry
import Derived.OpenShut
import Derived.ChangeSlices
import Derived.RowKit
import Derived.Test.YtcnihmlmaigkdaaGreatDoorMCfD
import Derived.Test.YtcnihmlmaigkdaaGreatDoorRows
import Derived.Deep.Slices
import Derived.Deep.Fields
import Derived.ChangeSame
import Derived.Lib.SmallJoins
import Derived.Test.YtcnihmlmaigkdaaGreatDoorSwRef1
import Derived.Laws.ResultCell
import Derived.Laws.Rows
import Derived.Laws.Tables
import Derived.BigGuardPart
namespace Go.Proofs.YtcnihmlmaigkdaaGreatDoor
open Go.RowKit Go.WideShapes Go.ChangeShapes Go.WideElems

theorem laidOut : laidOutB Tryz.prog = true := by kernel_rfl
section
variable {H : Type} {enc : TypeId × Value → H}
/-- Each type of the list can be read and is a row of the table: one closed fact. -/
def typesRead (P : Program) (ts : List TypeId) : Bool := ts.all fun t => P.readableRec t && decide (t < P.types.size)
theorem trodAll_keep {P : Program} (hlo : laidOutB P = true) {W W' : World} (hb : Below W.heap.size W W') (sp : Nat → Bool) :
    ∀ {ts : List TypeId} {vs : List Value} {ds : List (DataW H)} {ps : List MemPlace}, typesRead P ts = true → DataW.TrodAll enc P W 0 (fun _ => true) true ts vs ds ps →
      (∀ x ∈ ps, x.block < W.heap.size) → (∀ x ∈ ps, sp x.block = true) → DataW.TrodAll enc P W' 0 sp true ts vs ds ps
  | [], [], [], _, _, h, _, _ => h
  | t :: ts, _ :: _, _ :: _, _, hr, ⟨p, q, h1, h2, e⟩, hl, hs => by
    simp only [typesRead, List.all_cons, Bool.and_eq_true, decide_eq_true_eq] at hr
    refine ⟨p, q, Trod_stays hlo hr.1.1 hr.1.2 h1 (fun x hx => hb.same (hl x (by rw [e]; exact List.mem_append_left _ hx))) (fun x hx => hs x (by rw [e]; exact List.mem_append_left _ hx)), ?_, e⟩
    exact trodAll_keep hlo hb sp (by simpa [typesRead] using hr.2) h2 (fun x hx => hl x (by rw [e]; exact List.mem_append_right _ hx)) (fun x hx => hs x (by rw [e]; exact List.mem_append_right _ hx))
theorem trodAll_stays {W W' : World} (hb : Below W.heap.size W W') (sp : Nat → Bool) {ts : List TypeId} {vs : List Value} {ds : List (DataW H)} {ps : List MemPlace} (hr : typesRead Tryz.prog ts = true) (h : DataW.TrodAll enc Tryz.prog W 0 (fun _ => true) true ts vs ds ps)
    (hl : ∀ x ∈ ps, x.block < W.heap.size) (hs : ∀ x ∈ ps, sp x.block = true) : DataW.TrodAll enc Tryz.prog W' 0 sp true ts vs ds ps := trodAll_keep laidOut hb sp hr h hl hs

end
end Go.Proofs.YtcnihmlmaigkdaaGreatDoor
namespace Go.Proofs.YtcnihmlmaigkdaaGreatDoor
open Go.RowKit Go.WideShapes Go.ChangeShapes Go.WideElems Go.Deep Go.Joins
set_option linter.unusedVariables false

/-! ### Opened -/
theorem list_of_each {α : Type} {R : Nat → α → Prop} : ∀ n, (∀ i, i < n → ∃ c, R i c) → ∃ l : List α, l.length = n ∧ ∀ i, (hi : i < l.length) → R i l[i] := by
  intro n
  induction n with
  | zero => intro _; exact ⟨[], rfl, fun i h => absurd h (by simp)⟩
  | succ n ih =>
    intro h
    obtain ⟨l, hl, hR⟩ := ih (fun i hi => h i (by omega))
    obtain ⟨c, hc⟩ := h n (by omega)
    refine ⟨l ++ [c], by simp [hl], fun i hi => ?_⟩
    by_cases hin : i < n
    · rw [List.getElem_append_left (by omega)]; exact hR i _
    · have : i = n := by simp [hl] at hi; omega
      subst this
      rw [List.getElem_append_right (by omega)]
      simpa [hl] using hc
theorem nat_u64 {z : Int} (h : (Lit.int .u64 z).wf = true) : ∃ n : Nat, z = (n : Int) ∧ n < 18446744073709551616 := by
  have := bounds_u64 h
  exact ⟨z.toNat, by omega, by omega⟩
theorem nat_u32 {z : Int} (h : (Lit.int .u32 z).wf = true) : ∃ n : Nat, z = (n : Int) ∧ n < 4294967296 := by
  have := bounds_u32 h
  exact ⟨z.toNat, by omega, by omega⟩
theorem nat_u16 {z : Int} (h : (Lit.int .u16 z).wf = true) : ∃ n : Nat, z = (n : Int) ∧ n < 65536 := by
  have := bounds_u16 h
  exact ⟨z.toNat, by omega, by omega⟩
theorem nat_u8 {z : Int} (h : (Lit.int .u8 z).wf = true) : ∃ n : Nat, z = (n : Int) ∧ n < 256 := by
  have := bounds_u8 h
  exact ⟨z.toNat, by omega, by omega⟩
section
variable {H : Type} {enc : TypeId × Value → H} {P : Program} {w : World}
theorem open_elems {base : Nat} {spare : Nat → Bool} {held : Bool} {t e : TypeId} {fs : Array Field} {fuel : Nat} {cs : List Value} {x : DataW H × List MemPlace} (ht : P.underlying t = some (.slice e)) (he : P.underlying e = some (.struct fs))
    (hone : oneCellFields P fs = true) (hC : P.cellsOf e = fs.size) (h : DataW.trod enc P w base spare held fuel t cs = some x) :
    (cs = [.slice none 0 0] ∧ x = (.nil, [])) ∨
    ∃ (a : Addr) (len cap m : Nat) (D : Nat → DataW H) (Pl : Nat → List MemPlace), cs = [.slice (some a) len cap] ∧ base ≤ a.block ∧ len ≤ cap ∧ cap ≤ maxLen ∧ m = (if spare a.block then cap else len) ∧
      x = (.slice ((List.range len).map D) ((List.range (m - len)).map fun j => D (len + j)), MemPlace.row a (m * fs.size) ++ (List.range m).flatMap Pl) ∧
      ∀ i, i < m → ∃ (ys : List (DataW H × List MemPlace)) (n : Nat), D i = .agg (ys.map (·.1)) ∧ Pl i = ys.flatMap (·.2) ∧ ys.length = fs.size ∧
        ∀ (j : Nat) (f : Field), fs[j]? = some f → ∃ (v : Value) (y : DataW H × List MemPlace), w.cell? (a.add (i * fs.size + j)) = some v ∧ ys[j]? = some y ∧ DataW.trod enc P w base spare held n f.type [v] = some y := by
  rcases open_slice ht h with h0 | ⟨a, len, cap, m, n, D, Pl, hcs, hb, hl, hm, hmm, hx, hi⟩
  · exact .inl h0
  · refine .inr ⟨a, len, cap, m, D, Pl, hcs, hb, hl, hm, hmm, by rw [hC] at hx; exact hx, fun i him => ?_⟩
    obtain ⟨cs', hc, ht'⟩ := hi i him
    rw [hC] at hc
    obtain ⟨ys, n', hn', hy, hlen, hyl, hf⟩ := DataW.trod_struct he ht'
    obtain ⟨_, hcl, hat⟩ := World.cells?_some hc
    simp only [Prod.mk.injEq] at hy
    refine ⟨ys, n', hy.1, hy.2, hyl, fun j f hj => ?_⟩
    obtain ⟨ho, hk⟩ := hone_of hone j f hj
    have hjl : j < fs.size := (Array.getElem?_eq_some_iff.1 hj).1
    have hcell := hat j hjl
    have hv : cs'[j]? = some (cs'[j]'(by omega)) := List.getElem?_eq_getElem (by omega)
    have h1 := hf j f hj
    rw [ho, hk] at h1
    have hone' : (cs'.drop j).take 1 = [cs'[j]'(by omega)] := by
      rw [List.drop_eq_getElem_cons (by omega)]
      rfl
    rw [hone'] at h1
    have hys : ys[j]? = some (ys[j]'(by omega)) := List.getElem?_eq_getElem (by omega)
    refine ⟨_, _, ?_, hys, h1.trans hys⟩
    rw [← Go.Deep.add_add, hcell, hv]
theorem cell_lt_any {a : Addr} {v : Value} (h : w.cell? a = some v) : a.block < w.heap.size := by
  rcases Nat.lt_or_ge a.block w.heap.size with hl | hl
  · exact hl
  · simp [World.cell?, Array.getElem?_eq_none hl] at h
/-- A list of elements of k cells, cell by cell, is a row. -/
theorem reads_of_cells {α : Type} {encα : α → List Value} {k : Nat} (hk : ∀ x, (encα x).length = k) (hk0 : 0 < k) (a : Addr) (l : List α) (h : ∀ i, (hi : i < l.length) → ∀ j, j < k → w.cell? (a.add (i * k + j)) = (encα l[i])[j]?) :
    Reads w w.heap.size k (some a) l.length (l.flatMap encα) := by
  refine ⟨flat_len encα k hk l, fun h0 => ⟨a, rfl, ?_, ?_⟩⟩
  · have h1 := h 0 h0 0 hk0
    rw [List.getElem?_eq_getElem (by rw [hk]; exact hk0)] at h1
    have h2 := cell_lt_any h1
    rwa [block_of_add] at h2
  · intro j u hu
    have hjl : j < l.length * k := by rw [← flat_len encα k hk l]; exact (List.getElem?_eq_some_iff.1 hu).1
    have hi2 : j / k < l.length := Nat.div_lt_of_lt_mul (by rw [Nat.mul_comm]; exact hjl)
    have hj2 : j % k < k := Nat.mod_lt _ hk0
    have ej : j / k * k + j % k = j := by rw [Nat.mul_comm]; exact Nat.div_add_mod j k
    have e := flat_get encα k hk l (j / k) (j % k) hi2 hj2
    have hc := h (j / k) hi2 (j % k) hj2
    rw [ej] at e hc
    rw [hc, ← e, hu]
theorem bulk_one (d : DataW H) : 1 ≤ Rows.uptoBulk d := by
  cases d with
  | lit l => cases l <;> simp [Rows.uptoBulk]
  | _ => simp [Rows.uptoBulk]
theorem bulk_sum {α : Type} {Wt : α → Nat} : ∀ (l : List α) (M : List (DataW H)), l.length = M.length → (∀ i, (h : i < l.length) → (h' : i < M.length) → Wt l[i] ≤ Rows.uptoBulk M[i]) → (l.map Wt).sum ≤ Rows.uptoBulkAll M
  | [], [], _, _ => by simp
  | x :: l, y :: M, hl, h => by
    have h0 := h 0 (by simp) (by simp)
    have h1 := bulk_sum l M (by simpa using hl) (fun i hi hi' => h (i + 1) (by simpa using hi) (by simpa using hi'))
    simp only [List.map_cons, List.sum_cons, Rows.uptoBulkAll]
    simp only [List.getElem_cons_zero] at h0
    omega
  | [], _ :: _, hl, _ => by simp at hl
  | _ :: _, [], hl, _ => by simp at hl
theorem bulk_part {d : DataW H} {l : List (DataW H)} (h : d ∈ l) : Rows.uptoBulk d ≤ Rows.uptoBulkAll l := by
  induction l with
  | nil => cases h
  | cons x r ih =>
    simp only [Rows.uptoBulkAll]
    rcases List.mem_cons.1 h with e | e
    · subst e; omega
    · have := ih e; omega
theorem bulk_len (l : List (DataW H)) : l.length ≤ Rows.uptoBulkAll l := by
  induction l with
  | nil => simp
  | cons x r ih => have := bulk_one x; simp only [Rows.uptoBulkAll, List.length_cons]; omega
theorem open_row {α : Type} {encα : α → List Value} {k : Nat} (hk : ∀ x, (encα x).length = k) (hk0 : 0 < k) {Ok : α → Prop} {Wt : α → Nat} {t e : TypeId} {fs : Array Field} {fuel : Nat} {v : Value} {x : DataW H × List MemPlace}
    (ht : P.underlying t = some (.slice e)) (he : P.underlying e = some (.struct fs)) (hone : oneCellFields P fs = true) (hC : P.cellsOf e = fs.size) (hfs : fs.size = k) (h : DataW.trod enc P w 0 (fun _ => true) true fuel t [v] = some x)
    (each : ∀ (a : Addr) (i n : Nat) (ys : List (DataW H × List MemPlace)), (∀ (j : Nat) (f : Field), fs[j]? = some f → ∃ (v : Value) (y : DataW H × List MemPlace), w.cell? (a.add (i * fs.size + j)) = some v ∧ ys[j]? = some y ∧ DataW.trod enc P w 0 (fun _ => true) true n f.type [v] = some y) →
      ∃ x : α, (Ok x ∧ Wt x ≤ Rows.uptoBulk (DataW.agg (ys.map (·.1)))) ∧ ∀ j, j < k → w.cell? (a.add (i * k + j)) = (encα x)[j]?) :
    ∃ r : Row α, v = .slice r.a r.l.length r.c ∧ ((∀ x ∈ r.l, Ok x) ∧ (r.l.map Wt).sum ≤ Rows.uptoBulk x.1) ∧ RowAt encα k w.heap.size r w := by
  rcases open_elems ht he hone hC h with ⟨hcs, _⟩ | ⟨a, len, cap, m, D, Pl, hcs, _, hl, hm, hmm, hx, hi⟩
  · injection hcs with hcs
    subst hcs
    exact ⟨⟨[], none, 0⟩, rfl, ⟨fun s hs => (by cases hs), by simp⟩, ⟨by simp, fun h => absurd h (by simp)⟩, Nat.le_refl _, Nat.zero_le _⟩
  · injection hcs with hcs
    subst hcs
    rw [if_pos rfl] at hmm
    obtain rfl := hmm.symm
    have hal : ∀ i, i < len → ∃ x : α, (Ok x ∧ Wt x ≤ Rows.uptoBulk (D i)) ∧ ∀ j, j < k → w.cell? (a.add (i * k + j)) = (encα x)[j]? := by
      intro i hil
      obtain ⟨ys, n, hD, _, _, hfl⟩ := hi i (by omega)
      rw [hD]
      exact each a i n ys hfl
    obtain ⟨l, hll, hR⟩ := list_of_each len hal
    subst hll
    have hsum : (l.map Wt).sum ≤ Rows.uptoBulk x.1 := by
      rw [hx]
      have := bulk_sum (Wt := Wt) l ((List.range l.length).map D) (by simp) (fun i h h' => by simpa using (hR i h).1.2)
      simp only [Rows.uptoBulk]
      omega
    refine ⟨⟨l, some a, cap⟩, rfl, ⟨fun s hs => ?_, hsum⟩, reads_of_cells hk hk0 a l (fun i hi => (hR i hi).2), hl, by simpa only [maxLen] using hm⟩
    obtain ⟨i, hi, rfl⟩ := List.getElem_of_mem hs
    exact (hR i hi).1.1
/-- A slice of numbers of 16 bits. -/
theorem open_u16s {t e : TypeId} {fuel : Nat} {v : Value} {x : DataW H × List MemPlace} (ht : P.underlying t = some (.slice e)) (he : P.underlying e = some (.int .u16)) (hC : P.cellsOf e = 1) (h : DataW.trod enc P w 0 (fun _ => true) true fuel t [v] = some x) :
    ∃ (l : List Nat) (A : Option Addr) (c : Nat), v = .slice A l.length c ∧ (∀ d ∈ l, d < 65536) ∧ Reads w w.heap.size 1 A l.length (l.map destL) ∧ l.length ≤ c ∧ c ≤ 9223372036854775807 ∧ l.length ≤ Rows.uptoBulk x.1 := by
  rcases open_slice ht h with ⟨hcs, _⟩ | ⟨a, len, cap, m, n, D, Pl, hcs, hb, hl, hm, hmm, hx, hi⟩
  · injection hcs with hcs
    subst hcs
    exact ⟨[], none, 0, rfl, fun s hs => (by cases hs), ⟨by simp, fun h => absurd h (by simp)⟩, Nat.le_refl _, Nat.zero_le _, by simp⟩
  · injection hcs with hcs
    subst hcs
    rw [if_pos rfl] at hmm
    obtain rfl := hmm.symm
    have hal : ∀ i, i < len → ∃ d : Nat, d < 65536 ∧ w.cell? (a.add i) = some (destL d) := by
      intro i hil
      obtain ⟨cs', hc, ht'⟩ := hi i (by omega)
      obtain ⟨_, hcl, hat⟩ := World.cells?_some hc
      obtain ⟨z, rfl, _, wz⟩ := DataW.trod_int he ht'
      obtain ⟨d, rfl, hd⟩ := nat_u16 wz
      refine ⟨d, hd, ?_⟩
      have := hat 0 (by omega)
      rw [hC, Nat.mul_one, Go.Deep.add_add, Nat.add_zero] at this
      exact this
    obtain ⟨l, hll, hR⟩ := list_of_each len hal
    subst hll
    have hk1 : ∀ x : Nat, ([destL x] : List Value).length = 1 := fun _ => rfl
    have hr := reads_of_cells (w := w) hk1 (by omega) a l (fun i hi j hj => by
      have : j = 0 := by omega
      subst this
      rw [Nat.mul_one, Nat.add_zero]
      exact (hR i hi).2)
    have hf : l.flatMap (fun x => [destL x]) = l.map destL := flat_one l
    have hbk : l.length ≤ Rows.uptoBulk x.1 := by
      rw [hx]
      have := bulk_len ((List.range l.length).map D)
      simp only [Rows.uptoBulk]
      simp only [List.length_map, List.length_range] at this
      omega
    refine ⟨l, some a, cap, rfl, fun d hd => ?_, by rw [← hf]; exact hr, hl, by simpa only [maxLen] using hm, hbk⟩
    obtain ⟨i, hi, rfl⟩ := List.getElem_of_mem hd
    exact (hR i hi).1
end
section
variable {H : Type} {enc : TypeId × Value → H} {P : Program} {w : World} {base : Nat} {spare : Nat → Bool} {held : Bool}
theorem open_agg6 {r : Reach} {b0 : Nat} {t : TypeId} {f0 f1 f2 f3 f4 f5 : Field} {v : Value} {d : DataW H} {p : List MemPlace} (hs : P.underlying t = some (.struct #[f0, f1, f2, f3, f4, f5])) (hone : oneCellFields P #[f0, f1, f2, f3, f4, f5] = true) (hC : P.cellsOf t = 6)
    (hv : Value.okWide P w r b0 t v) (h : DataW.Trod enc P w base spare held t v d p) :
    ∃ (v0 v1 v2 v3 v4 v5 : Value) (y0 y1 y2 y3 y4 y5 : DataW H × List MemPlace) (n : Nat), v = .agg #[v0, v1, v2, v3, v4, v5] ∧ d = .agg [y0.1, y1.1, y2.1, y3.1, y4.1, y5.1] ∧ p = y0.2 ++ (y1.2 ++ (y2.2 ++ (y3.2 ++ (y4.2 ++ y5.2)))) ∧
      DataW.trod enc P w base spare held n f0.type [v0] = some y0 ∧ DataW.trod enc P w base spare held n f1.type [v1] = some y1 ∧ DataW.trod enc P w base spare held n f2.type [v2] = some y2 ∧ DataW.trod enc P w base spare held n f3.type [v3] = some y3 ∧ DataW.trod enc P w base spare held n f4.type [v4] = some y4 ∧ DataW.trod enc P w base spare held n f5.type [v5] = some y5 := by
  obtain ⟨cs, rfl, hsz⟩ := okWide_struct hs hv
  obtain ⟨l⟩ := cs
  match l, hsz.trans hC with
  | [c0, c1, c2, c3, c4, c5], _ =>
    obtain ⟨fuel, hf⟩ := h
    obtain ⟨xs, n, _, hx, _, hlen, hg⟩ := DataW.trod_struct hs hf
    obtain ⟨o0, k0⟩ := hone_of hone 0 f0 rfl
    obtain ⟨o1, k1⟩ := hone_of hone 1 f1 rfl
    obtain ⟨o2, k2⟩ := hone_of hone 2 f2 rfl
    obtain ⟨o3, k3⟩ := hone_of hone 3 f3 rfl
    obtain ⟨o4, k4⟩ := hone_of hone 4 f4 rfl
    obtain ⟨o5, k5⟩ := hone_of hone 5 f5 rfl
    match xs, hlen with
    | [y0, y1, y2, y3, y4, y5], _ =>
      simp only [Prod.mk.injEq] at hx
      exact ⟨c0, c1, c2, c3, c4, c5, y0, y1, y2, y3, y4, y5, n, rfl, by simpa using hx.1, by simpa using hx.2, by simpa [Value.cells, o0, k0] using hg 0 f0 rfl, by simpa [Value.cells, o1, k1] using hg 1 f1 rfl, by simpa [Value.cells, o2, k2] using hg 2 f2 rfl, by simpa [Value.cells, o3, k3] using hg 3 f3 rfl, by simpa [Value.cells, o4, k4] using hg 4 f4 rfl, by simpa [Value.cells, o5, k5] using hg 5 f5 rfl⟩
end
section
variable {H : Type} {enc : TypeId × Value → H}
set_option maxRecDepth 100000 in
theorem open_parts {fuel : Nat} {W : World} {v : Value} {x : DataW H × List MemPlace} (h : DataW.trod enc Tryz.prog W 0 (fun _ => true) true fuel 23 [v] = some x) :
    ∃ r : Row PartR, v = .slice r.a r.l.length r.c ∧ ((∀ x ∈ r.l, (PartR.Ok : PartR → Prop) x) ∧ (r.l.map (fun _ => 1)).sum ≤ Rows.uptoBulk x.1) ∧ RowAt partL 4 W.heap.size r W := by
  refine open_row (Wt := fun _ => 1) (Ok := PartR.Ok) partL_len (by omega) Tryz.underlying23 Tryz.underlying66 (by kernel_rfl) (by kernel_rfl) rfl h (fun a i n ys hf => ?_)
  obtain ⟨u0, y0, c0, _, t0⟩ := hf 0 _ rfl
  obtain ⟨u1, y1, c1, _, t1⟩ := hf 1 _ rfl
  obtain ⟨u2, y2, c2, _, t2⟩ := hf 2 _ rfl
  obtain ⟨u3, y3, c3, _, t3⟩ := hf 3 _ rfl
  obtain ⟨z0, e0, _, w0⟩ := DataW.trod_int Tryz.underlying52 t0
  injection e0 with e0 _
  subst e0
  obtain ⟨n0, rfl, o0⟩ := nat_u16 w0
  obtain ⟨s1, e1, _, o1⟩ := DataW.trod_string Tryz.underlying9 t1
  injection e1 with e1 _
  subst e1
  obtain ⟨z2, e2, _, w2⟩ := DataW.trod_int Tryz.underlying22 t2
  injection e2 with e2 _
  subst e2
  obtain ⟨n2, rfl, o2⟩ := nat_u64 w2
  obtain ⟨z3, e3, _, w3⟩ := DataW.trod_int Tryz.underlying22 t3
  injection e3 with e3 _
  subst e3
  obtain ⟨n3, rfl, o3⟩ := nat_u64 w3
  refine ⟨⟨n0, s1, n2, n3⟩, ⟨⟨o0, (by simpa only [maxLen] using o1), o2, o3⟩, bulk_one _⟩, fun j hj => ?_⟩
  match j, hj with
  | 0, _ => exact c0
  | 1, _ => exact c1
  | 2, _ => exact c2
  | 3, _ => exact c3
set_option maxRecDepth 100000 in
theorem open_wins {fuel : Nat} {W : World} {v : Value} {x : DataW H × List MemPlace} (h : DataW.trod enc Tryz.prog W 0 (fun _ => true) true fuel 24 [v] = some x) :
    ∃ r : Row WinR, v = .slice r.a r.l.length r.c ∧ ((∀ x ∈ r.l, (WinR.Ok : WinR → Prop) x) ∧ (r.l.map (fun _ => 1)).sum ≤ Rows.uptoBulk x.1) ∧ RowAt winL 3 W.heap.size r W := by
  refine open_row (Wt := fun _ => 1) (Ok := WinR.Ok) winL_len (by omega) Tryz.underlying24 Tryz.underlying69 (by kernel_rfl) (by kernel_rfl) rfl h (fun a i n ys hf => ?_)
  obtain ⟨u0, y0, c0, _, t0⟩ := hf 0 _ rfl
  obtain ⟨u1, y1, c1, _, t1⟩ := hf 1 _ rfl
  obtain ⟨u2, y2, c2, _, t2⟩ := hf 2 _ rfl
  obtain ⟨z0, e0, _, w0⟩ := DataW.trod_int Tryz.underlying22 t0
  injection e0 with e0 _
  subst e0
  obtain ⟨n0, rfl, o0⟩ := nat_u64 w0
  obtain ⟨z1, e1, _, w1⟩ := DataW.trod_int Tryz.underlying22 t1
  injection e1 with e1 _
  subst e1
  obtain ⟨n1, rfl, o1⟩ := nat_u64 w1
  obtain ⟨z2, e2, _, w2⟩ := DataW.trod_int Tryz.underlying52 t2
  injection e2 with e2 _
  subst e2
  obtain ⟨n2, rfl, o2⟩ := nat_u16 w2
  refine ⟨⟨n0, n1, n2⟩, ⟨⟨o0, o1, o2⟩, bulk_one _⟩, fun j hj => ?_⟩
  match j, hj with
  | 0, _ => exact c0
  | 1, _ => exact c1
  | 2, _ => exact c2
set_option maxRecDepth 100000 in
theorem open_regs {fuel : Nat} {W : World} {v : Value} {x : DataW H × List MemPlace} (h : DataW.trod enc Tryz.prog W 0 (fun _ => true) true fuel 25 [v] = some x) :
    ∃ r : Row RegR, v = .slice r.a r.l.length r.c ∧ ((∀ x ∈ r.l, (RegR.Ok : RegR → Prop) x) ∧ (r.l.map (fun _ => 1)).sum ≤ Rows.uptoBulk x.1) ∧ RowAt regL 5 W.heap.size r W := by
  refine open_row (Wt := fun _ => 1) (Ok := RegR.Ok) regL_len (by omega) Tryz.underlying25 Tryz.underlying54 (by kernel_rfl) (by kernel_rfl) rfl h (fun a i n ys hf => ?_)
  obtain ⟨u0, y0, c0, _, t0⟩ := hf 0 _ rfl
  obtain ⟨u1, y1, c1, _, t1⟩ := hf 1 _ rfl
  obtain ⟨u2, y2, c2, _, t2⟩ := hf 2 _ rfl
  obtain ⟨u3, y3, c3, _, t3⟩ := hf 3 _ rfl
  obtain ⟨u4, y4, c4, _, t4⟩ := hf 4 _ rfl
  obtain ⟨z0, e0, _, w0⟩ := DataW.trod_int Tryz.underlying22 t0
  injection e0 with e0 _
  subst e0
  obtain ⟨n0, rfl, o0⟩ := nat_u64 w0
  obtain ⟨z1, e1, _, w1⟩ := DataW.trod_int Tryz.underlying22 t1
  injection e1 with e1 _
  subst e1
  obtain ⟨n1, rfl, o1⟩ := nat_u64 w1
  obtain ⟨z2, e2, _, w2⟩ := DataW.trod_int Tryz.underlying52 t2
  injection e2 with e2 _
  subst e2
  obtain ⟨n2, rfl, o2⟩ := nat_u16 w2
  obtain ⟨z3, e3, _, w3⟩ := DataW.trod_int Tryz.underlying5 t3
  injection e3 with e3 _
  subst e3
  obtain ⟨n3, rfl, o3⟩ := nat_u8 w3
  obtain ⟨b4, e4, _⟩ := DataW.trod_bool Tryz.underlying4 t4
  injection e4 with e4 _
  subst e4
  refine ⟨⟨n0, n1, n2, n3, b4⟩, ⟨⟨o0, o1, o2, o3⟩, bulk_one _⟩, fun j hj => ?_⟩
  match j, hj with
  | 0, _ => exact c0
  | 1, _ => exact c1
  | 2, _ => exact c2
  | 3, _ => exact c3
  | 4, _ => exact c4
set_option maxRecDepth 100000 in
theorem open_ports {fuel : Nat} {W : World} {v : Value} {x : DataW H × List MemPlace} (h : DataW.trod enc Tryz.prog W 0 (fun _ => true) true fuel 26 [v] = some x) :
    ∃ r : Row PortR, v = .slice r.a r.l.length r.c ∧ ((∀ x ∈ r.l, (PortR.Ok : PortR → Prop) x) ∧ (r.l.map (fun _ => 1)).sum ≤ Rows.uptoBulk x.1) ∧ RowAt portL 6 W.heap.size r W := by
  refine open_row (Wt := fun _ => 1) (Ok := PortR.Ok) portL_len (by omega) Tryz.underlying26 Tryz.underlying74 (by kernel_rfl) (by kernel_rfl) rfl h (fun a i n ys hf => ?_)
  obtain ⟨u0, y0, c0, _, t0⟩ := hf 0 _ rfl
  obtain ⟨u1, y1, c1, _, t1⟩ := hf 1 _ rfl
  obtain ⟨u2, y2, c2, _, t2⟩ := hf 2 _ rfl
  obtain ⟨u3, y3, c3, _, t3⟩ := hf 3 _ rfl
  obtain ⟨u4, y4, c4, _, t4⟩ := hf 4 _ rfl
  obtain ⟨u5, y5, c5, _, t5⟩ := hf 5 _ rfl
  obtain ⟨z0, e0, _, w0⟩ := DataW.trod_int Tryz.underlying52 t0
  injection e0 with e0 _
  subst e0
  obtain ⟨n0, rfl, o0⟩ := nat_u16 w0
  obtain ⟨z1, e1, _, w1⟩ := DataW.trod_int Tryz.underlying52 t1
  injection e1 with e1 _
  subst e1
  obtain ⟨n1, rfl, o1⟩ := nat_u16 w1
  obtain ⟨s2, e2, _, o2⟩ := DataW.trod_string Tryz.underlying9 t2
  injection e2 with e2 _
  subst e2
  obtain ⟨b3, e3, _⟩ := DataW.trod_bool Tryz.underlying4 t3
  injection e3 with e3 _
  subst e3
  obtain ⟨b4, e4, _⟩ := DataW.trod_bool Tryz.underlying4 t4
  injection e4 with e4 _
  subst e4
  obtain ⟨z5, e5, _, w5⟩ := DataW.trod_int Tryz.underlying72 t5
  injection e5 with e5 _
  subst e5
  obtain ⟨n5, rfl, o5⟩ := nat_u32 w5
  refine ⟨⟨n0, n1, s2, b3, b4, n5⟩, ⟨⟨o0, o1, (by simpa only [maxLen] using o2), o5⟩, bulk_one _⟩, fun j hj => ?_⟩
  match j, hj with
  | 0, _ => exact c0
  | 1, _ => exact c1
  | 2, _ => exact c2
  | 3, _ => exact c3
  | 4, _ => exact c4
  | 5, _ => exact c5
set_option maxRecDepth 100000 in
theorem open_chans {fuel : Nat} {W : World} {v : Value} {x : DataW H × List MemPlace} (h : DataW.trod enc Tryz.prog W 0 (fun _ => true) true fuel 27 [v] = some x) :
    ∃ r : Row ChanR, v = .slice r.a r.l.length r.c ∧ ((∀ x ∈ r.l, ((fun x => ChanR.Ok x ∧ DestsAt W.heap.size x W) : ChanR → Prop) x) ∧ (r.l.map (fun x => x.dests.length + 1)).sum ≤ Rows.uptoBulk x.1) ∧ RowAt chanL 3 W.heap.size r W := by
  refine open_row (Wt := fun x => x.dests.length + 1) (Ok := (fun x => ChanR.Ok x ∧ DestsAt W.heap.size x W)) chanL_len (by omega) Tryz.underlying27 Tryz.underlying57 (by kernel_rfl) (by kernel_rfl) rfl h (fun a i n ys hf => ?_)
  obtain ⟨u0, y0, c0, _, t0⟩ := hf 0 _ rfl
  obtain ⟨u1, y1, c1, _, t1⟩ := hf 1 _ rfl
  obtain ⟨u2, y2, c2, g2, t2⟩ := hf 2 _ rfl
  obtain ⟨z0, e0, _, w0⟩ := DataW.trod_int Tryz.underlying52 t0
  injection e0 with e0 _
  subst e0
  obtain ⟨n0, rfl, o0⟩ := nat_u16 w0
  obtain ⟨z1, e1, _, w1⟩ := DataW.trod_int Tryz.underlying52 t1
  injection e1 with e1 _
  subst e1
  obtain ⟨n1, rfl, o1⟩ := nat_u16 w1
  obtain ⟨l2, A2, k2, rfl, o2, r2, m2, p2, b2⟩ := open_u16s Tryz.underlying55 Tryz.underlying52 (by kernel_rfl) t2
  refine ⟨⟨n0, n1, l2, A2, k2⟩, ⟨⟨⟨o0, o1, o2⟩, r2, m2, p2⟩, ?_⟩, fun j hj => ?_⟩
  · have h2 : y2 ∈ ys := List.mem_of_getElem? g2
    have h3 := bulk_part (List.mem_map_of_mem (f := (·.1)) h2)
    simp only [Rows.uptoBulk]
    show l2.length + 1 ≤ _
    omega
  match j, hj with
  | 0, _ => exact c0
  | 1, _ => exact c1
  | 2, _ => exact c2
set_option maxRecDepth 100000 in
theorem open_cfg {r : Reach} {b0 : Nat} {W : World} {v : Value} {d : DataW H} {ps : List MemPlace} (hval : Value.okWide Tryz.prog W r b0 29 v) (hd : DataW.Trod enc Tryz.prog W 0 (fun _ => true) true 29 v d ps) :
    ∃ c : Cfg, v = cfgV c ∧ c.Ok ∧ CfgAt W.heap.size c W ∧ (Rows.uptoBulk d ≤ 1048576 → c.Small) := by
  obtain ⟨v0, v1, v2, v3, v4, v5, y0, y1, y2, y3, y4, y5, n, rfl, rfl, _, h0, h1, h2, h3, h4, h5⟩ := open_agg6 Tryz.underlying29 (by kernel_rfl) (by kernel_rfl) hval hd
  obtain ⟨z, e, _, wz⟩ := DataW.trod_int Tryz.underlying22 h0
  injection e with e _
  subst e
  obtain ⟨fr, rfl, hfr⟩ := nat_u64 wz
  obtain ⟨r1, rfl, ⟨ok1, wt1⟩, at1⟩ := open_parts h1
  obtain ⟨r2, rfl, ⟨ok2, wt2⟩, at2⟩ := open_wins h2
  obtain ⟨r3, rfl, ⟨ok3, wt3⟩, at3⟩ := open_regs h3
  obtain ⟨r4, rfl, ⟨ok4, wt4⟩, at4⟩ := open_ports h4
  obtain ⟨r5, rfl, ⟨ok5, wt5⟩, at5⟩ := open_chans h5
  refine ⟨⟨fr, r1, r2, r3, r4, r5⟩, rfl, ⟨hfr, ok1, ok2, ok3, ok4, fun x hx => (ok5 x hx).1⟩, ⟨at1, at2, at3, at4, at5, fun x hx => (ok5 x hx).2⟩, fun hb => ?_⟩
  rw [sum_ones] at wt1 wt2 wt3 wt4
  rw [sum_dests] at wt5
  simp only [Rows.uptoBulk, Rows.uptoBulkAll] at hb
  show r1.l.length + r2.l.length + r3.l.length + r4.l.length + r5.l.length + linksN r5.l ≤ 1048576
  omega
end
end Go.Proofs.YtcnihmlmaigkdaaGreatDoor
namespace Go.Proofs.YtcnihmlmaigkdaaGreatDoor
open Go.RowKit Go.Sort
set_option linter.unusedVariables false

end Go.Proofs.YtcnihmlmaigkdaaGreatDoor
namespace Go.Proofs.YtcnihmlmaigkdaaGreatDoor
open Go.RowKit Go.Sort
set_option linter.unusedVariables false

theorem links_take (l : List ChanR) (k : Nat) (h : k < l.length) : linksN (l.take (k + 1)) = linksN (l.take k) + l[k].dests.length := by
  unfold linksN
  rw [List.take_succ_eq_append_getElem h, List.map_append, List.sum_append]; simp
theorem links_le (l : List ChanR) (k : Nat) : linksN (l.take k) ≤ linksN l := by
  unfold linksN
  conv => rhs; rw [← List.take_append_drop k l, List.map_append, List.sum_append]
  omega
def countsV (c : Cfg) : Value := .agg #[.int .i64 0, .int .i64 (c.parts.l.length : Int), .int .i64 (c.wins.l.length : Int), .int .i64 (c.regs.l.length : Int), .int .i64 (c.ports.l.length : Int), .int .i64 (c.chans.l.length : Int), .int .i64 (linksN c.chans.l : Int)]
set_option maxRecDepth 100000 in
set_option maxHeartbeats 2000000 in
theorem Counts_calls (c : Cfg) (w : World) (h : CfgAt w.heap.size c w) (hsm : c.Small) :
    Calls Tryz.prog 17 #[cfgV c] w fun e w' => e = .returned (countsV c) ∧ Below w.heap.size w w' := by
  have hp := h.chans
  have hcap := hp.2
  unfold Cfg.Small at hsm
  obtain ⟨fr, ⟨pl, pa, pc⟩, ⟨wl, wa, wc⟩, ⟨rl, ra, rc⟩, ⟨ql, qa, qc⟩, ⟨cl, ca, cc⟩⟩ := c
  unfold cfgV countsV
  simp only at hp hcap hsm ⊢
  obtain ⟨n, hn⟩ : ∃ n, n = cl.length := ⟨_, rfl⟩
  rw [← hn] at hcap hsm ⊢
  have hnI : (n : Int) ≤ 1048576 := by omega
  have hcI : (n : Int) ≤ (cc : Int) := by omega
  obtain ⟨L, hL⟩ : ∃ L, L = linksN cl := ⟨_, rfl⟩
  rw [← hL] at hsm ⊢
  have HL := hide hL
  have hLI : (L : Int) ≤ 1048576 := by omega
  have HN := hide hn
  have HB : Hid (Below w.heap.size w ((w.alloc (.cells #[.int .u64 (fr : Int), .slice pa pl.length pc, .slice wa wl.length wc, .slice ra rl.length rc, .slice qa ql.length qc, .slice ca n cc] 29)).alloc (.cells #[.int .i64 0, .int .i64 0, .int .i64 0, .int .i64 0, .int .i64 0, .int .i64 0, .int .i64 0] 37))) := hide (((Below.refl _ w).alloc (Nat.le_refl _) _).alloc (by simp) _)
  have HP := hide (hp.below HB.out)
  generalize pl.length = pn at *
  generalize wl.length = wn at *
  generalize rl.length = rn at *
  generalize ql.length = qn at *
  clear h hp hcap hn hL
  go_enter Tryz.func17, Tryz.ntmps17
  go_wp2
  go_loop [3, 4] (fun s v => ∃ k m : Nat, k ≤ n ∧ m ≤ L ∧ v = .int .i64 (k : Int) ∧ s = .int .i64 (m : Int) ∧ Hid (m = linksN (cl.take k))) (fun _ v => n - (intOf v).toNat)
  case atStart => exact ⟨0, 0, Nat.zero_le _, Nat.zero_le _, rfl, rfl, hide rfl⟩
  case round =>
    obtain ⟨k, m, hk, hm, rfl, rfl, hrel⟩ := hrel
    by_cases hlt : k < n
    · have hlt2 : (k : Int) < (n : Int) := by omega
      have hkl : k < cl.length := by have := HN.out; omega
      obtain ⟨b, o, rfl, hab, _, _, x2⟩ := chan_at HP.out k hkl
      have hst := links_take cl k hkl
      rw [← hrel.out] at hst
      have hle := links_le cl (k + 1)
      rw [← HL.out, hst] at hle
      simp only at x2
      have hdm : cl[k].dests.length ≤ 1048576 := by omega
      generalize cl[k].dests.length = d at *
      generalize cl[k].at_ = da at *
      generalize cl[k].cap = dc at *
      have HST := hide hst
      clear hst
      go_wp2
      go_round
      case rel => exact ⟨k + 1, m + d, by omega, by omega, by go_num, by go_num, hide HST.out.symm⟩
      case measure => simp [intOf]; omega
    · have hkn : k = n := by omega
      subst hkn
      clear hlt hk
      have hmL : m = L := by rw [hrel.out, HL.out, List.take_of_length_le (by rw [HN.out]; exact Nat.le_refl _)]
      subst hmL
      go_wp2
      refine bodyPost_ret (v := .agg #[.int .i64 0, .int .i64 (pn : Int), .int .i64 (wn : Int), .int .i64 (rn : Int), .int .i64 (qn : Int), .int .i64 (k : Int), .int .i64 (m : Int)]) (by simp [results, Tryz.results17, go_sem]) rfl ⟨rfl, ?_⟩
      exact ((Below.refl _ w).alloc (Nat.le_refl _) _).alloc (by simp) _
def sumN (c : Cfg) : Nat := c.parts.l.length + c.wins.l.length + c.regs.l.length + c.ports.l.length + c.chans.l.length + linksN c.chans.l
def shortP (p : PartR) : Bool := decide (p.name.size ≤ 100)
def shortQ (p : PortR) : Bool := decide (p.name.size ≤ 100)
def fewB (c : Cfg) : Bool := c.parts.l.all shortP && c.ports.l.all shortQ && decide (sumN c ≤ 120)
theorem all_take {α : Type} (f : α → Bool) (l : List α) (k : Nat) (h : k < l.length) : (l.take (k + 1)).all f = ((l.take k).all f && f l[k]) := by
  rw [List.take_succ_eq_append_getElem h, List.all_append]; simp
theorem all_false {α : Type} {f : α → Bool} {l : List α} {k : Nat} (h : k < l.length) (hf : f l[k] = false) : l.all f = false := by
  rw [List.all_eq_false]
  exact ⟨l[k], List.getElem_mem _, by rw [hf]; simp⟩
theorem cfg_cells {W : World} {g : Nat} {c0 c1 c2 c3 c4 c5 : Value} {t : TypeId} (h : Blk W g t #[c0, c1, c2, c3, c4, c5]) :
    W.cell? ⟨g, 0, none⟩ = some c0 ∧ W.cell? ⟨g, 1, none⟩ = some c1 ∧ W.cell? ⟨g, 2, none⟩ = some c2 ∧ W.cell? ⟨g, 3, none⟩ = some c3 ∧ W.cell? ⟨g, 4, none⟩ = some c4 ∧ W.cell? ⟨g, 5, none⟩ = some c5 :=
  ⟨h.cell 0, h.cell 1, h.cell 2, h.cell 3, h.cell 4, h.cell 5⟩
set_option maxRecDepth 100000 in
set_option maxHeartbeats 4000000 in
theorem Few_calls (c : Cfg) (w : World) (h : CfgAt w.heap.size c w) (hok : c.Ok) (hsm : c.Small) :
    Calls Tryz.prog 24 #[cfgV c] w fun e w' => e = .returned (.bool (fewB c)) ∧ Below w.heap.size w w' := by
  have hw0 := (Below.refl w.heap.size w).alloc (Nat.le_refl _) (.cells #[.int .u64 (c.frame : Int), .slice c.parts.a c.parts.l.length c.parts.c, .slice c.wins.a c.wins.l.length c.wins.c, .slice c.regs.a c.regs.l.length c.regs.c, .slice c.ports.a c.ports.l.length c.ports.c, .slice c.chans.a c.chans.l.length c.chans.c] 29)
  have HC := hide (Counts_calls c _ (CfgAt.more (h.below hw0) hw0.size) hsm)
  have HW0 := hide hw0
  have HBX := hide (Blk.new w 29 #[.int .u64 (c.frame : Int), .slice c.parts.a c.parts.l.length c.parts.c, .slice c.wins.a c.wins.l.length c.wins.c, .slice c.regs.a c.regs.l.length c.regs.c, .slice c.ports.a c.ports.l.length c.ports.c, .slice c.chans.a c.chans.l.length c.chans.c])
  have hp := h.parts
  have hq := h.ports
  have hcp := hp.2
  have hcq := hq.2
  obtain ⟨R, hR⟩ : ∃ R, R = fewB c := ⟨_, rfl⟩
  rw [← hR]
  unfold fewB sumN at hR
  have HOP := hide hok.parts
  have HOQ := hide hok.ports
  unfold Cfg.Small at hsm
  obtain ⟨fr, ⟨pl, pa, pc⟩, ⟨wl, wa, wc⟩, ⟨rl, ra, rc⟩, ⟨ql, qa, qc⟩, ⟨cl, ca, cc⟩⟩ := c
  unfold countsV cfgV at HC
  unfold cfgV
  simp only at hp hq hcp hcq hsm HC HW0 HBX hR HOP HOQ ⊢
  obtain ⟨n, hn⟩ : ∃ n, n = pl.length := ⟨_, rfl⟩
  obtain ⟨m, hm⟩ : ∃ m, m = ql.length := ⟨_, rfl⟩
  rw [← hn] at hcp hsm HC HW0 HBX hR ⊢
  rw [← hm] at hcq hsm HC HW0 HBX hR ⊢
  have hnI : (n : Int) ≤ 1048576 := by omega
  have hcI : (n : Int) ≤ (pc : Int) := by omega
  have hmI : (m : Int) ≤ 1048576 := by omega
  have hcJ : (m : Int) ≤ (qc : Int) := by omega
  have HR := hide hR
  have HN := hide hn
  have HM := hide hm
  have HP := hide hp
  have HQ := hide hq
  generalize wl.length = wn at *
  generalize rl.length = rn at *
  generalize cl.length = cn at *
  generalize linksN cl = L at *
  have hI1 : (wn : Int) ≤ 1048576 := by omega
  have hI2 : (rn : Int) ≤ 1048576 := by omega
  have hI3 : (cn : Int) ≤ 1048576 := by omega
  have hI4 : (L : Int) ≤ 1048576 := by omega
  clear h hw0 hp hq hcp hcq hok hR hn hm hsm
  go_enter Tryz.func24, Tryz.ntmps24
  go_wp2_with (go_at_call 17; refine HC.out.mono ?_; rintro e w1 ⟨rfl, hb⟩; have HB1 := hide (HW0.out.trans (hb.mono HW0.out.size)); have HX1 := hide (HBX.out.below hb (by simp)); have hlt : w.heap.size < w1.heap.size := HX1.out.lt; clear hb)
  have hx2 := HX1.out.alloc (.cells #[.int .i64 0, .int .i64 (n : Int), .int .i64 (wn : Int), .int .i64 (rn : Int), .int .i64 (m : Int), .int .i64 (cn : Int), .int .i64 (L : Int)] 37)
  have hy2 := Blk.new w1 37 #[.int .i64 0, .int .i64 (n : Int), .int .i64 (wn : Int), .int .i64 (rn : Int), .int .i64 (m : Int), .int .i64 (cn : Int), .int .i64 (L : Int)]
  have HB2 := hide (HB1.out.alloc (by omega) (.cells #[.int .i64 0, .int .i64 (n : Int), .int .i64 (wn : Int), .int .i64 (rn : Int), .int .i64 (m : Int), .int .i64 (cn : Int), .int .i64 (L : Int)] 37))
  generalize w1.alloc (.cells #[.int .i64 0, .int .i64 (n : Int), .int .i64 (wn : Int), .int .i64 (rn : Int), .int .i64 (m : Int), .int .i64 (cn : Int), .int .i64 (L : Int)] 37) = W2 at *
  obtain ⟨_, b1, _, _, b4, _⟩ := cfg_cells hx2
  have a1 : W2.cell? ⟨w1.heap.size, 1, none⟩ = some (.int .i64 (n : Int)) := hy2.cell 1
  have a2 : W2.cell? ⟨w1.heap.size, 2, none⟩ = some (.int .i64 (wn : Int)) := hy2.cell 2
  have a3 : W2.cell? ⟨w1.heap.size, 3, none⟩ = some (.int .i64 (rn : Int)) := hy2.cell 3
  have a4 : W2.cell? ⟨w1.heap.size, 4, none⟩ = some (.int .i64 (m : Int)) := hy2.cell 4
  have a5 : W2.cell? ⟨w1.heap.size, 5, none⟩ = some (.int .i64 (cn : Int)) := hy2.cell 5
  have a6 : W2.cell? ⟨w1.heap.size, 6, none⟩ = some (.int .i64 (L : Int)) := hy2.cell 6
  clear hx2 hy2 HX1 HB1
  go_loop [4] (fun v => ∃ k : Nat, k ≤ n ∧ v = .int .i64 (k : Int) ∧ Hid ((pl.take k).all shortP = true)) (fun v => n - (intOf v).toNat)
  case atStart => exact ⟨0, Nat.zero_le _, rfl, hide (by simp)⟩
  case round =>
    obtain ⟨k, hk, rfl, hrel⟩ := hrel
    by_cases hlt : k < n
    · have hlt2 : (k : Int) < (n : Int) := by omega
      have hkl : k < pl.length := by have := HN.out; omega
      obtain ⟨b, o, rfl, hab, _, x1, _, _⟩ := part_at (HP.out.below HB2.out) k hkl
      have hat := all_take shortP pl k hkl
      have hnm := (HOP.out pl[k] (List.getElem_mem _)).2.1
      rw [hrel.out, Bool.true_and] at hat
      have hfl : shortP pl[k] = false → pl.all shortP = false := all_false hkl
      unfold shortP at hfl
      rw [show shortP pl[k] = decide (pl[k].name.size ≤ 100) from rfl] at hat
      simp only at x1
      generalize pl[k].name = s at *
      by_cases hs : s.size ≤ 100
      · have e0 : ((100 : Int) < (s.size : Int)) = False := by simp; omega
        have e1 : decide ((100 : Int) < (s.size : Int)) = false := by simp; omega
        have HT : Hid ((pl.take (k + 1)).all shortP = true) := hide (by rw [hat]; simpa using hs)
        clear hat hfl hs e0
        go_wp2
        go_round
        case rel => exact ⟨k + 1, by omega, by go_num, HT⟩
        case measure => simp [intOf]; omega
      · have e1 : decide ((100 : Int) < (s.size : Int)) = true := by simp; omega
        have HT : Hid (false = R) := hide (by rw [HR.out, show pl.all shortP = false from hfl (by simpa using hs)]; rfl)
        clear hat hfl hs
        go_wp2
        go_ret
        exact ⟨ret_b HT.out, HB2.out⟩
    · have hkn : k = n := by omega
      subst hkn
      have HF1 : Hid (pl.all shortP = true) := hide (by rw [← hrel.out, List.take_of_length_le (by rw [HN.out]; exact Nat.le_refl _)])
      clear hlt hk hrel
      go_wp2
      go_loop [5] (fun v => ∃ k : Nat, k ≤ m ∧ v = .int .i64 (k : Int) ∧ Hid ((ql.take k).all shortQ = true)) (fun v => m - (intOf v).toNat)
      case atStart => exact ⟨0, Nat.zero_le _, rfl, hide (by simp)⟩
      case round =>
        obtain ⟨j, hj, rfl, hrel⟩ := hrel
        by_cases hlt : j < m
        · have hlt2 : (j : Int) < (m : Int) := by omega
          have hkl : j < ql.length := by have := HM.out; omega
          obtain ⟨b, o, rfl, hab, _, _, x1, _⟩ := port_at (HQ.out.below HB2.out) j hkl
          have hat := all_take shortQ ql j hkl
          have hnm := (HOQ.out ql[j] (List.getElem_mem _)).2.2.1
          rw [hrel.out, Bool.true_and] at hat
          have hfl : shortQ ql[j] = false → ql.all shortQ = false := all_false hkl
          unfold shortQ at hfl
          rw [show shortQ ql[j] = decide (ql[j].name.size ≤ 100) from rfl] at hat
          simp only at x1
          generalize ql[j].name = s at *
          by_cases hs : s.size ≤ 100
          · have e1 : decide ((100 : Int) < (s.size : Int)) = false := by simp; omega
            have HT : Hid ((ql.take (j + 1)).all shortQ = true) := hide (by rw [hat]; simpa using hs)
            clear hat hfl hs
            go_wp2
            go_round
            case rel => exact ⟨j + 1, by omega, by go_num, HT⟩
            case measure => simp [intOf]; omega
          · have e1 : decide ((100 : Int) < (s.size : Int)) = true := by simp; omega
            have HT : Hid (false = R) := hide (by rw [HR.out, show ql.all shortQ = false from hfl (by simpa using hs), Bool.and_false]; rfl)
            clear hat hfl hs
            go_wp2
            go_ret
            exact ⟨ret_b HT.out, HB2.out⟩
        · have hkn : j = m := by omega
          subst hkn
          have HF2 : Hid (ql.all shortQ = true) := hide (by rw [← hrel.out, List.take_of_length_le (by rw [HM.out]; exact Nat.le_refl _)])
          have HT : Hid (R = decide (k + wn + rn + j + cn + L ≤ 120)) := hide (by rw [HR.out, HF1.out, HF2.out]; rfl)
          clear hlt hj hrel
          go_wp2
          go_ret
          refine ⟨ret_b ?_, HB2.out⟩
          rw [HT.out, Bool.eq_iff_iff]
          simp only [decide_eq_true_eq]
          omega
end Go.Proofs.YtcnihmlmaigkdaaGreatDoor
namespace Go.Proofs.YtcnihmlmaigkdaaGreatDoor
open Go.RowKit Go.Sort
set_option linter.unusedVariables false

/-- The configuration's box and what lies below it. -/
def cfgC (c : Cfg) : Array Value := #[.int .u64 (c.frame : Int), .slice c.parts.a c.parts.l.length c.parts.c, .slice c.wins.a c.wins.l.length c.wins.c, .slice c.regs.a c.regs.l.length c.regs.c, .slice c.ports.a c.ports.l.length c.ports.c, .slice c.chans.a c.chans.l.length c.chans.c]
def winC (x : WinR) : Array Value := #[.int .u64 (x.st : Int), .int .u64 (x.len : Int), .int .u16 (x.part : Int)]
def Boxed1 (w : World) (c : Cfg) (W : World) : Prop := Below w.heap.size w W ∧ Blk W w.heap.size 29 (cfgC c)
def Boxed2 (w : World) (c : Cfg) (g : Nat) (x : WinR) (W : World) : Prop := Boxed1 w c W ∧ Blk W g 69 (winC x)
section
variable {w W W' : World} {c : Cfg} {g : Nat} {x : WinR}
theorem Boxed1.start (w : World) (c : Cfg) : Boxed1 w c (w.alloc (.cells (cfgC c) 29)) := ⟨(Below.refl _ w).alloc (Nat.le_refl _) _, Blk.new w _ _⟩
theorem Boxed1.below (h : Boxed1 w c W) (hb : Below W.heap.size W W') : Boxed1 w c W' := ⟨h.1.trans (hb.mono h.1.size), h.2.below hb h.2.lt⟩
theorem Boxed1.alloc (h : Boxed1 w c W) (o : Obj) : Boxed1 w c (W.alloc o) := ⟨h.1.alloc h.1.size o, h.2.alloc o⟩
theorem Boxed2.new (h : Boxed1 w c W) (x : WinR) : Boxed2 w c W.heap.size x (W.alloc (.cells (winC x) 69)) := ⟨h.alloc _, Blk.new W _ _⟩
theorem Boxed2.below (h : Boxed2 w c g x W) (hb : Below W.heap.size W W') : Boxed2 w c g x W' := ⟨h.1.below hb, h.2.below hb h.2.lt⟩
theorem Boxed1.cells (h : Boxed1 w c W) : W.cell? ⟨w.heap.size, 0, none⟩ = some (.int .u64 (c.frame : Int)) ∧ W.cell? ⟨w.heap.size, 1, none⟩ = some (.slice c.parts.a c.parts.l.length c.parts.c) ∧ W.cell? ⟨w.heap.size, 2, none⟩ = some (.slice c.wins.a c.wins.l.length c.wins.c) ∧ W.cell? ⟨w.heap.size, 3, none⟩ = some (.slice c.regs.a c.regs.l.length c.regs.c) ∧ W.cell? ⟨w.heap.size, 4, none⟩ = some (.slice c.ports.a c.ports.l.length c.ports.c) ∧ W.cell? ⟨w.heap.size, 5, none⟩ = some (.slice c.chans.a c.chans.l.length c.chans.c) := cfg_cells h.2
theorem Boxed2.cells (h : Boxed2 w c g x W) : W.cell? ⟨g, 0, none⟩ = some (.int .u64 (x.st : Int)) ∧ W.cell? ⟨g, 1, none⟩ = some (.int .u64 (x.len : Int)) ∧ W.cell? ⟨g, 2, none⟩ = some (.int .u16 (x.part : Int)) := ⟨h.2.cell 0, h.2.cell 1, h.2.cell 2⟩
theorem Boxed1.cfg (h : Boxed1 w c W) (hc : CfgAt w.heap.size c w) : CfgAt W.heap.size c W := CfgAt.more (hc.below h.1) h.1.size
end
end Go.Proofs.YtcnihmlmaigkdaaGreatDoor
namespace Go.Proofs.YtcnihmlmaigkdaaGreatDoor
open Go.RowKit Go.Lib Go.Sort
set_option linter.unusedVariables false

def cntC (a b c d e f : Nat) : Array Value := #[.int .i64 0, .int .i64 (a : Int), .int .i64 (b : Int), .int .i64 (c : Int), .int .i64 (d : Int), .int .i64 (e : Int), .int .i64 (f : Int)]
def zero7 : Array Value := #[.int .i64 0, .int .i64 0, .int .i64 0, .int .i64 0, .int .i64 0, .int .i64 0, .int .i64 0]
theorem load_seven {w : World} {g : Nat} {cs : Array Value} (hg : Blk w g 37 cs) (hc : cs.size = 7) : (loadVar 37 ⟨g, 0, none⟩).run Tryz.prog w = .ok (.agg cs) w :=
  run_loadVar_row (P := Tryz.prog) w g 37 37 cs (0, 0) _ hg Tryz.underlying37 rfl (by rw [hc]; kernel_rfl)
theorem res_cell7 {fn : Func} {p : Tmp} {ty : TypeId} (h : fn.results = #[.cell p ty]) (tmps : Array Value) (w : World) (g : Nat) (cs : Array Value)
    (hp : tmps.getD p undef = .pointer (some ⟨g, 0, none⟩)) (hl : (loadVar ty ⟨g, 0, none⟩).run Tryz.prog w = .ok (.agg cs) w) :
    (results fn tmps).run Tryz.prog w = .ok (.agg cs) w := by
  have hp' : tmps[p]?.getD undef = .pointer (some ⟨g, 0, none⟩) := by simpa using hp
  simp [results, h, hp', asAddr, hl]
theorem seven_size (n : Nat) (h : n = 7) : (Tryz.prog.info? 37).map (·.size) = some n := by rw [h]; kernel_rfl
theorem seven_one (a b c d e f : Nat) : (cntC a b c d e f).all (·.oneCell') = true := by rw [← Array.all_toList]; rfl
def CtS (w : World) (c : Cfg) (m : Nat) (W : World) : Prop := Boxed1 w c W ∧ Blk W (w.heap.size + 1) 37 zero7 ∧ Blk W (w.heap.size + 2) 37 (cntC c.parts.l.length c.wins.l.length c.regs.l.length c.ports.l.length c.chans.l.length m)
theorem CtS.alloc {w W : World} {c : Cfg} {m : Nat} (h : CtS w c m W) (o : Obj) : CtS w c m (W.alloc o) := ⟨h.1.alloc o, h.2.1.alloc o, h.2.2.alloc o⟩
theorem CtS.set_ {w W : World} {c : Cfg} {m : Nat} (h : CtS w c m W) (p : Nat) : CtS w c p (W.setCell ⟨w.heap.size + 2, 6, none⟩ (.int .i64 (p : Int))) :=
  ⟨⟨h.1.1.setCell (p := ⟨w.heap.size + 2, 6, none⟩) (by simp) _, h.1.2.far (by simp) _⟩, h.2.1.far (by simp) _, h.2.2.set_ 6 _⟩
theorem CtS.start (w : World) (c : Cfg) : CtS w c 0 (((w.alloc (.cells (cfgC c) 29)).alloc (.cells zero7 37)).alloc (.cells (cntC c.parts.l.length c.wins.l.length c.regs.l.length c.ports.l.length c.chans.l.length 0) 37)) := by
  have h1 := Blk.new (w.alloc (.cells (cfgC c) 29)) 37 zero7
  have h2 := Blk.new ((w.alloc (.cells (cfgC c) 29)).alloc (.cells zero7 37)) 37 (cntC c.parts.l.length c.wins.l.length c.regs.l.length c.ports.l.length c.chans.l.length 0)
  simp only [World.size_alloc, Nat.add_assoc, Nat.reduceAdd] at h1 h2
  exact ⟨((Boxed1.start w c).alloc _).alloc _, h1.alloc _, h2⟩
set_option maxRecDepth 100000 in
set_option maxHeartbeats 4000000 in
theorem PCounts_calls (c : Cfg) (w : World) (h : CfgAt w.heap.size c w) (hsm : c.Small) :
    Calls Tryz.prog 37 #[cfgV c] w fun e w' => e = .returned (countsV c) ∧ Below w.heap.size w w' := by
  have HCF := hide (fun W (hW : Boxed1 w c W) => hW.cfg h)
  have hcap := h.chans.2
  unfold Cfg.Small at hsm
  have HS0 := hide (CtS.start w c)
  have HCE := hide (fun m W (hW : CtS w c m W) => And.intro hW.1.cells (And.intro (hW.2.2.cell 6) (hW.2.2.frozen 6)))
  obtain ⟨n, hn⟩ : ∃ n, n = c.chans.l.length := ⟨_, rfl⟩
  obtain ⟨L, hL⟩ : ∃ L, L = linksN c.chans.l := ⟨_, rfl⟩
  obtain ⟨ca, hca⟩ : ∃ a, a = c.chans.a := ⟨_, rfl⟩
  have HN := hide hn
  have HL := hide hL
  have HCA := hide hca
  have hnI : (n : Int) ≤ 1048576 := by omega
  have hcI : (n : Int) ≤ (c.chans.c : Int) := by omega
  have hLI : (L : Int) ≤ 1048576 := by omega
  unfold cfgV countsV
  unfold cfgC zero7 cntC at HS0
  unfold cntC at HCE
  rw [← hn, ← hca] at HS0 HCE ⊢
  rw [← hL]
  clear h hsm hcap hn hL hca
  go_enter Tryz.func37, Tryz.ntmps37
  go_wp2
  simp only [Nat.add_assoc, Nat.reduceAdd]
  generalize ((w.alloc (.cells #[.int .u64 (c.frame : Int), .slice c.parts.a c.parts.l.length c.parts.c, .slice c.wins.a c.wins.l.length c.wins.c, .slice c.regs.a c.regs.l.length c.regs.c, .slice c.ports.a c.ports.l.length c.ports.c, .slice ca n c.chans.c] 29)).alloc (.cells #[.int .i64 0, .int .i64 0, .int .i64 0, .int .i64 0, .int .i64 0, .int .i64 0, .int .i64 0] 37)).alloc (.cells #[.int .i64 0, .int .i64 (c.parts.l.length : Int), .int .i64 (c.wins.l.length : Int), .int .i64 (c.regs.l.length : Int), .int .i64 (c.ports.l.length : Int), .int .i64 (n : Int), .int .i64 0] 37) = W0 at *
  go_loopw [25] (fun v wr => ∃ k m : Nat, k ≤ n ∧ m ≤ L ∧ v = .int .i64 (k : Int) ∧ Hid (m = linksN (c.chans.l.take k) ∧ CtS w c m wr)) (fun v _ => n - (intOf v).toNat)
  case atStart => exact ⟨0, 0, Nat.zero_le _, Nat.zero_le _, rfl, hide ⟨rfl, HS0.out⟩⟩
  case round =>
    obtain ⟨k, m, hk, hm, rfl, hrel⟩ := hrel
    by_cases hlt : k < n
    · have hlt2 : (k : Int) < (n : Int) := by omega
      have hkl : k < c.chans.l.length := by have := HN.out; omega
      obtain ⟨b, o, ha, hab, x0, x1, x2⟩ := chan_at (HCF.out wr hrel.out.2.1).chans k hkl
      obtain rfl : ca = some ⟨b, o, none⟩ := HCA.out.trans ha
      have hst := links_take c.chans.l k hkl
      rw [← hrel.out.1] at hst
      have hle := links_le c.chans.l (k + 1)
      rw [← HL.out, hst] at hle
      have hdm : c.chans.l[k].dests.length ≤ 1048576 := by omega
      obtain ⟨⟨b0, b1, b2, b3, b4, b5⟩, n6, f6⟩ := HCE.out m wr hrel.out.2
      have hbw : b < wr.heap.size := cell_lt x0
      have HST := hide hst
      have HRL : Hid (∀ o, CtS w c (m + c.chans.l[k].dests.length) ((wr.setCell ⟨w.heap.size + 2, 6, none⟩ (.int .i64 ((m : Int) + (c.chans.l[k].dests.length : Int)))).alloc o)) := hide (fun o => by
        have h9 := (hrel.out.2.set_ (m + c.chans.l[k].dests.length)).alloc o
        rw [Int.natCast_add] at h9
        exact h9)
      have hz2 : w.heap.size + 2 < wr.heap.size := hrel.out.2.2.2.lt
      clear hst hrel ha
      generalize c.chans.l[k] = x at *
      obtain ⟨id, src, dl, da, dc⟩ := x
      simp only at x0 x1 x2 hle hdm HST HRL
      generalize dl.length = d at *
      go_wp2
      go_roundw
      case rel => exact ⟨k + 1, m + d, by omega, by omega, by go_num, hide ⟨HST.out.symm, HRL.out _⟩⟩
      case measure => simp [intOf]; omega
    · obtain rfl : k = n := by omega
      have hmL : m = L := by rw [hrel.out.1, HL.out, List.take_of_length_le (by rw [HN.out]; exact Nat.le_refl _)]
      have HF := hide hrel.out.2
      clear hrel hlt hk hm
      subst hmL
      go_wp2_with (first
        | (refine wpList_load_row rfl 37 (.tmp 3) rfl (w.heap.size + 2) rfl 37 (cntC c.parts.l.length c.wins.l.length c.regs.l.length c.ports.l.length c.chans.l.length m) (0, 0) _ HF.out.2.2 Tryz.underlying37 rfl (seven_size _ rfl) ?_)
        | (refine wpList_store_row rfl 37 (.tmp 2) (.tmp 37) rfl (w.heap.size + 1) (cntC c.parts.l.length c.wins.l.length c.regs.l.length c.ports.l.length c.chans.l.length m) rfl rfl 37 zero7 HF.out.2.1 (seven_size _ rfl) rfl (seven_one _ _ _ _ _ _) ?_))
      refine bodyPost_ret (res_cell7 (p := 2) rfl _ _ (w.heap.size + 1) _ rfl (load_seven (setRow_heap _ _ _ _ _ (0, 0) HF.out.2.1) rfl)) rfl ⟨?_, ?_⟩
      · rw [HN.out]; rfl
      · exact ⟨HF.out.1.1.os, HF.out.1.1.tape, HF.out.1.1.output, Nat.le_trans HF.out.1.1.size (by simp [World.setRow]), fun i hi => (setRow_other _ _ i _ (by omega)).trans (HF.out.1.1.block i hi)⟩
end Go.Proofs.YtcnihmlmaigkdaaGreatDoor
