/- sched: the schedule in memory; find (chapter 21). -/
import Derived.Test.YtmphookgaopdlaaGreatSdRight
import Derived.Test.YtmphookgaopdlaaGreatWvSort
import Derived.Shelf.SlSorted.Search
namespace Go.Proofs.YtmphookgaopdlaaGreat
open Go.RowKit Go.Sort Go.Shelf
set_option linter.unusedVariables false

/-- The schedule in memory. -/
structure SdAt (F : Nat) (l : List WinR) (a : Option Addr) (cap g : Nat) (W : World) : Prop where
  box : Blk W g 77 #[.int .u64 (F : Int), .slice a l.length cap]
  row : RowAt winL 3 W.heap.size ⟨l, a, cap⟩ W
section
variable {F : Nat} {l : List WinR} {a : Option Addr} {cap g : Nat} {W W' : World}
theorem SdAt.below (h : SdAt F l a cap g W) (hb : Below W.heap.size W W') : SdAt F l a cap g W' := ⟨h.box.below hb h.box.lt, RowAt.more (h.row.below hb) hb.size⟩
theorem SdAt.alloc (h : SdAt F l a cap g W) (o : Obj) : SdAt F l a cap g (W.alloc o) := h.below ((Below.refl _ W).alloc (Nat.le_refl _) o)
theorem SdAt.cells (h : SdAt F l a cap g W) : W.cell? ⟨g, 0, none⟩ = some (.int .u64 (F : Int)) ∧ W.cell? ⟨g, 1, none⟩ = some (.slice a l.length cap) := ⟨h.box.cell 0, h.box.cell 1⟩
end
def endI (l : List WinR) (x i : Nat) : Bool := match l[i]? with | some y => endB x y | none => false
set_option maxRecDepth 100000 in
set_option maxHeartbeats 2000000 in
theorem sfind1_calls (F : Nat) (l : List WinR) (a : Option Addr) (cap g Bx Bs x i : Nat) (W : World) (h : SdAt F l a cap g W) (hx : W.cell? ⟨Bx, 0, none⟩ = some (.int .u64 (x : Int))) (hs : W.cell? ⟨Bs, 0, none⟩ = some (.pointer (some ⟨g, 0, none⟩)))
    (hi : i < l.length) (hF : F < 18446744073709551616) (hb : ∀ y ∈ l, y.st + y.len ≤ F) (hl : l.length ≤ 1048576) :
    Calls Tryz.prog 52 #[.int .i64 (i : Int), .pointer (some ⟨Bx, 0, none⟩), .pointer (some ⟨Bs, 0, none⟩)] W fun e w' => e = .returned (.bool (endI l x i)) ∧ ∃ q os', w' = grow (W.drewN q) os' := by
  obtain ⟨b, o, ha, hbz, x0, x1, x2⟩ := win_at h.row i hi
  simp only at ha
  subst ha
  obtain ⟨s0, s1⟩ := h.cells
  have hcap : l.length ≤ cap := h.row.2.1
  have hs2 := hb l[i] (List.getElem_mem hi)
  have hadd : IntKind.u64.wrap ((l[i].st : Int) + (l[i].len : Int)) = ((l[i].st + l[i].len : Nat) : Int) := by
    have e : ((l[i].st : Int) + (l[i].len : Int)) = ((l[i].st + l[i].len : Nat) : Int) := by omega
    rw [e]
    simp only [IntKind.wrap, IntKind.bits, IntKind.signed]
    simp
    omega
  have he : endI l x i = decide (x < l[i].st + l[i].len) := by unfold endI; rw [List.getElem?_eq_getElem hi]; rfl
  have hgz := h.box.lt
  have e0 : decide ((x : Int) < ((l[i].st + l[i].len : Nat) : Int)) = endI l x i := by rw [he]; simp only [decide_eq_decide]; omega
  have e1 : decide (x < l[i].st + l[i].len) = endI l x i := he.symm
  simp only at x0 x1 x2
  obtain ⟨en, hen⟩ : ∃ en, en = l[i].st + l[i].len := ⟨_, rfl⟩
  rw [← hen] at hadd e0 e1
  generalize endI l x i = r at *
  generalize l[i].st = lo at *
  generalize l[i].len = len at *
  generalize l[i].part = pt at *
  obtain ⟨n, hn⟩ : ∃ n, n = l.length := ⟨_, rfl⟩
  rw [← hn] at s1 hi hcap hl
  have h2 : (i : Int) < (n : Int) := by omega
  have h3 : (n : Int) ≤ (cap : Int) := by omega
  have h4 : (n : Int) ≤ 1048576 := by omega
  have h5 : (0 : Int) ≤ (i : Int) := by omega
  clear hn hb h he hen hF hs2
  go_enter Tryz.func52, Tryz.ntmps52
  go_wp2
  go_quiet (fail)
  go_wp2
  go_ret
  exact ⟨rfl, nq, #[], by rw [grow_empty]⟩
theorem endI_mono {F : Nat} {l : List WinR} (h : Sch F l) (x a b : Nat) (hab : a ≤ b) (hb : b < l.length) (ha : endI l x a = true) : endI l x b = true := by
  unfold endI at *
  rw [List.getElem?_eq_getElem (by omega : a < l.length)] at ha
  rw [List.getElem?_eq_getElem hb]
  unfold endB at *
  simp only [decide_eq_true_eq] at *
  by_cases e : a = b
  · subst e; exact ha
  · have := List.pairwise_iff_getElem.1 h.asc a b (by omega) hb (by omega)
    have := (h.each l[b] (List.getElem_mem hb)).1
    omega
set_option maxRecDepth 100000 in
set_option maxHeartbeats 2000000 in
theorem sfind_calls (F : Nat) (l : List WinR) (a : Option Addr) (cap g x : Nat) (w : World) (h : SdAt F l a cap g w) (hS : Sch F l) (hl : l.length ≤ 1048576) :
    Calls Tryz.prog 34 #[.pointer (some ⟨g, 0, none⟩), .int .u64 (x : Int)] w fun e w' => e = .returned (.int .i64 ((findI l x : Nat) : Int)) ∧ Below w.heap.size w w' := by
  have k1 := (Blk.new w 32 #[.pointer (some ⟨g, 0, none⟩)]).alloc (.cells #[.int .u64 (x : Int)] 22)
  have k2 := Blk.new (w.alloc (.cells #[.pointer (some ⟨g, 0, none⟩)] 32)) 22 #[.int .u64 (x : Int)]
  have hb := ((Below.refl w.heap.size w).alloc (Nat.le_refl _) (.cells #[.pointer (some ⟨g, 0, none⟩)] 32)).alloc (by simp) (.cells #[.int .u64 (x : Int)] 22)
  rw [World.size_alloc] at k2
  have hW := (h.alloc (.cells #[.pointer (some ⟨g, 0, none⟩)] 32)).alloc (.cells #[.int .u64 (x : Int)] 22)
  obtain ⟨s0, s1⟩ := h.cells
  have hgz := h.box.lt
  have HB := hide hb
  have eg : ∀ args w, (callFunc 52 args).run Tryz.prog w = .ok (.enter 52 args) w := enters_of Tryz.func52 (by kernel_rfl) rfl
  have hC := Any.sort_Search Tryz.search 52 #[.pointer (some ⟨w.heap.size + 1, 0, none⟩), .pointer (some ⟨w.heap.size, 0, none⟩)] l.length (endI l x) ((w.alloc (.cells #[.pointer (some ⟨g, 0, none⟩)] 32)).alloc (.cells #[.int .u64 (x : Int)] 22)) eg (by omega)
    (fun m os i hi => sfind1_calls F l a cap g (w.heap.size + 1) w.heap.size x i _ (hW.below (Gr.below ⟨m, os, rfl⟩)) (cell_grown k2.lt (k2.cell 0) m os) (cell_grown k1.lt (k1.cell 0) m os) hi hS.lt (fun y hy => (hS.each y hy).2) hl)
    (endI_mono hS x)
  change Calls Tryz.prog 51 _ _ _ at hC
  have HC := hide hC
  have hmf : ∀ (fn : Fn) (first cap : Array Value) (w : World), (Instr.makeFunc fn first cap).run Tryz.prog w = .ok (.func fn first cap) w := fun _ _ _ _ => rfl
  have hr : Hid ((List.range l.length).countP (fun i => !endI l x i) = findI l x) := hide rfl
  rw [hr.out] at HC
  generalize findI l x = r at *
  obtain ⟨n, hn⟩ : ∃ n, n = l.length := ⟨_, rfl⟩
  rw [← hn] at s1 HC
  clear h hS hl hW k1 k2 hb hC hn hr eg
  go_enter Tryz.func34, Tryz.ntmps34
  go_wp2_with (go_at_call 51; refine HC.out.mono ?_; rintro e w1 ⟨rfl, q, os, rfl⟩)
  go_ret
  exact ⟨rfl, HB.out.trans ((Gr.below ⟨q, os, rfl⟩).mono HB.out.size)⟩
end Go.Proofs.YtmphookgaopdlaaGreat
