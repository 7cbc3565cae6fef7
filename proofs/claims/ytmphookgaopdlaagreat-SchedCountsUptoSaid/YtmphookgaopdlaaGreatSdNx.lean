/- sched: Next (chapter 21). sched: Next's walk (chapter 21). -/
import Derived.Test.YtmphookgaopdlaaGreatSdRng
import Derived.Test.YtmphookgaopdlaaGreatSdRef
import Derived.Test.YtmphookgaopdlaaGreatShelf
import Derived.Shelf.SlicesQ.IndexFunc
namespace Go.Proofs.YtmphookgaopdlaaGreat
open Go.RowKit Go.Sort Go.Shelf
attribute [local go_sem] Oper.semAt_some
set_option linter.unusedVariables false

theorem NextP_calls (B p : Nat) (y : WinR) (w : World) (h : w.cell? ⟨B, 0, none⟩ = some (.int .u16 (p : Int))) :
    Calls Tryz.prog 37 #[.agg (winL y).toArray, .pointer (some ⟨B, 0, none⟩)] w fun e w' => e = .returned (.bool (decide (y.part = p))) ∧ Below w.heap.size w w' := by
  have hlt := cell_lt h
  obtain ⟨lo, len, pt⟩ := y
  show Calls Tryz.prog 37 #[.agg #[.int .u64 (lo : Int), .int .u64 (len : Int), .int .u16 (pt : Int)], .pointer (some ⟨B, 0, none⟩)] w _
  have e0 : ((pt : Int) == (p : Int)) = decide (pt = p) := by
    rw [Bool.eq_iff_iff, beq_iff_eq, decide_eq_true_eq]
    omega
  generalize decide (pt = p) = d at *
  go_enter Tryz.func37, Tryz.ntmps37
  go_wp2
  go_ret
  exact ⟨rfl, (Below.refl _ w).alloc (Nat.le_refl _) _⟩
set_option maxHeartbeats 2000000 in
theorem CtnWn_calls (a : Option Addr) (cap : Nat) (f : Value) (w : World) :
    Calls Tryz.prog 36 #[.slice a 0 cap, f] w fun e w' => e = .returned (.bool false) ∧ Below w.heap.size w w' := by
  have e0 : decide ((0 : Int) ≤ -1) = false := by decide
  go_enter Tryz.func36, Tryz.ntmps36
  go_wp2
  go_rounds 2
  all_goals
    go_ret
    exact ⟨rfl, Below.refl _ _⟩
theorem CtnW_calls (l : List WinR) (a : Option Addr) (cap B p : Nat) (w : World) (hrow : RowAt winL 3 w.heap.size ⟨l, a, cap⟩ w) (hB : w.cell? ⟨B, 0, none⟩ = some (.int .u16 (p : Int))) :
    Calls Tryz.prog 36 #[.slice a l.length cap, .func (.func 37) #[] #[.pointer (some ⟨B, 0, none⟩)]] w fun e w' => e = .returned (.bool (l.any fun y => decide (y.part = p))) ∧ Below w.heap.size w w' := by
  have hlt := cell_lt hB
  have hm := hrow.2.2
  have hc := hrow.2.1
  simp only at hm hc
  rcases Nat.eq_zero_or_pos l.length with h0 | h0
  · have hnil : l = [] := List.eq_nil_of_length_eq_zero h0
    subst hnil
    exact CtnWn_calls a cap _ w
  · obtain ⟨ad, e, hb, hcell⟩ := hrow.1.2 h0
    simp only at e
    subst e
    obtain ⟨b, o, ha, _⟩ := win_at hrow 0 h0
    simp only at ha
    injection ha with ha
    subst ha
    have hS := AnyQ.slices_ContainsFunc Tryz.ctnW 3 Tryz.isAgg38 Tryz.sizeOf38 winL winL_len (fun y => decide (y.part = p)) 37 #[.pointer (some ⟨B, 0, none⟩)] (enters_of Tryz.func37 (by kernel_rfl) rfl) b o l.length cap l w
      (fun W x hW => (NextP_calls B p x W ((hW.cell (p := ⟨B, 0, none⟩) hlt).trans hB)).mono fun e w' ⟨he, hb'⟩ => ⟨he, hW.trans (hb'.mono hW.size)⟩) (Nat.le_refl _) (by omega) hb
      (fun j hj i v hv => by
        have h3 : i < 3 := by
          have := (List.getElem?_eq_some_iff.1 hv).1
          rwa [winL_len] at this
        rw [getElem!_pos l j hj] at hv
        have hfl := flat_get winL 3 winL_len l j i hj h3
        have := hcell (j * 3 + i) v (by simp only; rw [hfl]; exact hv)
        rw [addr_plain] at this
        rw [← this, Nat.add_assoc])
    rw [List.take_of_length_le (Nat.le_refl _)] at hS
    exact hS
theorem res_cells {fn : Func} {p q : Tmp} {ty ty2 : TypeId} (h : fn.results = #[.cell p ty, .cell q ty2]) (tmps : Array Value) (w : World) (g g2 : Nat) (v v2 : Value)
    (hp : tmps.getD p undef = .pointer (some ⟨g, 0, none⟩)) (hl : (loadVar ty ⟨g, 0, none⟩).run Tryz.prog w = .ok v w)
    (hp2 : tmps.getD q undef = .pointer (some ⟨g2, 0, none⟩)) (hl2 : (loadVar ty2 ⟨g2, 0, none⟩).run Tryz.prog w = .ok v2 w) :
    (results fn tmps).run Tryz.prog w = .ok (.tuple #[v, v2]) w := by
  have hp' : tmps[p]?.getD undef = .pointer (some ⟨g, 0, none⟩) := by simpa using hp
  have hp2' : tmps[q]?.getD undef = .pointer (some ⟨g2, 0, none⟩) := by simpa using hp2
  simp [results, h, hp', hp2', asAddr, hl, hl2]
theorem load_u64 {w : World} {g : Nat} {n : Int} (h : w.cell? ⟨g, 0, none⟩ = some (.int .u64 n)) : (loadVar 22 ⟨g, 0, none⟩).run Tryz.prog w = .ok (.int .u64 n) w := by
  simp [loadVar, go_sem, h]
theorem load_bool {w : World} {g : Nat} {b : Bool} (h : w.cell? ⟨g, 0, none⟩ = some (.bool b)) : (loadVar 4 ⟨g, 0, none⟩).run Tryz.prog w = .ok (.bool b) w := by
  simp [loadVar, go_sem, h]
/-- Next's own boxes. -/
structure NxB (g p v : Nat) (b : Bool) (w W : World) : Prop where
  below : Below w.heap.size w W
  bs : Blk W w.heap.size 32 #[.pointer (some ⟨g, 0, none⟩)]
  bp : Blk W (w.heap.size + 1) 34 #[.int .u16 (p : Int)]
  br : Blk W (w.heap.size + 2) 22 #[.int .u64 (v : Int)]
  bb : Blk W (w.heap.size + 3) 4 #[.bool b]
section
variable {g p v : Nat} {b : Bool} {w W W' : World}
theorem NxB.but {M : Nat → Prop} (h : NxB g p v b w W) (hb : But M W W') (hM : ∀ i, M i → w.heap.size + 4 ≤ i) : NxB g p v b w W' :=
  ⟨h.below.trans (hb.below h.below.size (fun k hk hm => by have := hM k hm; omega)), hb.blk h.bs (fun hm => by have := hM _ hm; omega), hb.blk h.bp (fun hm => by have := hM _ hm; omega), hb.blk h.br (fun hm => by have := hM _ hm; omega), hb.blk h.bb (fun hm => by have := hM _ hm; omega)⟩
theorem NxB.belowW (h : NxB g p v b w W) (hb : Below W.heap.size W W') : NxB g p v b w W' := h.but (But.of_below (M := fun _ => False) hb) (fun i hi => hi.elim)
theorem NxB.set_ (h : NxB g p v b w W) (v2 : Nat) (b2 : Bool) : NxB g p v2 b2 w ((W.setCell ⟨w.heap.size + 2, 0, none⟩ (.int .u64 (v2 : Int))).setCell ⟨w.heap.size + 3, 0, none⟩ (.bool b2)) := by
  refine ⟨(h.below.setCell (p := ⟨w.heap.size + 2, 0, none⟩) (by simp) _).setCell (p := ⟨w.heap.size + 3, 0, none⟩) (by simp) _, (h.bs.far (p := ⟨w.heap.size + 2, 0, none⟩) (by simp) _).far (p := ⟨w.heap.size + 3, 0, none⟩) (by simp) _, (h.bp.far (p := ⟨w.heap.size + 2, 0, none⟩) (by simp) _).far (p := ⟨w.heap.size + 3, 0, none⟩) (by simp) _, ?_, ?_⟩
  · have := (h.br.set_ 0 (.int .u64 (v2 : Int))).far (p := ⟨w.heap.size + 3, 0, none⟩) (by simp) (.bool b2)
    simpa using this
  · have := (h.bb.far (p := ⟨w.heap.size + 2, 0, none⟩) (by simp) (.int .u64 (v2 : Int))).set_ 0 (.bool b2)
    simpa using this
theorem NxB.start (w : World) (g p : Nat) : NxB g p 0 false w ((((w.alloc (.cells #[.pointer (some ⟨g, 0, none⟩)] 32)).alloc (.cells #[.int .u16 (p : Int)] 34)).alloc (.cells #[.int .u64 0] 22)).alloc (.cells #[.bool false] 4)) := by
  refine ⟨((((Below.refl _ w).alloc (Nat.le_refl _) _).alloc (by simp) _).alloc (by simp; omega) _).alloc (by simp; omega) _, (((Blk.new w _ _).alloc _).alloc _).alloc _, ?_, ?_, ?_⟩
  · have := Blk.new (w.alloc (.cells #[.pointer (some ⟨g, 0, none⟩)] 32)) 34 #[.int .u16 (p : Int)]
    rw [World.size_alloc] at this
    exact (this.alloc _).alloc _
  · have := Blk.new ((w.alloc (.cells #[.pointer (some ⟨g, 0, none⟩)] 32)).alloc (.cells #[.int .u16 (p : Int)] 34)) 22 #[.int .u64 0]
    rw [World.size_alloc, World.size_alloc] at this
    exact this.alloc _
  · have := Blk.new (((w.alloc (.cells #[.pointer (some ⟨g, 0, none⟩)] 32)).alloc (.cells #[.int .u16 (p : Int)] 34)).alloc (.cells #[.int .u64 0] 22)) 4 #[.bool false]
    rw [World.size_alloc, World.size_alloc, World.size_alloc] at this
    exact this
end
/-- What Next's loop has seen. -/
def NxI (F : Nat) (l : List WinR) (g p : Nat) (w : World) (pre : List WinR) (W : World) : Prop := (∀ y ∈ pre, hitS F l p y.st = false) ∧ NxB g p 0 false w W
def NxX (F : Nat) (l : List WinR) (g p : Nat) (w : World) (pre : List WinR) (W : World) : Prop := ∃ pre0 x, pre = pre0 ++ [x] ∧ (∀ y ∈ pre0, hitS F l p y.st = false) ∧ hitS F l p x.st = true ∧ NxB g p x.st true w W
theorem rngs_mem (F : Nat) (l : List WinR) (t : Nat) : ∀ k i, i < k → ∃ y ∈ rngs F l k t, y.st = tsS F l i t
  | 0, i, h => by omega
  | k + 1, i, h => by
    by_cases e : i = k
    · subst e
      exact ⟨_, List.mem_append_right _ List.mem_cons_self, rfl⟩
    · obtain ⟨y, hy, h1⟩ := rngs_mem F l t k i (by omega)
      exact ⟨y, List.mem_append_left _ hy, h1⟩
theorem next_all {F : Nat} {l : List WinR} {p t : Nat} {xs : List WinR} (h : RgAll F l t xs) (hn : ∀ y ∈ xs, hitS F l p y.st = false) (k : Nat) : nextK F l p k t = none := by
  obtain ⟨j, rfl, hl, he⟩ := h
  exact nextK_end j k t he (fun i hi => by obtain ⟨y, hy, h1⟩ := rngs_mem F l t (j + 1) i hi; rw [← h1]; exact hn y hy) hl
theorem next_pre {F : Nat} {l : List WinR} {p t : Nat} (hS : Sch F l) (ht : t < 18446744073709551616) {pre0 : List WinR} {x : WinR} (h : RgPre F l t (pre0 ++ [x])) (hn : ∀ y ∈ pre0, hitS F l p y.st = false) (hx : hitS F l p x.st = true) : nextK F l p (4 * l.length + 4) t = some x.st := by
  obtain ⟨j, he, hl⟩ := h
  unfold rngs at he
  obtain ⟨e1, e2⟩ := List.append_inj' he rfl
  subst e1
  injection e2 with e2 _
  subst e2
  have hn2 : ∀ i, i < j → hitS F l p (tsS F l i t) = false := fun i hi => by obtain ⟨y, hy, h1⟩ := rngs_mem F l t j i hi; rw [← h1]; exact hn y hy
  have hw : ∃ y ∈ l, y.part = p := by
    simp only at hx
    unfold hitS at hx
    cases hs : winS l (tsS F l j t % F) with
    | none => rw [hs] at hx; cases hx
    | some y =>
      rw [hs] at hx
      have := (endS_spec hS (Nat.mod_lt (tsS F l j t) hS.pos)).2.2
      rw [hs] at this
      exact ⟨y, this.1, by simpa using hx⟩
  obtain ⟨y, hy, hp⟩ := hw
  exact nextK_hit j _ t (hit_soon hS hy hp ht hl hn2) hl hn2 hx
end Go.Proofs.YtmphookgaopdlaaGreat
namespace Go.Proofs.YtmphookgaopdlaaGreat
open Go.RowKit Go.Sort Go.Shelf
attribute [local go_sem] Oper.semAt_some
set_option linter.unusedVariables false

set_option maxRecDepth 100000 in
set_option maxHeartbeats 4000000 in
theorem Next_calls (F : Nat) (l : List WinR) (a : Option Addr) (cap g p t : Nat) (w : World) (h : SdAt F l a cap g w) (hS : Sch F l) (hl : l.length ≤ 1048576) (ht : t < 18446744073709551616) :
    Calls Tryz.prog 21 #[.pointer (some ⟨g, 0, none⟩), .int .u16 (p : Int), .int .u64 (t : Int)] w fun e w' => e = .returned (.tuple #[.int .u64 (((nextK F l p (4 * l.length + 4) t).getD 0 : Nat) : Int), .bool (nextK F l p (4 * l.length + 4) t).isSome]) ∧ Below w.heap.size w w' := by
  have HST := hide (NxB.start w g p)
  have HSD := hide (fun W (hW : Below w.heap.size w W) => h.below hW)
  have HCT := hide (fun W (hb : Below w.heap.size w W) (hB : W.cell? ⟨w.heap.size + 1, 0, none⟩ = some (.int .u16 (p : Int))) => CtnW_calls l a cap (w.heap.size + 1) p W (h.below hb).row hB)
  have HRC := hide (fun W => ranges_calls g t W)
  have HRS := hide (fun Bs Bt W (hE : RgEnv w.heap.size Bs Bt F l a cap g t W) (h1 : w.heap.size ≤ W.heap.size) (h2 : w.heap.size ≤ Bt) (h3 : Bs ≠ Bt) => rg_seq w.heap.size Bs Bt F l a cap g t W hE h1 h2 h3 hS hl ht)
  have HENV := hide (fun W (hb : Below w.heap.size w W) => (show RgEnv w.heap.size W.heap.size (W.heap.size + 1) F l a cap g t ((W.alloc (.cells #[.pointer (some ⟨g, 0, none⟩)] 32)).alloc (.cells #[.int .u64 (t : Int)] 22)) from by
    have hd := h.below hb
    have hgz := h.box.lt
    refine ⟨(hd.box.alloc _).alloc _, hgz, (h.row.below hb).below (((Below.refl _ W).alloc hb.size _).alloc (by simp; have := hb.size; omega) _), (Blk.new W _ _).alloc _, ?_⟩
    have := Blk.new (W.alloc (.cells #[.pointer (some ⟨g, 0, none⟩)] 32)) 22 #[.int .u64 (t : Int)]
    rwa [World.size_alloc] at this))
  have HLK := hide (fun T W (hb : Below w.heap.size w W) => Lookup_any F l a cap g T W (h.below hb) hS hl)
  have hgz : g < w.heap.size := h.box.lt
  have HS1 : Hid (∀ W, Below w.heap.size w W → W.cell? ⟨g, 1, none⟩ = some (.slice a l.length cap)) := hide (fun W hW => (h.below hW).cells.2)
  have HS := hide hS
  have HT := hide ht
  obtain ⟨st, hst⟩ : ∃ s, s = 4 * l.length + 4 := ⟨_, rfl⟩
  have HNP := hide (fun (pre0 : List WinR) (x : WinR) => next_pre (F := F) (l := l) (p := p) (t := t) hS ht (pre0 := pre0) (x := x))
  rw [← hst] at HNP ⊢
  have HNA := hide (fun (xs : List WinR) (h : RgAll F l t xs) (hn : ∀ y ∈ xs, hitS F l p y.st = false) => next_all h hn st)
  obtain ⟨nx, hnx⟩ : ∃ r, r = nextK F l p st t := ⟨_, rfl⟩
  have HNX := hide hnx
  rw [← hnx] at HNP HNA ⊢
  refine callsIn_wide (n := 3) |>.1 (callsIn_of_wp_marks Tryz.func21 rfl trivial ?_ rfl)
  simp only [Tryz.ntmps21, List.size_toArray, List.length_cons, List.length_nil, Nat.reduceAdd, Nat.reduceSub, Array.replicate_succ, Array.replicate_zero, List.push_toArray, List.append_toArray, List.nil_append, List.cons_append]
  have hb0 := HS1.out _ HST.out.below
  have hmf : ∀ (fn : Fn) (first cap : Array Value) (w : World), (Instr.makeFunc fn first cap).run Tryz.prog w = .ok (.func fn first cap) w := fun _ _ _ _ => rfl
  obtain ⟨n, hn⟩ : ∃ n, n = l.length := ⟨_, rfl⟩
  rw [← hn] at HCT HS1 hb0
  cases hany : l.any (fun y => decide (y.part = p)) with
  | false =>
    have hnone : Hid (nx = none) := hide (by
      rw [hnx]
      refine nextK_none (fun T => hit_no (fun y hy he => ?_) T) st t
      rw [List.any_eq_false] at hany
      exact absurd he (by simpa using hany y hy))
    rw [hany] at HCT
    rw [hnone.out]
    clear h hS hl ht hst hnx hn hany
    gi_wp2_with (refine ⟨trivial, ?_⟩; gi_at_call 36; refine (callsIn_wide.2 (HCT.out _ HST.out.below (HST.out.bp.cell 0))).mono ?_; rintro e w1 ⟨rfl, hb⟩; have HB1 := hide (HST.out.belowW hb); have k2 : w1.cell? ⟨w.heap.size + 2, 0, none⟩ = some (.int .u64 0) := HB1.out.br.cell 0; have k3 : w1.cell? ⟨w.heap.size + 3, 0, none⟩ = some (.bool false) := HB1.out.bb.cell 0; have f2 : w1.frozen? ⟨w.heap.size + 2, 0, none⟩ = false := HB1.out.br.frozen 0; have f3 : w1.frozen? ⟨w.heap.size + 3, 0, none⟩ = false := HB1.out.bb.frozen 0; have z3 : w.heap.size + 3 < w1.heap.size := HB1.out.bb.lt; clear hb hb0)
    have HB2 := hide (HB1.out.set_ 0 false)
    refine ⟨_, res_cells rfl _ _ (w.heap.size + 2) (w.heap.size + 3) (.int .u64 0) (.bool false) rfl (load_u64 (HB2.out.br.cell 0)) rfl (load_bool (HB2.out.bb.cell 0)), rfl, HB2.out.below⟩
  | true =>
    rw [hany] at HCT
    clear h hS hl ht hst hnx hn hany
    gi_wp2_with (first
      | (refine ⟨trivial, ?_⟩; gi_at_call 36; refine (callsIn_wide.2 (HCT.out _ HST.out.below (HST.out.bp.cell 0))).mono ?_; rintro e w1 ⟨rfl, hb⟩; have HB1 := hide (HST.out.belowW hb); have k0 : w1.cell? ⟨w.heap.size, 0, none⟩ = some (.pointer (some ⟨g, 0, none⟩)) := HB1.out.bs.cell 0; have z3 : w.heap.size + 3 < w1.heap.size := HB1.out.bb.lt; clear hb hb0)
      | (refine ⟨trivial, ?_⟩; gi_at_call 38; refine (callsIn_wide.2 (HRC.out _)).mono ?_; rintro e w2 ⟨rfl, rfl⟩))
    have HE0 := hide (HENV.out w1 HB1.out.below)
    have HSZ : Hid (((w1.alloc (.cells #[.pointer (some ⟨g, 0, none⟩)] 32)).alloc (.cells #[.int .u64 (t : Int)] 22)).heap.size = w1.heap.size + 2) := hide (by simp)
    have HB2 := hide ((HB1.out.belowW ((Below.refl _ w1).alloc (Nat.le_refl _) (.cells #[.pointer (some ⟨g, 0, none⟩)] 32))).belowW ((Below.refl _ _).alloc (Nat.le_refl _) (.cells #[.int .u64 (t : Int)] 22)))
    have HZ3 := hide z3
    have HNM : Hid (∀ i, mine (fun i => i = w1.heap.size ∨ i = w1.heap.size + 1) (2 + 0) ((w1.alloc (.cells #[.pointer (some ⟨g, 0, none⟩)] 32)).alloc (.cells #[.int .u64 (t : Int)] 22)).heap.size i → w.heap.size + 4 ≤ i) := hide (by
      rintro i ((rfl | rfl) | hi)
      · omega
      · omega
      · rw [HSZ.out] at hi; omega)
    clear k0 z3
    generalize (w1.alloc (.cells #[.pointer (some ⟨g, 0, none⟩)] 32)).alloc (.cells #[.int .u64 (t : Int)] 22) = W0 at *
    simp only [Nat.add_assoc, Nat.reduceAdd]
    refine wp_range_own (gf := 54) (lb := #[.pointer (some ⟨w1.heap.size, 0, none⟩), .pointer (some ⟨w1.heap.size + 1, 0, none⟩)]) rfl (enters_of Tryz.func54 (by kernel_rfl) rfl) (HRS.out w1.heap.size (w1.heap.size + 1) W0 HE0.out (by rw [HSZ.out]; have := HZ3.out; omega) (by have := HZ3.out; omega) (by omega)) (Below.refl _ _) (fun _ => rfl)
      (by rintro i (rfl | rfl) <;> (rw [HSZ.out]; omega)) (by rw [HSZ.out]; have := HZ3.out; omega)
      (fun i => i = w.heap.size + 2 ∨ i = w.heap.size + 3 ∨ w1.heap.size + 4 ≤ i) (by have := HZ3.out; rintro i (rfl | rfl | hi) <;> rw [HSZ.out] <;> refine ⟨by omega, ?_, by omega⟩ <;> rintro (h | h) <;> omega)
      (fun pre W => NxI F l g p w pre W) (fun c pre W => c = .ret ∧ NxX F l g p w pre W)
      (fun s A B hs hb => ⟨hs.1, hs.2.but hb HNM.out⟩) (fun c s A B hs hb => by obtain ⟨h1, pre0, x, h2, h3, h4, h5⟩ := hs; exact ⟨h1, pre0, x, h2, h3, h4, h5.but hb HNM.out⟩) ⟨fun y hy => (by cases hy), HB2.out⟩
      (fun x a' W => ∃ b, w1.heap.size + 4 ≤ b ∧ Blk W b 38 (winC x) ∧ a' = { tmps := #[.pointer (some ⟨g, 0, none⟩), .int .u16 (p : Int), .int .u64 (t : Int), .pointer (some ⟨w.heap.size, 0, none⟩), .pointer (some ⟨w.heap.size + 1, 0, none⟩), undef, .pointer (some ⟨w.heap.size + 2, 0, none⟩), .pointer (some ⟨w.heap.size + 3, 0, none⟩), .pointer (some ⟨b, 0, none⟩), undef, undef, .pointer (some ⟨g, 0, none⟩), .bool false, .bool false, .pointer (some ⟨g, 0, none⟩), .pointer (some ⟨g, 0, none⟩), .pointer (some ⟨g, 1, none⟩), .slice a n cap, .func (.func 37) #[] #[.pointer (some ⟨w.heap.size + 1, 0, none⟩)], .bool true, .bool false, .bool false, .pointer (some ⟨g, 0, none⟩), .int .u64 (t : Int), .func (.func 54) #[] #[.pointer (some ⟨w1.heap.size, 0, none⟩), .pointer (some ⟨w1.heap.size + 1, 0, none⟩)], .agg (winC x), undef, undef, undef, undef, undef, undef, undef, undef, undef, undef, undef, undef, undef, undef, undef], defers := [] })
      (fun x a' A B ⟨b, h1, h2, h3⟩ hb => ⟨b, h1, hb.blk h2 (by rintro ((hi | hi) | hi); omega; omega; rw [HSZ.out] at hi; omega), h3⟩)
      ?assign ?body ?done ?stop
    case assign =>
      intro lp pre x W hi hsz K hK
      rw [HSZ.out] at hsz
      simp only [encsV, zip1, List.setIfInBounds_toArray, List.set_cons_succ, List.set_cons_zero]
      gi_wp2
      exact hK _ _ ⟨W.heap.size, by omega, Blk.new W _ _, rfl⟩ ((But.refl _ W).alloc _) ⟨hi.1, hi.2.belowW ((Below.refl _ W).alloc (Nat.le_refl _) _)⟩
    case body =>
      rintro lp pre x a' W hi ⟨b, hb, hblk, rfl⟩ hsz hlen
      obtain ⟨lo, len, pt⟩ := x
      unfold winC at hblk ⊢
      simp only at hblk ⊢
      have k0 : W.cell? ⟨w.heap.size, 0, none⟩ = some (.pointer (some ⟨g, 0, none⟩)) := hi.2.bs.cell 0
      have x0 : W.cell? ⟨b, 0, none⟩ = some (.int .u64 (lo : Int)) := hblk.cell 0
      have hz3 : w.heap.size + 3 < W.heap.size := hi.2.bb.lt
      have hbz : b < W.heap.size := hblk.lt
      have hhs := hitS_eq F l p lo
      have hlk := HLK.out lo
      generalize (winD l (lo % F)).part = PT at *
      generalize winB l (lo % F) = PB at *
      have HLK1 := hide (hlk W hi.2.below)
      have HI := hide hi
      have HBB := hide hblk
      clear hlk hi hsz hblk
      cases hh : hitS F l p lo with
      | true =>
        rw [hh] at hhs
        have hh2 := hhs.symm
        rw [Bool.and_eq_true] at hh2
        obtain ⟨hpb, hpt⟩ := hh2
        have e0 : ((PT : Int) == (p : Int)) = true := by rw [beq_iff_eq] at hpt ⊢; omega
        subst hpb
        have HH := hide hh
        clear hhs hpt hh
        gi_wp2_with (refine ⟨trivial, ?_⟩; gi_at_call 13; refine (callsIn_wide.2 HLK1.out).mono ?_; rintro e w3 ⟨rfl, hb⟩; have HB3 := hide (HI.out.2.belowW hb); have HBL := hide hb; have k1 : w3.cell? ⟨w.heap.size + 1, 0, none⟩ = some (.int .u16 (p : Int)) := HB3.out.bp.cell 0; have k2 : w3.cell? ⟨w.heap.size + 2, 0, none⟩ = some (.int .u64 0) := HB3.out.br.cell 0; have k3 : w3.cell? ⟨w.heap.size + 3, 0, none⟩ = some (.bool false) := HB3.out.bb.cell 0; have f2 : w3.frozen? ⟨w.heap.size + 2, 0, none⟩ = false := HB3.out.br.frozen 0; have f3 : w3.frozen? ⟨w.heap.size + 3, 0, none⟩ = false := HB3.out.bb.frozen 0; have z3 : w.heap.size + 3 < w3.heap.size := HB3.out.bb.lt; have x3 : w3.cell? ⟨b, 0, none⟩ = some (.int .u64 (lo : Int)) := (HBB.out.below hb HBB.out.lt).cell 0; have bz3 : b < w3.heap.size := (HBB.out.below hb HBB.out.lt).lt; clear hb k0 x0)
        exact ⟨((But.of_below HBL.out).setCell (p := ⟨w.heap.size + 2, 0, none⟩) (.inl (.inl rfl)) _).setCell (p := ⟨w.heap.size + 3, 0, none⟩) (.inl (.inr (.inl rfl))) _, rfl, pre, ⟨lo, len, pt⟩, rfl, HI.out.1, HH.out, HB3.out.set_ lo true⟩
      | false =>
        rw [hh] at hhs
        have hcond : PB = false ∨ (PB = true ∧ ((PT : Int) == (p : Int)) = false) := by
          cases PB with
          | false => exact .inl rfl
          | true =>
            right
            refine ⟨rfl, ?_⟩
            have : (PT == p) = false := by simpa using hhs.symm
            rw [beq_eq_false_iff_ne] at this ⊢
            omega
        have HH := hide hh
        clear hhs hh
        rcases hcond with rfl | ⟨rfl, e0⟩
        all_goals
          gi_wp2_with (refine ⟨trivial, ?_⟩; gi_at_call 13; refine (callsIn_wide.2 HLK1.out).mono ?_; rintro e w3 ⟨rfl, hb⟩; have HB3 := hide (HI.out.2.belowW hb); have HBL := hide hb; have k1 : w3.cell? ⟨w.heap.size + 1, 0, none⟩ = some (.int .u16 (p : Int)) := HB3.out.bp.cell 0; clear hb k0 x0)
          exact ⟨But.of_below HBL.out, fun y hy => by
            rcases List.mem_append.1 hy with hy | hy
            · exact HI.out.1 y hy
            · rw [List.mem_singleton] at hy; subst hy; exact HH.out, HB3.out⟩
    case done =>
      rintro D xs W hD hD2 hall hi hK
      have hx := HNA.out xs hall hi.1
      have k2 : W.cell? ⟨w.heap.size + 2, 0, none⟩ = some (.int .u64 0) := hi.2.br.cell 0
      have k3 : W.cell? ⟨w.heap.size + 3, 0, none⟩ = some (.bool false) := hi.2.bb.cell 0
      have f2 : W.frozen? ⟨w.heap.size + 2, 0, none⟩ = false := hi.2.br.frozen 0
      have f3 : W.frozen? ⟨w.heap.size + 3, 0, none⟩ = false := hi.2.bb.frozen 0
      have z3 : w.heap.size + 3 < W.heap.size := hi.2.bb.lt
      rw [HSZ.out] at hD hD2
      have HI := hide hi
      have HK := hide hK
      clear hi hK hall
      subst hx
      gi_wp2
      have hz1 := HZ3.out
      have e1 := Below.heap_setCell W ⟨w.heap.size + 2, 0, none⟩ (.int .u64 0) D (by show D ≠ w.heap.size + 2; omega)
      have e2 := Below.heap_setCell (W.setCell ⟨w.heap.size + 2, 0, none⟩ (.int .u64 0)) ⟨w.heap.size + 3, 0, none⟩ (.bool false) D (by show D ≠ w.heap.size + 3; omega)
      have hK2 := e2.trans (e1.trans HK.out)
      have hN := (HI.out.2.set_ 0 false).but ((But.refl (fun k => k = D) _).putObj (.deferred none) (.inl rfl)) (fun i hi => by omega)
      refine ⟨by simp, .inl ⟨_, _, rfl, run_takeDeferred hK2, ?_⟩⟩
      exact ⟨_, res_cells rfl _ _ (w.heap.size + 2) (w.heap.size + 3) (.int .u64 0) (.bool false) rfl (load_u64 (hN.br.cell 0)) rfl (load_bool (hN.bb.cell 0)), rfl, hN.below⟩
    case stop =>
      rintro D c pre W hD hD2 hpre ⟨rfl, pre0, x, rfl, h1, h2, h3⟩ hK
      have hx := HNP.out pre0 x hpre h1 h2
      rw [HSZ.out] at hD hD2
      have HK := hide hK
      have HI := hide h3
      clear hK h1 h2 h3 hpre
      subst hx
      gi_wp2
      have hz1 := HZ3.out
      have hN := HI.out.but ((But.refl (fun k => k = D) _).putObj (.deferred none) (.inl rfl)) (fun i hi => by omega)
      refine ⟨by simp, .inl ⟨_, _, rfl, run_takeDeferred HK.out, ?_⟩⟩
      exact ⟨_, res_cells rfl _ _ (w.heap.size + 2) (w.heap.size + 3) (.int .u64 (x.st : Int)) (.bool true) rfl (load_u64 (hN.br.cell 0)) rfl (load_bool (hN.bb.cell 0)), rfl, hN.below⟩
end Go.Proofs.YtmphookgaopdlaaGreat
