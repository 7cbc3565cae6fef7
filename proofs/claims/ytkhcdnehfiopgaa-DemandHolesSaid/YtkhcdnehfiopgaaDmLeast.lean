/- demand: least and short (chapter 16). -/
import Derived.Test.YtkhcdnehfiopgaaDmPerS
import Derived.Test.YtkhcdnehfiopgaaDmOf
import Derived.Test.YtkhcdnehfiopgaaNuA
import Derived.Lib.MinMax
namespace Go.Proofs.Ytkhcdnehfiopgaa
open Go.RowKit Go.Sort Go.Shelf
attribute [local go_sem] Oper.semAt_some
set_option linter.unusedVariables false

set_option maxHeartbeats 1000000 in
theorem periods_calls (x : PartR) (F : Nat) (r : Row WinR) (w : World) :
    Calls Try.prog 51 #[.agg (pwC x F r)] w fun e w' => e = .returned (.func (.func 65) #[] #[.pointer (some ⟨w.heap.size, 0, none⟩)]) ∧ w' = w.alloc (.cells (pwC x F r) 58) := by
  unfold pwC
  go_enter Try.func51, Try.ntmps51
  go_wp2
  go_ret
  exact ⟨rfl, rfl⟩
set_option maxHeartbeats 1000000 in
theorem Note_calls (B n v m : Nat) (w : World) (h : Blk w B 22 #[.int .u64 (n : Int)]) (hm : m = min n v) :
    Calls Try.prog 52 #[.int .u64 (v : Int), .pointer (some ⟨B, 0, none⟩)] w fun e w' => (∃ v, e = .returned v) ∧ w' = w.setCell ⟨B, 0, none⟩ (.int .u64 (m : Int)) := by
  have b3 : w.cell? ⟨B, 0, none⟩ = some (.int .u64 (n : Int)) := h.cell 0
  have b4 : w.frozen? ⟨B, 0, none⟩ = false := h.frozen 0
  have hmin : min (n : Int) (v : Int) = (m : Int) := by omega
  clear h hm
  go_enter Try.func52, Try.ntmps52
  go_wp2
  go_end0
  exact ⟨⟨_, rfl⟩, rfl⟩
/-- least's own boxes. -/
def LeB (n : Nat) (w W : World) : Prop := Below w.heap.size w W ∧ Blk W (w.heap.size + 1) 22 #[.int .u64 (n : Int)] ∧ Blk W (w.heap.size + 2) 81 #[.func (.func 52) #[] #[.pointer (some ⟨w.heap.size + 1, 0, none⟩)]]
theorem LeB.but {M : Nat → Prop} {n : Nat} {w W W' : World} (h : LeB n w W) (hb : But M W W') (hM : ∀ i, M i → w.heap.size ≤ i ∧ i ≠ w.heap.size + 1 ∧ i ≠ w.heap.size + 2) : LeB n w W' :=
  ⟨h.1.trans (hb.below h.1.size (fun k hk hm => by have := (hM k hm).1; omega)), hb.blk h.2.1 (fun hm => (hM _ hm).2.1 rfl), hb.blk h.2.2 (fun hm => (hM _ hm).2.2 rfl)⟩
theorem LeB.set_ {n : Nat} {w W : World} (h : LeB n w W) (n2 : Nat) : LeB n2 w (W.setCell ⟨w.heap.size + 1, 0, none⟩ (.int .u64 (n2 : Int))) := by
  refine ⟨h.1.setCell (p := ⟨w.heap.size + 1, 0, none⟩) (by simp) _, ?_, h.2.2.far (p := ⟨w.heap.size + 1, 0, none⟩) (by simp) _⟩
  have := h.2.1.set_ 0 (.int .u64 (n2 : Int))
  simpa using this
theorem leastY_snoc (P : Nat) (l : List (Nat × Nat)) (x : Nat × Nat) : leastY P (l ++ [x]) = min (leastY P l) x.2 := by unfold leastY; rw [List.foldl_append]; rfl
set_option maxRecDepth 100000 in
set_option maxHeartbeats 4000000 in
theorem least_calls (x : PartR) (F cnt : Nat) (r : Row WinR) (w : World) (h : RowAt winL 3 w.heap.size r w) (hP : 0 < x.per) (hF : F = cnt * x.per) (hS : Sch F r.l) (hl : r.l.length ≤ 1048576) (hok : x.Ok) :
    Calls Try.prog 35 #[.agg (pwC x F r)] w fun e w' => e = .returned (.int .u64 ((leastY x.per (perY x.per cnt r.l) : Nat) : Int)) ∧ Below w.heap.size w w' := by
  have HPC := hide (fun W => periods_calls x F r W)
  have HPS := hide (fun w0 (hE : PerEnv w.heap.size (w.heap.size + 3) x F r w0) (hn0 : w.heap.size ≤ w0.heap.size) => per_seq w.heap.size (w.heap.size + 3) x F cnt r w0 hE hn0 hP hF hS hl hok)
  have HNT := hide (fun B n v m W h hm => Note_calls B n v m W h hm)
  have eF : ∀ args w, (callFunc 52 args).run Try.prog w = .ok (.enter 52 args) w := enters_of Try.func52 (by kernel_rfl) rfl
  obtain ⟨W0, hW0⟩ : ∃ W0, W0 = (((w.alloc (.cells (pwC x F r) 58)).alloc (.cells #[.int .u64 (x.per : Int)] 22)).alloc (.cells #[.func (.func 52) #[] #[.pointer (some ⟨w.heap.size + 1, 0, none⟩)]] 81)).alloc (.cells (pwC x F r) 58) := ⟨_, rfl⟩
  have hb0 : Below w.heap.size w W0 := by rw [hW0]; exact ((((Below.refl _ w).alloc (Nat.le_refl _) _).alloc (by simp) _).alloc (by simp; omega) _).alloc (by simp; omega) _
  have hz0 : W0.heap.size = w.heap.size + 4 := by rw [hW0]; simp
  have hbx : LeB x.per w W0 := by
    refine ⟨hb0, ?_, ?_⟩
    · have := Blk.new (w.alloc (.cells (pwC x F r) 58)) 22 #[.int .u64 (x.per : Int)]
      rw [World.size_alloc] at this
      rw [hW0]; exact (this.alloc _).alloc _
    · have := Blk.new ((w.alloc (.cells (pwC x F r) 58)).alloc (.cells #[.int .u64 (x.per : Int)] 22)) 81 #[.func (.func 52) #[] #[.pointer (some ⟨w.heap.size + 1, 0, none⟩)]]
      rw [World.size_alloc, World.size_alloc] at this
      rw [hW0]; exact this.alloc _
  have hpe : PerEnv w.heap.size (w.heap.size + 3) x F r W0 := by
    refine ⟨?_, h.below hb0⟩
    have := Blk.new (((w.alloc (.cells (pwC x F r) 58)).alloc (.cells #[.int .u64 (x.per : Int)] 22)).alloc (.cells #[.func (.func 52) #[] #[.pointer (some ⟨w.heap.size + 1, 0, none⟩)]] 81)) 58 (pwC x F r)
    rw [World.size_alloc, World.size_alloc, World.size_alloc] at this
    rw [hW0]; exact this
  have HBX := hide hbx
  have HPE := hide hpe
  have HSZ := hide hz0
  obtain ⟨Z, hZ⟩ : ∃ Z, Z = perY x.per cnt r.l := ⟨_, rfl⟩
  rw [← hZ] at HPS ⊢
  clear h hP hF hS hl hok hb0 hz0 hbx hpe hZ
  obtain ⟨id, nm, per, dur⟩ := x
  unfold pwC at HPC hW0 ⊢
  simp only at HPC hW0 HBX ⊢
  have HW0 := hide hW0
  clear hW0
  refine callsIn_wide (n := 3) |>.1 (callsIn_of_wp_marks Try.func35 rfl trivial ?_ rfl)
  simp only [Try.ntmps35, List.size_toArray, List.length_cons, List.length_nil, Nat.reduceAdd, Nat.reduceSub, Array.replicate_succ, Array.replicate_zero, List.push_toArray, List.append_toArray, List.nil_append, List.cons_append]
  gi_wp2_with (refine ⟨trivial, ?_⟩; gi_at_call 51; refine (callsIn_wide.2 (HPC.out _)).mono ?_; rintro e w1 ⟨rfl, rfl⟩)
  simp only [Nat.add_assoc, Nat.reduceAdd]
  rw [← HW0.out]
  refine wp_range_actK (gf := 65) (lb := #[.pointer (some ⟨w.heap.size + 3, 0, none⟩)]) rfl (enters_of Try.func65 (by kernel_rfl) rfl) (HPS.out W0 HPE.out (by rw [HSZ.out]; omega)) (Below.refl _ _) (fun _ => rfl)
    (by rintro i rfl; rw [HSZ.out]; omega) (by rw [HSZ.out]; omega)
    (fun i => i = w.heap.size + 1) (by rintro i rfl; rw [HSZ.out]; exact ⟨by omega, by omega, by omega⟩)
    (fun pre W => LeB (leastY per pre) w W) (fun _ _ _ => False)
    (fun s A B hs hb => hs.but hb (by rintro i (rfl | hi); omega; (rw [HSZ.out] at hi; omega))) (fun _ _ _ _ hs _ => hs) HBX.out
    ?f ?assign ?body ?done ?stop
  case assign =>
    intro l y W K hK
    simp only [encsW, zip2, List.setIfInBounds_toArray, List.set_cons_succ, List.set_cons_zero]
    gi_wp2
    exact hK
  case body =>
    rintro l pre y W hi hsz hlen
    obtain ⟨k, v⟩ := y
    have b5 : W.cell? ⟨w.heap.size + 2, 0, none⟩ = some (.func (.func 52) #[] #[.pointer (some ⟨w.heap.size + 1, 0, none⟩)]) := hi.2.2.cell 0
    have HI := hide hi
    have HSN : Hid (leastY per (pre ++ [(k, v)]) = min (leastY per pre) v) := hide (leastY_snoc per pre (k, v))
    have HAD := hide (HNT.out (w.heap.size + 1) (leastY per pre) v _ W hi.2.1 rfl)
    generalize leastY per pre = n1 at *
    clear hi hlen
    gi_wp2_with (refine ⟨trivial, ?_⟩; gi_at_call 52; refine (CallsIn.inRound l (callsIn_wide.2 HAD.out)).mono ?_; rintro e w' ⟨⟨v2, rfl⟩, rfl⟩)
    exact ⟨(But.refl (fun i => i = w.heap.size + 1) W).setCell (p := ⟨w.heap.size + 1, 0, none⟩) (Or.inl rfl) _, by show LeB (leastY per (pre ++ [(k, v)])) _ _; rw [HSN.out]; exact HI.out.set_ _⟩
  case done =>
    rintro D xs W hD hD2 rfl hi hK
    have b3 : W.cell? ⟨w.heap.size + 1, 0, none⟩ = some (.int .u64 ((leastY per xs : Nat) : Int)) := hi.2.1.cell 0
    gi_wp2
    refine ⟨by simp, .inl ⟨_, _, rfl, run_takeDeferred hK, ?_⟩⟩
    refine ⟨_, results_tmp rfl _ _ _, rfl, ?_⟩
    exact hi.1.trans (belowK_b (w := w) (Nat.le_refl _) W D _ _ (by rw [HSZ.out] at hD; omega) hK rfl rfl)
  case stop =>
    rintro D c pre W _ _ _ h _
    exact h.elim
/-! ### short -/
theorem res_cells2 {fn : Func} {p q : Tmp} {ty ty2 : TypeId} (h : fn.results = #[.cell p ty, .cell q ty2]) (tmps : Array Value) (w : World) (g g2 : Nat) (v v2 : Value)
    (hp : tmps.getD p undef = .pointer (some ⟨g, 0, none⟩)) (hl : (loadVar ty ⟨g, 0, none⟩).run Try.prog w = .ok v w)
    (hp2 : tmps.getD q undef = .pointer (some ⟨g2, 0, none⟩)) (hl2 : (loadVar ty2 ⟨g2, 0, none⟩).run Try.prog w = .ok v2 w) :
    (results fn tmps).run Try.prog w = .ok (.tuple #[v, v2]) w := by
  have hp' : tmps[p]?.getD undef = .pointer (some ⟨g, 0, none⟩) := by simpa using hp
  have hp2' : tmps[q]?.getD undef = .pointer (some ⟨g2, 0, none⟩) := by simpa using hp2
  simp [results, h, hp', hp2', asAddr, hl, hl2]
theorem load_u64D {w : World} {g : Nat} {n : Int} (h : w.cell? ⟨g, 0, none⟩ = some (.int .u64 n)) : (loadVar 22 ⟨g, 0, none⟩).run Try.prog w = .ok (.int .u64 n) w := by
  simp [loadVar, go_sem, h]
theorem load_boolD {w : World} {g : Nat} {b : Bool} (h : w.cell? ⟨g, 0, none⟩ = some (.bool b)) : (loadVar 4 ⟨g, 0, none⟩).run Try.prog w = .ok (.bool b) w := by
  simp [loadVar, go_sem, h]
/-- short's own boxes. -/
structure ShB (x : PartR) (F : Nat) (r : Row WinR) (k : Nat) (b : Bool) (w W : World) : Prop where
  below : Below w.heap.size w W
  bx : Blk W w.heap.size 58 (pwC x F r)
  bk : Blk W (w.heap.size + 1) 22 #[.int .u64 (k : Int)]
  bb : Blk W (w.heap.size + 2) 4 #[.bool b]
section
variable {x : PartR} {F : Nat} {r : Row WinR} {k : Nat} {b : Bool} {w W W' : World}
theorem ShB.but {M : Nat → Prop} (h : ShB x F r k b w W) (hb : But M W W') (hM : ∀ i, M i → w.heap.size + 3 ≤ i) : ShB x F r k b w W' :=
  ⟨h.below.trans (hb.below h.below.size (fun k hk hm => by have := hM k hm; omega)), hb.blk h.bx (fun hm => by have := hM _ hm; omega), hb.blk h.bk (fun hm => by have := hM _ hm; omega), hb.blk h.bb (fun hm => by have := hM _ hm; omega)⟩
theorem ShB.set_ (h : ShB x F r k b w W) (k2 : Nat) (b2 : Bool) : ShB x F r k2 b2 w ((W.setCell ⟨w.heap.size + 1, 0, none⟩ (.int .u64 (k2 : Int))).setCell ⟨w.heap.size + 2, 0, none⟩ (.bool b2)) := by
  refine ⟨(h.below.setCell (p := ⟨w.heap.size + 1, 0, none⟩) (by simp) _).setCell (p := ⟨w.heap.size + 2, 0, none⟩) (by simp) _, (h.bx.far (p := ⟨w.heap.size + 1, 0, none⟩) (by simp) _).far (p := ⟨w.heap.size + 2, 0, none⟩) (by simp) _, ?_, ?_⟩
  · have := (h.bk.set_ 0 (.int .u64 (k2 : Int))).far (p := ⟨w.heap.size + 2, 0, none⟩) (by simp) (.bool b2)
    simpa using this
  · have := (h.bb.far (p := ⟨w.heap.size + 1, 0, none⟩) (by simp) (.int .u64 (k2 : Int))).set_ 0 (.bool b2)
    simpa using this
end
/-- What short hands back. -/
def shortV (o : Option Nat) : Value := .tuple #[.int .u64 ((o.getD 0 : Nat) : Int), .bool o.isSome]
theorem shortY_hit {d : Nat} {Z pre : List (Nat × Nat)} {k v : Nat} (hp : pre ++ [(k, v)] <+: Z) (hn : ∀ y ∈ pre, ¬ y.2 < d) (hv : v < d) : shortY d Z = some k := by
  obtain ⟨t, rfl⟩ := hp
  unfold shortY
  rw [List.append_assoc, List.find?_append, List.find?_eq_none.2 (by intro y hy; simpa using hn y hy)]
  simp [hv]
theorem shortY_miss {d : Nat} {Z : List (Nat × Nat)} (hn : ∀ y ∈ Z, ¬ y.2 < d) : shortY d Z = none := by
  unfold shortY
  rw [List.find?_eq_none.2 (by intro y hy; simpa using hn y hy)]; rfl
set_option maxRecDepth 100000 in
set_option maxHeartbeats 4000000 in
theorem short_calls (x : PartR) (F cnt : Nat) (r : Row WinR) (w : World) (h : RowAt winL 3 w.heap.size r w) (hP : 0 < x.per) (hF : F = cnt * x.per) (hS : Sch F r.l) (hl : r.l.length ≤ 1048576) (hok : x.Ok) :
    Calls Try.prog 33 #[.agg (pwC x F r)] w fun e w' => e = .returned (shortV (shortY x.dur (perY x.per cnt r.l))) ∧ Below w.heap.size w w' := by
  have HPC := hide (fun W => periods_calls x F r W)
  have HPS := hide (fun w0 (hE : PerEnv w.heap.size (w.heap.size + 3) x F r w0) (hn0 : w.heap.size ≤ w0.heap.size) => per_seq w.heap.size (w.heap.size + 3) x F cnt r w0 hE hn0 hP hF hS hl hok)
  obtain ⟨W0, hW0⟩ : ∃ W0, W0 = (((w.alloc (.cells (pwC x F r) 58)).alloc (.cells #[.int .u64 0] 22)).alloc (.cells #[.bool false] 4)).alloc (.cells (pwC x F r) 58) := ⟨_, rfl⟩
  have hb0 : Below w.heap.size w W0 := by rw [hW0]; exact ((((Below.refl _ w).alloc (Nat.le_refl _) _).alloc (by simp) _).alloc (by simp; omega) _).alloc (by simp; omega) _
  have hz0 : W0.heap.size = w.heap.size + 4 := by rw [hW0]; simp
  have hbx : ShB x F r 0 false w W0 := by
    refine ⟨hb0, ?_, ?_, ?_⟩
    · rw [hW0]; exact (((Blk.new w _ _).alloc _).alloc _).alloc _
    · have := Blk.new (w.alloc (.cells (pwC x F r) 58)) 22 #[.int .u64 0]
      rw [World.size_alloc] at this
      rw [hW0]; exact (this.alloc _).alloc _
    · have := Blk.new ((w.alloc (.cells (pwC x F r) 58)).alloc (.cells #[.int .u64 0] 22)) 4 #[.bool false]
      rw [World.size_alloc, World.size_alloc] at this
      rw [hW0]; exact this.alloc _
  have hpe : PerEnv w.heap.size (w.heap.size + 3) x F r W0 := by
    refine ⟨?_, h.below hb0⟩
    have := Blk.new (((w.alloc (.cells (pwC x F r) 58)).alloc (.cells #[.int .u64 0] 22)).alloc (.cells #[.bool false] 4)) 58 (pwC x F r)
    rw [World.size_alloc, World.size_alloc, World.size_alloc] at this
    rw [hW0]; exact this
  have HBX := hide hbx
  have HPE := hide hpe
  have HSZ := hide hz0
  obtain ⟨Z, hZ⟩ : ∃ Z, Z = perY x.per cnt r.l := ⟨_, rfl⟩
  rw [← hZ] at HPS ⊢
  clear h hP hF hS hl hok hb0 hz0 hbx hpe hZ
  have HDU : Hid (∀ k b W, ShB x F r k b w W → W.cell? ⟨w.heap.size, 3, none⟩ = some (.int .u64 (x.dur : Int))) := hide (fun k b W hW => hW.bx.cell 3)
  obtain ⟨id, nm, per, dur⟩ := x
  obtain ⟨x, hx⟩ : ∃ x : PartR, x = ⟨id, nm, per, dur⟩ := ⟨_, rfl⟩
  rw [← hx] at HPS HBX HPE HDU
  have hxd : x.dur = dur := by rw [hx]
  rw [hxd] at HDU
  unfold pwC at HPC hW0 ⊢
  simp only at HPC hW0 ⊢
  have HW0 := hide hW0
  clear hW0 hx hxd
  refine callsIn_wide (n := 3) |>.1 (callsIn_of_wp_marks Try.func33 rfl trivial ?_ rfl)
  simp only [Try.ntmps33, List.size_toArray, List.length_cons, List.length_nil, Nat.reduceAdd, Nat.reduceSub, Array.replicate_succ, Array.replicate_zero, List.push_toArray, List.append_toArray, List.nil_append, List.cons_append]
  gi_wp2_with (refine ⟨trivial, ?_⟩; gi_at_call 51; refine (callsIn_wide.2 (HPC.out _)).mono ?_; rintro e w1 ⟨rfl, rfl⟩)
  simp only [Nat.add_assoc, Nat.reduceAdd]
  rw [← HW0.out]
  refine wp_range_actK (gf := 65) (lb := #[.pointer (some ⟨w.heap.size + 3, 0, none⟩)]) rfl (enters_of Try.func65 (by kernel_rfl) rfl) (HPS.out W0 HPE.out (by rw [HSZ.out]; omega)) (Below.refl _ _) (fun _ => rfl)
    (by rintro i rfl; rw [HSZ.out]; omega) (by rw [HSZ.out]; omega)
    (fun i => i = w.heap.size + 1 ∨ i = w.heap.size + 2) (by rintro i (rfl | rfl) <;> (rw [HSZ.out]; exact ⟨by omega, by omega, by omega⟩))
    (fun pre W => (∀ y ∈ pre, ¬ y.2 < dur) ∧ ShB x F r 0 false w W) (fun c pre W => c = .ret ∧ ∃ pre0 y, pre = pre0 ++ [y] ∧ (∀ z ∈ pre0, ¬ z.2 < dur) ∧ y.2 < dur ∧ ShB x F r y.1 true w W)
    (fun s A B hs hb => ⟨hs.1, hs.2.but hb (by rintro i (rfl | hi); omega; (rw [HSZ.out] at hi; omega))⟩) (fun c s A B hs hb => by
      obtain ⟨h1, p0, y, h2, h3, h4, h5⟩ := hs
      exact ⟨h1, p0, y, h2, h3, h4, h5.but hb (by rintro i (rfl | hi); omega; (rw [HSZ.out] at hi; omega))⟩) ⟨fun y hy => (by cases hy), HBX.out⟩
    ?f ?assign ?body ?done ?stop
  case assign =>
    intro l y W K hK
    simp only [encsW, zip2, List.setIfInBounds_toArray, List.set_cons_succ, List.set_cons_zero]
    gi_wp2
    exact hK
  case body =>
    rintro l pre y W hi hsz hlen
    obtain ⟨k, v⟩ := y
    have b5 := HDU.out _ _ W hi.2
    have f1 : W.frozen? ⟨w.heap.size + 1, 0, none⟩ = false := hi.2.bk.frozen 0
    have f2 : W.frozen? ⟨w.heap.size + 2, 0, none⟩ = false := hi.2.bb.frozen 0
    have y1 : W.cell? ⟨w.heap.size + 1, 0, none⟩ = some (.int .u64 0) := hi.2.bk.cell 0
    have y2 : W.cell? ⟨w.heap.size + 2, 0, none⟩ = some (.bool false) := hi.2.bb.cell 0
    have z2 : w.heap.size + 2 < W.heap.size := hi.2.bb.lt
    have HI := hide hi
    clear hi hlen hsz
    by_cases hv : v < dur
    · have e0 : decide ((v : Int) < (dur : Int)) = true := by simpa using hv
      have e1 : decide (v < dur) = true := by simpa using hv
      have HV := hide hv
      clear hv
      gi_wp2
      exact ⟨((But.refl (fun i => i = w.heap.size + 1 ∨ i = w.heap.size + 2) W).setCell (p := ⟨w.heap.size + 1, 0, none⟩) (.inl (.inl rfl)) _).setCell (p := ⟨w.heap.size + 2, 0, none⟩) (.inl (.inr rfl)) _, rfl, pre, (k, v), rfl, HI.out.1, HV.out, HI.out.2.set_ k true⟩
    · have e0 : decide ((v : Int) < (dur : Int)) = false := by simpa using hv
      have e1 : decide (v < dur) = false := by simpa using hv
      have HV := hide hv
      clear hv
      gi_wp2
      exact ⟨But.refl _ W, fun z hz => by
        rcases List.mem_append.1 hz with hz | hz
        · exact HI.out.1 z hz
        · rw [List.mem_singleton] at hz; subst hz; exact HV.out, HI.out.2⟩
  case done =>
    rintro D xs W hD hD2 rfl hi hK
    rw [HSZ.out] at hD hD2
    have f1 : W.frozen? ⟨w.heap.size + 1, 0, none⟩ = false := hi.2.bk.frozen 0
    have f2 : W.frozen? ⟨w.heap.size + 2, 0, none⟩ = false := hi.2.bb.frozen 0
    have y1 : W.cell? ⟨w.heap.size + 1, 0, none⟩ = some (.int .u64 0) := hi.2.bk.cell 0
    have y2 : W.cell? ⟨w.heap.size + 2, 0, none⟩ = some (.bool false) := hi.2.bb.cell 0
    have z2 : w.heap.size + 2 < W.heap.size := hi.2.bb.lt
    have HM := hide (shortY_miss hi.1)
    have HI := hide (hi.2.set_ 0 false)
    have HK := hide hK
    have HK2 : Hid (((W.setCell ⟨w.heap.size + 1, 0, none⟩ (.int .u64 ((0 : Nat) : Int))).setCell ⟨w.heap.size + 2, 0, none⟩ (.bool false)).heap[D]? = some (.deferred (some []))) := hide (by
      rw [Below.heap_setCell _ _ _ _ (by show D ≠ w.heap.size + 2; omega), Below.heap_setCell _ _ _ _ (by show D ≠ w.heap.size + 1; omega)]; exact hK)
    clear hi hK
    gi_wp2
    have hN := HI.out.but ((But.refl (fun k => k = D) _).putObj (.deferred none) (.inl rfl)) (fun i hi => by omega)
    refine ⟨by simp, .inl ⟨_, _, rfl, run_takeDeferred HK2.out, ?_⟩⟩
    refine ⟨_, res_cells2 rfl _ _ (w.heap.size + 1) (w.heap.size + 2) (.int .u64 ((0 : Nat) : Int)) (.bool false) rfl (load_u64D (hN.bk.cell 0)) rfl (load_boolD (hN.bb.cell 0)), ?_, hN.below⟩
    rw [HM.out]; rfl
  case stop =>
    rintro D c pre W hD hD2 hpre ⟨rfl, pre0, y, rfl, h1, h2, h3⟩ hK
    have hx := shortY_hit (k := y.1) (v := y.2) hpre h1 h2
    rw [HSZ.out] at hD hD2
    have HK := hide hK
    have HI := hide h3
    have HX := hide hx
    clear hK h1 h2 h3 hpre hx
    gi_wp2
    have hN := HI.out.but ((But.refl (fun k => k = D) _).putObj (.deferred none) (.inl rfl)) (fun i hi => by omega)
    refine ⟨by simp, .inl ⟨_, _, rfl, run_takeDeferred HK.out, ?_⟩⟩
    refine ⟨_, res_cells2 rfl _ _ (w.heap.size + 1) (w.heap.size + 2) (.int .u64 (y.1 : Int)) (.bool true) rfl (load_u64D (hN.bk.cell 0)) rfl (load_boolD (hN.bb.cell 0)), ?_, hN.below⟩
    rw [HX.out]; rfl
end Go.Proofs.Ytkhcdnehfiopgaa
