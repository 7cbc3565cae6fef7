/- The walk of the law SweepMeets (chapter 14). -/
import Derived.Test.YtakehbljldjndaaSwAlive
namespace Go.Proofs.Ytakehbljldjndaa
open Go.RowKit Go.Sort
set_option linter.unusedVariables false

theorem vld_ok {s : Nat × Nat} (h1 : s.1 < 18446744073709551616) (h2 : s.2 < 18446744073709551616) : vldB s = true ↔ okSpan s := by
  unfold vldB okSpan lastW lastI
  simp only [Bool.and_eq_true, decide_eq_true_eq]
  constructor
  · rintro ⟨h3, h4⟩
    exact ⟨h3, by omega⟩
  · rintro ⟨h3, h4⟩
    exact ⟨h3, by omega⟩
theorem lastW_ok {s : Nat × Nat} (h : okSpan s) : lastW s = s.1 + s.2 - 1 ∧ s.1 ≤ lastW s := last_ok (x := ⟨s.1, s.2, 0⟩) h
theorem meet_ok {a b : Nat × Nat} (ha : okSpan a) (hb : okSpan b) : meetP a b = meetS a b ∧ meetB a b = meetS a b ∧ meetS b a = meetS a b := by
  obtain ⟨h1, h2⟩ := lastW_ok ha
  obtain ⟨h3, h4⟩ := lastW_ok hb
  unfold okSpan at ha hb
  refine ⟨?_, ?_, ?_⟩
  · unfold meetP meetS hasS lastS
    rw [h1, h3, Bool.eq_iff_iff]
    simp only [Bool.or_eq_true, Bool.and_eq_true, decide_eq_true_eq]
    omega
  · unfold meetB meetS hasB hasS lastS
    rw [h1, h3]
  · unfold meetS; rw [Bool.or_comm]
theorem meet_self {a : Nat × Nat} (ha : okSpan a) : meetP a a = true := by
  obtain ⟨h1, h2⟩ := lastW_ok ha
  unfold meetP
  simp; omega
/-- A span in a block. -/
def Spn (W : World) (g : Nat) (s : Nat × Nat) : Prop := W.cell? ⟨g, 0, none⟩ = some (.int .u64 (s.1 : Int)) ∧ W.cell? ⟨g, 1, none⟩ = some (.int .u64 (s.2 : Int))
def Four (W : World) (g h : Nat) (a b : Nat × Nat) : Prop :=
  W.cell? ⟨g, 0, none⟩ = some (.int .u64 (a.1 : Int)) ∧ W.cell? ⟨g, 1, none⟩ = some (.int .u64 (a.2 : Int)) ∧ W.cell? ⟨h, 0, none⟩ = some (.int .u64 (b.1 : Int)) ∧ W.cell? ⟨h, 1, none⟩ = some (.int .u64 (b.2 : Int))
theorem Four.below {W W' : World} {g h : Nat} {a b : Nat × Nat} (k : Four W g h a b) (hb : Below W.heap.size W W') : Four W' g h a b := by
  obtain ⟨k1, k2, k3, k4⟩ := k
  exact ⟨(hb.cell (p := ⟨g, 0, none⟩) (cell_lt k1)).trans k1, (hb.cell (p := ⟨g, 1, none⟩) (cell_lt k2)).trans k2, (hb.cell (p := ⟨h, 0, none⟩) (cell_lt k3)).trans k3, (hb.cell (p := ⟨h, 1, none⟩) (cell_lt k4)).trans k4⟩
def Eight (w : World) (P X Y : Nat) (a b : Nat × Nat) (W : World) : Prop := Four W w.heap.size P a b ∧ Four W X Y a b ∧ Below w.heap.size w W
theorem Eight.more {w W W' : World} {P X Y : Nat} {a b : Nat × Nat} (h : Eight w P X Y a b W) (hb : Below W.heap.size W W') : Eight w P X Y a b W' :=
  ⟨h.1.below hb, h.2.1.below hb, h.2.2.trans (hb.mono h.2.2.size)⟩
theorem Eight.step {w W W' : World} {P X Y : Nat} {a b : Nat × Nat} (h : Eight w P X Y a b W) (hg : ∃ q os', W' = grow (W.drewN q) os') : Eight w P X Y a b W' := h.more (Gr.below hg)
set_option maxRecDepth 100000 in
set_option maxHeartbeats 4000000 in
theorem SweepMeets_calls (a b : Nat × Nat) (ha : a.1 < 18446744073709551616 ∧ a.2 < 18446744073709551616) (hb : b.1 < 18446744073709551616 ∧ b.2 < 18446744073709551616) (w : World) :
    Calls Try.prog 6 #[.agg #[.int .u64 (a.1 : Int), .int .u64 (a.2 : Int)], .agg #[.int .u64 (b.1 : Int), .int .u64 (b.2 : Int)]] w fun e w' => e = .returned (.bool true) ∧ Below w.heap.size w w' := by
  have HAL := hide (fun W => alive_calls W)
  have hpa := fun h => (vld_ok ha.1 ha.2).1 h
  have hpb := fun h => (vld_ok hb.1 hb.2).1 h
  have RA := fun W => RValid_gr a W
  have RB := fun W => RValid_gr b W
  have PA := fun W => PValid_gr a W
  have PB := fun W => PValid_gr b W
  have MR := fun W => RMeet_gr a b W
  have MP := fun W => PMeet_gr a b W
  have MQ := fun W => PMeet_gr b a W
  have MS := fun W => PMeet_gr a a W
  have hm : vldB a = true → vldB b = true → meetB a b = meetS a b ∧ meetP a b = meetS a b ∧ meetP b a = meetS a b ∧ meetP a a = true := by
    intro h1 h2
    have o1 := hpa h1
    have o2 := hpb h2
    exact ⟨(meet_ok o1 o2).2.1, (meet_ok o1 o2).1, by rw [(meet_ok o2 o1).1, (meet_ok o1 o2).2.2], meet_self o1⟩
  clear hpa hpb
  generalize vldB a = pa at *
  generalize vldB b = pb at *
  generalize meetB a b = m1 at *
  generalize meetP a b = m2 at *
  generalize meetP b a = m3 at *
  generalize meetP a a = m4 at *
  generalize meetS a b = m0 at *
  obtain ⟨lo, len⟩ := a
  obtain ⟨lp, lem⟩ := b
  simp only at RA RB PA PB MR MP MQ MS ⊢
  have HRA := hide RA
  have HRB := hide RB
  have HPA := hide PA
  have HPB := hide PB
  have HMR := hide MR
  have HMP := hide MP
  have HMQ := hide MQ
  have HMS := hide MS
  have HM := hide hm
  have mixed := mixed_prog
  clear RA RB PA PB MR MP MQ MS hm ha hb
  go_enter Try.func6, Try.ntmps6
  go_wp2_with fail
  have hb1 := (Blk.new w 39 #[.int .u64 (lo : Int), .int .u64 (len : Int)]).alloc (.cells #[.int .u64 (lp : Int), .int .u64 (lem : Int)] 39)
  have hb2 := Blk.new (w.alloc (.cells #[.int .u64 (lo : Int), .int .u64 (len : Int)] 39)) 39 #[.int .u64 (lp : Int), .int .u64 (lem : Int)]
  rw [World.size_alloc] at hb2
  have hbw := ((Below.refl _ w).alloc (Nat.le_refl _) (.cells #[.int .u64 (lo : Int), .int .u64 (len : Int)] 39)).alloc (by simp) (.cells #[.int .u64 (lp : Int), .int .u64 (lem : Int)] 39)
  generalize hW : (w.alloc (.cells #[.int .u64 (lo : Int), .int .u64 (len : Int)] 39)).alloc (.cells #[.int .u64 (lp : Int), .int .u64 (lem : Int)] 39) = W at *
  have s0 : W.cell? ⟨w.heap.size, 0, none⟩ = some (.int .u64 (lo : Int)) := hb1.cell 0
  have s1 : W.cell? ⟨w.heap.size, 1, none⟩ = some (.int .u64 (len : Int)) := hb1.cell 1
  have s2 : W.cell? ⟨w.heap.size + 1, 0, none⟩ = some (.int .u64 (lp : Int)) := hb2.cell 0
  have s3 : W.cell? ⟨w.heap.size + 1, 1, none⟩ = some (.int .u64 (lem : Int)) := hb2.cell 1
  have HB1 := hide hb1
  have HB2 := hide hb2
  have HBW := hide hbw
  have hsz : w.heap.size + 2 = W.heap.size := by rw [← hW]; simp
  have HSZ := hide hsz
  have hz1 : w.heap.size + 1 < W.heap.size := by omega
  have hz0 : w.heap.size < W.heap.size := by omega
  clear hb1 hb2 hbw hW hsz
  go_region
  · have HBW1 : Below w.heap.size w ((W.alloc (.cells #[.int .u64 (lo : Int), .int .u64 (len : Int)] 38)).alloc (.cells #[.int .u64 (lp : Int), .int .u64 (lem : Int)] 38)).drew := ((HBW.out.alloc (by omega) _).alloc (by simp; omega) _).drew
    have b5 := (Blk.new W 38 #[.int .u64 (lo : Int), .int .u64 (len : Int)]).alloc (.cells #[.int .u64 (lp : Int), .int .u64 (lem : Int)] 38)
    have b6 := Blk.new (W.alloc (.cells #[.int .u64 (lo : Int), .int .u64 (len : Int)] 38)) 38 #[.int .u64 (lp : Int), .int .u64 (lem : Int)]
    rw [World.size_alloc] at b6
    replace b5 := b5.drew
    replace b6 := b6.drew
    have f0 := (((HB1.out.alloc (.cells #[.int .u64 (lo : Int), .int .u64 (len : Int)] 38)).alloc (.cells #[.int .u64 (lp : Int), .int .u64 (lem : Int)] 38)).drew).cell 0
    have f1 := (((HB1.out.alloc (.cells #[.int .u64 (lo : Int), .int .u64 (len : Int)] 38)).alloc (.cells #[.int .u64 (lp : Int), .int .u64 (lem : Int)] 38)).drew).cell 1
    have f2 := (((HB2.out.alloc (.cells #[.int .u64 (lo : Int), .int .u64 (len : Int)] 38)).alloc (.cells #[.int .u64 (lp : Int), .int .u64 (lem : Int)] 38)).drew).cell 0
    have f3 := (((HB2.out.alloc (.cells #[.int .u64 (lo : Int), .int .u64 (len : Int)] 38)).alloc (.cells #[.int .u64 (lp : Int), .int .u64 (lem : Int)] 38)).drew).cell 1
    simp only [List.getElem?_toArray, List.getElem?_cons_zero, List.getElem?_cons_succ] at f0 f1 f2 f3
    generalize ((W.alloc (.cells #[.int .u64 (lo : Int), .int .u64 (len : Int)] 38)).alloc (.cells #[.int .u64 (lp : Int), .int .u64 (lem : Int)] 38)).drew = W1 at *
    clear s0 s1 s2 s3
    generalize W.heap.size + 1 = Y at *
    generalize W.heap.size = X at *
    generalize w.heap.size + 1 = P at *
    have HE1 : Hid (Eight w P X Y (lo, len) (lp, lem) W1) := hide ⟨⟨f0, f1, f2, f3⟩, ⟨b5.cell 0, b5.cell 1, b6.cell 0, b6.cell 1⟩, HBW1⟩
    have g0 := fun n os => cell_grown (cell_lt (g := w.heap.size) f0) f0 n os
    have g1 := fun n os => cell_grown (cell_lt (g := w.heap.size) f1) f1 n os
    have g2 := fun n os => cell_grown (cell_lt (g := P) f2) f2 n os
    have g3 := fun n os => cell_grown (cell_lt (g := P) f3) f3 n os
    clear f0 f1 f2 f3 b5 b6 HBW1
    go_wp2_with fail
    go_quiet_grown (first | (go_at_call 20; (with_reducible exact Calls.grown_of (HRA.out _))) | (go_at_call 20; (with_reducible exact Calls.grown_of (HRB.out _))))
    have HE2 := hide (HE1.out.step ⟨nq, osq, rfl⟩)
    clear g0 g1 g2 g3
    generalize grow (W1.drewN nq) osq = W2 at *
    obtain ⟨⟨f0, f1, f2, f3⟩, ⟨t0, t1, t2, t3⟩, -⟩ := HE2.out
    cases pa
    · cases pb
      · go_wp2_with (first
          | (go_at_call 21; ((with_reducible refine (HPA.out _).mono ?_); rintro e v3 ⟨rfl, hg⟩; have HE3 := hide (HE2.out.step hg); obtain ⟨⟨f0, f1, f2, f3⟩, ⟨t0, t1, t2, t3⟩, -⟩ := HE3.out; clear hg))
          | (go_at_call 21; ((with_reducible refine (HPB.out _).mono ?_); rintro e v4 ⟨rfl, hg⟩; have HE4 := hide (HE3.out.step hg); obtain ⟨⟨f0, f1, f2, f3⟩, ⟨t0, t1, t2, t3⟩, -⟩ := HE4.out; clear hg))
          | (go_at_call 10; ((with_reducible refine (HAL.out _).mono ?_); rintro e v5 ⟨rfl, hg⟩; have HE5 := hide (HE4.out.more hg); obtain ⟨⟨f0, f1, f2, f3⟩, ⟨t0, t1, t2, t3⟩, -⟩ := HE5.out; clear hg)))
        go_ret
        exact ⟨by rfl, HE5.out.2.2⟩
      · go_wp2_with (first
          | (go_at_call 21; ((with_reducible refine (HPA.out _).mono ?_); rintro e v3 ⟨rfl, hg⟩; have HE3 := hide (HE2.out.step hg); obtain ⟨⟨f0, f1, f2, f3⟩, ⟨t0, t1, t2, t3⟩, -⟩ := HE3.out; clear hg))
          | (go_at_call 21; ((with_reducible refine (HPB.out _).mono ?_); rintro e v4 ⟨rfl, hg⟩; have HE4 := hide (HE3.out.step hg); obtain ⟨⟨f0, f1, f2, f3⟩, ⟨t0, t1, t2, t3⟩, -⟩ := HE4.out; clear hg))
          | (go_at_call 10; ((with_reducible refine (HAL.out _).mono ?_); rintro e v5 ⟨rfl, hg⟩; have HE5 := hide (HE4.out.more hg); obtain ⟨⟨f0, f1, f2, f3⟩, ⟨t0, t1, t2, t3⟩, -⟩ := HE5.out; clear hg)))
        go_ret
        exact ⟨by rfl, HE5.out.2.2⟩
    · cases pb
      · go_wp2_with (first
          | (go_at_call 21; ((with_reducible refine (HPA.out _).mono ?_); rintro e v3 ⟨rfl, hg⟩; have HE3 := hide (HE2.out.step hg); obtain ⟨⟨f0, f1, f2, f3⟩, ⟨t0, t1, t2, t3⟩, -⟩ := HE3.out; clear hg))
          | (go_at_call 21; ((with_reducible refine (HPB.out _).mono ?_); rintro e v4 ⟨rfl, hg⟩; have HE4 := hide (HE3.out.step hg); obtain ⟨⟨f0, f1, f2, f3⟩, ⟨t0, t1, t2, t3⟩, -⟩ := HE4.out; clear hg))
          | (go_at_call 10; ((with_reducible refine (HAL.out _).mono ?_); rintro e v5 ⟨rfl, hg⟩; have HE5 := hide (HE4.out.more hg); obtain ⟨⟨f0, f1, f2, f3⟩, ⟨t0, t1, t2, t3⟩, -⟩ := HE5.out; clear hg)))
        go_ret
        exact ⟨by rfl, HE5.out.2.2⟩
      · obtain ⟨e1, e2, e3, e4⟩ := HM.out rfl rfl
        obtain rfl := e1.symm
        obtain rfl := e2.symm
        obtain rfl := e3.symm
        subst e4
        cases m0
        · go_wp2_with (first
            | (go_at_call 21; ((with_reducible refine (HPA.out _).mono ?_); rintro e v3 ⟨rfl, hg⟩; have HE3 := hide (HE2.out.step hg); obtain ⟨⟨f0, f1, f2, f3⟩, ⟨t0, t1, t2, t3⟩, -⟩ := HE3.out; clear hg))
            | (go_at_call 21; ((with_reducible refine (HPB.out _).mono ?_); rintro e v4 ⟨rfl, hg⟩; have HE4 := hide (HE3.out.step hg); obtain ⟨⟨f0, f1, f2, f3⟩, ⟨t0, t1, t2, t3⟩, -⟩ := HE4.out; clear hg))
            | (go_at_call 22; ((with_reducible refine (HMR.out _).mono ?_); rintro e v5 ⟨rfl, hg⟩; have HE5 := hide (HE4.out.step hg); obtain ⟨⟨f0, f1, f2, f3⟩, ⟨t0, t1, t2, t3⟩, -⟩ := HE5.out; clear hg))
            | (go_at_call 10; ((with_reducible refine (HAL.out _).mono ?_); rintro e v6 ⟨rfl, hg⟩; have HE6 := hide (HE5.out.more hg); obtain ⟨⟨f0, f1, f2, f3⟩, ⟨t0, t1, t2, t3⟩, -⟩ := HE6.out; clear hg))
            | (go_at_call 19; ((with_reducible refine (HMP.out _).mono ?_); rintro e v7 ⟨rfl, hg⟩; have HE7 := hide (HE6.out.step hg); obtain ⟨⟨f0, f1, f2, f3⟩, ⟨t0, t1, t2, t3⟩, -⟩ := HE7.out; clear hg))
            | (go_at_call 19; ((with_reducible refine (HMQ.out _).mono ?_); rintro e v8 ⟨rfl, hg⟩; have HE8 := hide (HE7.out.step hg); obtain ⟨⟨f0, f1, f2, f3⟩, ⟨t0, t1, t2, t3⟩, -⟩ := HE8.out; clear hg))
            | (go_at_call 19; ((with_reducible refine (HMS.out _).mono ?_); rintro e v9 ⟨rfl, hg⟩; have HE9 := hide (HE8.out.step hg); obtain ⟨⟨f0, f1, f2, f3⟩, ⟨t0, t1, t2, t3⟩, -⟩ := HE9.out; clear hg)))
          go_ret
          exact ⟨by rfl, HE9.out.2.2⟩
        · go_wp2_with (first
            | (go_at_call 21; ((with_reducible refine (HPA.out _).mono ?_); rintro e v3 ⟨rfl, hg⟩; have HE3 := hide (HE2.out.step hg); obtain ⟨⟨f0, f1, f2, f3⟩, ⟨t0, t1, t2, t3⟩, -⟩ := HE3.out; clear hg))
            | (go_at_call 21; ((with_reducible refine (HPB.out _).mono ?_); rintro e v4 ⟨rfl, hg⟩; have HE4 := hide (HE3.out.step hg); obtain ⟨⟨f0, f1, f2, f3⟩, ⟨t0, t1, t2, t3⟩, -⟩ := HE4.out; clear hg))
            | (go_at_call 22; ((with_reducible refine (HMR.out _).mono ?_); rintro e v5 ⟨rfl, hg⟩; have HE5 := hide (HE4.out.step hg); obtain ⟨⟨f0, f1, f2, f3⟩, ⟨t0, t1, t2, t3⟩, -⟩ := HE5.out; clear hg))
            | (go_at_call 10; ((with_reducible refine (HAL.out _).mono ?_); rintro e v6 ⟨rfl, hg⟩; have HE6 := hide (HE5.out.more hg); obtain ⟨⟨f0, f1, f2, f3⟩, ⟨t0, t1, t2, t3⟩, -⟩ := HE6.out; clear hg))
            | (go_at_call 19; ((with_reducible refine (HMP.out _).mono ?_); rintro e v7 ⟨rfl, hg⟩; have HE7 := hide (HE6.out.step hg); obtain ⟨⟨f0, f1, f2, f3⟩, ⟨t0, t1, t2, t3⟩, -⟩ := HE7.out; clear hg))
            | (go_at_call 19; ((with_reducible refine (HMQ.out _).mono ?_); rintro e v8 ⟨rfl, hg⟩; have HE8 := hide (HE7.out.step hg); obtain ⟨⟨f0, f1, f2, f3⟩, ⟨t0, t1, t2, t3⟩, -⟩ := HE8.out; clear hg))
            | (go_at_call 19; ((with_reducible refine (HMS.out _).mono ?_); rintro e v9 ⟨rfl, hg⟩; have HE9 := hide (HE8.out.step hg); obtain ⟨⟨f0, f1, f2, f3⟩, ⟨t0, t1, t2, t3⟩, -⟩ := HE9.out; clear hg)))
          go_ret
          exact ⟨by rfl, HE9.out.2.2⟩
  · have HBW1 : Below w.heap.size w ((W.alloc (.cells #[.int .u64 (lp : Int), .int .u64 (lem : Int)] 38)).alloc (.cells #[.int .u64 (lo : Int), .int .u64 (len : Int)] 38)).drew := ((HBW.out.alloc (by omega) _).alloc (by simp; omega) _).drew
    have b6 := (Blk.new W 38 #[.int .u64 (lp : Int), .int .u64 (lem : Int)]).alloc (.cells #[.int .u64 (lo : Int), .int .u64 (len : Int)] 38)
    have b5 := Blk.new (W.alloc (.cells #[.int .u64 (lp : Int), .int .u64 (lem : Int)] 38)) 38 #[.int .u64 (lo : Int), .int .u64 (len : Int)]
    rw [World.size_alloc] at b5
    replace b5 := b5.drew
    replace b6 := b6.drew
    have f0 := (((HB1.out.alloc (.cells #[.int .u64 (lp : Int), .int .u64 (lem : Int)] 38)).alloc (.cells #[.int .u64 (lo : Int), .int .u64 (len : Int)] 38)).drew).cell 0
    have f1 := (((HB1.out.alloc (.cells #[.int .u64 (lp : Int), .int .u64 (lem : Int)] 38)).alloc (.cells #[.int .u64 (lo : Int), .int .u64 (len : Int)] 38)).drew).cell 1
    have f2 := (((HB2.out.alloc (.cells #[.int .u64 (lp : Int), .int .u64 (lem : Int)] 38)).alloc (.cells #[.int .u64 (lo : Int), .int .u64 (len : Int)] 38)).drew).cell 0
    have f3 := (((HB2.out.alloc (.cells #[.int .u64 (lp : Int), .int .u64 (lem : Int)] 38)).alloc (.cells #[.int .u64 (lo : Int), .int .u64 (len : Int)] 38)).drew).cell 1
    simp only [List.getElem?_toArray, List.getElem?_cons_zero, List.getElem?_cons_succ] at f0 f1 f2 f3
    generalize ((W.alloc (.cells #[.int .u64 (lp : Int), .int .u64 (lem : Int)] 38)).alloc (.cells #[.int .u64 (lo : Int), .int .u64 (len : Int)] 38)).drew = W1 at *
    clear s0 s1 s2 s3
    generalize W.heap.size + 1 = X at *
    generalize W.heap.size = Y at *
    generalize w.heap.size + 1 = P at *
    have HE1 : Hid (Eight w P X Y (lo, len) (lp, lem) W1) := hide ⟨⟨f0, f1, f2, f3⟩, ⟨b5.cell 0, b5.cell 1, b6.cell 0, b6.cell 1⟩, HBW1⟩
    have g0 := fun n os => cell_grown (cell_lt (g := w.heap.size) f0) f0 n os
    have g1 := fun n os => cell_grown (cell_lt (g := w.heap.size) f1) f1 n os
    have g2 := fun n os => cell_grown (cell_lt (g := P) f2) f2 n os
    have g3 := fun n os => cell_grown (cell_lt (g := P) f3) f3 n os
    clear f0 f1 f2 f3 b5 b6 HBW1
    go_wp2_with fail
    go_quiet_grown (first | (go_at_call 20; (with_reducible exact Calls.grown_of (HRA.out _))) | (go_at_call 20; (with_reducible exact Calls.grown_of (HRB.out _))))
    have HE2 := hide (HE1.out.step ⟨nq, osq, rfl⟩)
    clear g0 g1 g2 g3
    generalize grow (W1.drewN nq) osq = W2 at *
    obtain ⟨⟨f0, f1, f2, f3⟩, ⟨t0, t1, t2, t3⟩, -⟩ := HE2.out
    cases pa
    · cases pb
      · go_wp2_with (first
          | (go_at_call 21; ((with_reducible refine (HPA.out _).mono ?_); rintro e v3 ⟨rfl, hg⟩; have HE3 := hide (HE2.out.step hg); obtain ⟨⟨f0, f1, f2, f3⟩, ⟨t0, t1, t2, t3⟩, -⟩ := HE3.out; clear hg))
          | (go_at_call 21; ((with_reducible refine (HPB.out _).mono ?_); rintro e v4 ⟨rfl, hg⟩; have HE4 := hide (HE3.out.step hg); obtain ⟨⟨f0, f1, f2, f3⟩, ⟨t0, t1, t2, t3⟩, -⟩ := HE4.out; clear hg))
          | (go_at_call 10; ((with_reducible refine (HAL.out _).mono ?_); rintro e v5 ⟨rfl, hg⟩; have HE5 := hide (HE4.out.more hg); obtain ⟨⟨f0, f1, f2, f3⟩, ⟨t0, t1, t2, t3⟩, -⟩ := HE5.out; clear hg)))
        go_ret
        exact ⟨by rfl, HE5.out.2.2⟩
      · go_wp2_with (first
          | (go_at_call 21; ((with_reducible refine (HPA.out _).mono ?_); rintro e v3 ⟨rfl, hg⟩; have HE3 := hide (HE2.out.step hg); obtain ⟨⟨f0, f1, f2, f3⟩, ⟨t0, t1, t2, t3⟩, -⟩ := HE3.out; clear hg))
          | (go_at_call 21; ((with_reducible refine (HPB.out _).mono ?_); rintro e v4 ⟨rfl, hg⟩; have HE4 := hide (HE3.out.step hg); obtain ⟨⟨f0, f1, f2, f3⟩, ⟨t0, t1, t2, t3⟩, -⟩ := HE4.out; clear hg))
          | (go_at_call 10; ((with_reducible refine (HAL.out _).mono ?_); rintro e v5 ⟨rfl, hg⟩; have HE5 := hide (HE4.out.more hg); obtain ⟨⟨f0, f1, f2, f3⟩, ⟨t0, t1, t2, t3⟩, -⟩ := HE5.out; clear hg)))
        go_ret
        exact ⟨by rfl, HE5.out.2.2⟩
    · cases pb
      · go_wp2_with (first
          | (go_at_call 21; ((with_reducible refine (HPA.out _).mono ?_); rintro e v3 ⟨rfl, hg⟩; have HE3 := hide (HE2.out.step hg); obtain ⟨⟨f0, f1, f2, f3⟩, ⟨t0, t1, t2, t3⟩, -⟩ := HE3.out; clear hg))
          | (go_at_call 21; ((with_reducible refine (HPB.out _).mono ?_); rintro e v4 ⟨rfl, hg⟩; have HE4 := hide (HE3.out.step hg); obtain ⟨⟨f0, f1, f2, f3⟩, ⟨t0, t1, t2, t3⟩, -⟩ := HE4.out; clear hg))
          | (go_at_call 10; ((with_reducible refine (HAL.out _).mono ?_); rintro e v5 ⟨rfl, hg⟩; have HE5 := hide (HE4.out.more hg); obtain ⟨⟨f0, f1, f2, f3⟩, ⟨t0, t1, t2, t3⟩, -⟩ := HE5.out; clear hg)))
        go_ret
        exact ⟨by rfl, HE5.out.2.2⟩
      · obtain ⟨e1, e2, e3, e4⟩ := HM.out rfl rfl
        obtain rfl := e1.symm
        obtain rfl := e2.symm
        obtain rfl := e3.symm
        subst e4
        cases m0
        · go_wp2_with (first
            | (go_at_call 21; ((with_reducible refine (HPA.out _).mono ?_); rintro e v3 ⟨rfl, hg⟩; have HE3 := hide (HE2.out.step hg); obtain ⟨⟨f0, f1, f2, f3⟩, ⟨t0, t1, t2, t3⟩, -⟩ := HE3.out; clear hg))
            | (go_at_call 21; ((with_reducible refine (HPB.out _).mono ?_); rintro e v4 ⟨rfl, hg⟩; have HE4 := hide (HE3.out.step hg); obtain ⟨⟨f0, f1, f2, f3⟩, ⟨t0, t1, t2, t3⟩, -⟩ := HE4.out; clear hg))
            | (go_at_call 22; ((with_reducible refine (HMR.out _).mono ?_); rintro e v5 ⟨rfl, hg⟩; have HE5 := hide (HE4.out.step hg); obtain ⟨⟨f0, f1, f2, f3⟩, ⟨t0, t1, t2, t3⟩, -⟩ := HE5.out; clear hg))
            | (go_at_call 10; ((with_reducible refine (HAL.out _).mono ?_); rintro e v6 ⟨rfl, hg⟩; have HE6 := hide (HE5.out.more hg); obtain ⟨⟨f0, f1, f2, f3⟩, ⟨t0, t1, t2, t3⟩, -⟩ := HE6.out; clear hg))
            | (go_at_call 19; ((with_reducible refine (HMP.out _).mono ?_); rintro e v7 ⟨rfl, hg⟩; have HE7 := hide (HE6.out.step hg); obtain ⟨⟨f0, f1, f2, f3⟩, ⟨t0, t1, t2, t3⟩, -⟩ := HE7.out; clear hg))
            | (go_at_call 19; ((with_reducible refine (HMQ.out _).mono ?_); rintro e v8 ⟨rfl, hg⟩; have HE8 := hide (HE7.out.step hg); obtain ⟨⟨f0, f1, f2, f3⟩, ⟨t0, t1, t2, t3⟩, -⟩ := HE8.out; clear hg))
            | (go_at_call 19; ((with_reducible refine (HMS.out _).mono ?_); rintro e v9 ⟨rfl, hg⟩; have HE9 := hide (HE8.out.step hg); obtain ⟨⟨f0, f1, f2, f3⟩, ⟨t0, t1, t2, t3⟩, -⟩ := HE9.out; clear hg)))
          go_ret
          exact ⟨by rfl, HE9.out.2.2⟩
        · go_wp2_with (first
            | (go_at_call 21; ((with_reducible refine (HPA.out _).mono ?_); rintro e v3 ⟨rfl, hg⟩; have HE3 := hide (HE2.out.step hg); obtain ⟨⟨f0, f1, f2, f3⟩, ⟨t0, t1, t2, t3⟩, -⟩ := HE3.out; clear hg))
            | (go_at_call 21; ((with_reducible refine (HPB.out _).mono ?_); rintro e v4 ⟨rfl, hg⟩; have HE4 := hide (HE3.out.step hg); obtain ⟨⟨f0, f1, f2, f3⟩, ⟨t0, t1, t2, t3⟩, -⟩ := HE4.out; clear hg))
            | (go_at_call 22; ((with_reducible refine (HMR.out _).mono ?_); rintro e v5 ⟨rfl, hg⟩; have HE5 := hide (HE4.out.step hg); obtain ⟨⟨f0, f1, f2, f3⟩, ⟨t0, t1, t2, t3⟩, -⟩ := HE5.out; clear hg))
            | (go_at_call 10; ((with_reducible refine (HAL.out _).mono ?_); rintro e v6 ⟨rfl, hg⟩; have HE6 := hide (HE5.out.more hg); obtain ⟨⟨f0, f1, f2, f3⟩, ⟨t0, t1, t2, t3⟩, -⟩ := HE6.out; clear hg))
            | (go_at_call 19; ((with_reducible refine (HMP.out _).mono ?_); rintro e v7 ⟨rfl, hg⟩; have HE7 := hide (HE6.out.step hg); obtain ⟨⟨f0, f1, f2, f3⟩, ⟨t0, t1, t2, t3⟩, -⟩ := HE7.out; clear hg))
            | (go_at_call 19; ((with_reducible refine (HMQ.out _).mono ?_); rintro e v8 ⟨rfl, hg⟩; have HE8 := hide (HE7.out.step hg); obtain ⟨⟨f0, f1, f2, f3⟩, ⟨t0, t1, t2, t3⟩, -⟩ := HE8.out; clear hg))
            | (go_at_call 19; ((with_reducible refine (HMS.out _).mono ?_); rintro e v9 ⟨rfl, hg⟩; have HE9 := hide (HE8.out.step hg); obtain ⟨⟨f0, f1, f2, f3⟩, ⟨t0, t1, t2, t3⟩, -⟩ := HE9.out; clear hg)))
          go_ret
          exact ⟨by rfl, HE9.out.2.2⟩
end Go.Proofs.Ytakehbljldjndaa
