/- sched: the iterator of ranges (chapter 21). -/
import Derived.Test.YtmphookgaopdlaaGreatSdMeth
import Derived.Test.YtmphookgaopdlaaGreatSdLaw
namespace Go.Proofs.YtmphookgaopdlaaGreat
open Go.RowKit Go.Sort Go.Shelf
attribute [local go_sem] Oper.semAt_some
set_option linter.unusedVariables false

/-- What the iterator needs: the schedule, the variables that it has captured. -/
structure RgEnv (n0 Bs Bt F : Nat) (l : List WinR) (a : Option Addr) (cap g t : Nat) (w : World) : Prop where
  box : Blk w g 77 #[.int .u64 (F : Int), .slice a l.length cap]
  old : g < n0
  row : RowAt winL 3 n0 ⟨l, a, cap⟩ w
  bs : Blk w Bs 32 #[.pointer (some ⟨g, 0, none⟩)]
  bt : Blk w Bt 22 #[.int .u64 (t : Int)]
def tOf (B : Nat) (w : World) : Nat := match w.cell? ⟨B, 0, none⟩ with | some (.int _ n) => n.toNat | _ => 0
section
variable {n0 Bs Bt F : Nat} {l : List WinR} {a : Option Addr} {cap g t : Nat} {w w' : World}
theorem RgEnv.but {M : Nat → Prop} (h : RgEnv n0 Bs Bt F l a cap g t w) (hb : But M w w') (hn : n0 ≤ w.heap.size) (hM : ∀ i, M i → n0 ≤ i ∧ i ≠ Bs ∧ i ≠ Bt) : RgEnv n0 Bs Bt F l a cap g t w' :=
  ⟨hb.blk h.box (fun hm => by have := (hM _ hm).1; have := h.old; omega), h.old, h.row.below (hb.below hn (fun k hk hm => by have := (hM k hm).1; omega)), hb.blk h.bs (fun hm => (hM _ hm).2.1 rfl), hb.blk h.bt (fun hm => (hM _ hm).2.2 rfl)⟩
theorem RgEnv.below (h : RgEnv n0 Bs Bt F l a cap g t w) (hb : Below w.heap.size w w') (hn : n0 ≤ w.heap.size) : RgEnv n0 Bs Bt F l a cap g t w' :=
  h.but (But.of_below (M := fun _ => False) hb) hn (fun i hi => hi.elim)
theorem RgEnv.sd (h : RgEnv n0 Bs Bt F l a cap g t w) (hn : n0 ≤ w.heap.size) : SdAt F l a cap g w := ⟨h.box, RowAt.more h.row hn⟩
theorem RgEnv.set_ (h : RgEnv n0 Bs Bt F l a cap g t w) (hn : n0 ≤ w.heap.size) (hB : n0 ≤ Bt) (hne : Bs ≠ Bt) (t2 : Nat) : RgEnv n0 Bs Bt F l a cap g t2 (w.setCell ⟨Bt, 0, none⟩ (.int .u64 (t2 : Int))) := by
  refine ⟨h.box.far (p := ⟨Bt, 0, none⟩) (by show g ≠ Bt; have := h.old; omega) _, h.old, h.row.below ((Below.refl _ w).setCell (p := ⟨Bt, 0, none⟩) hB _), h.bs.far (p := ⟨Bt, 0, none⟩) hne _, ?_⟩
  have := h.bt.set_ 0 (.int .u64 (t2 : Int))
  simpa using this
theorem RgEnv.tof (h : RgEnv n0 Bs Bt F l a cap g t w) : tOf Bt w = t := by
  unfold tOf
  have : w.cell? ⟨Bt, 0, none⟩ = some (.int .u64 (t : Int)) := h.bt.cell 0
  rw [this]; simp
end
def RgAll (F : Nat) (l : List WinR) (t : Nat) (xs : List WinR) : Prop := ∃ k, xs = rngs F l (k + 1) t ∧ liveS F l (k + 1) t ∧ tsS F l (k + 1) t = 18446744073709551616
def RgPre (F : Nat) (l : List WinR) (t : Nat) (xs : List WinR) : Prop := ∃ k, xs = rngs F l (k + 1) t ∧ liveS F l (k + 1) t
theorem partAt_eq (l : List WinR) (x : Nat) : partAt l x = (winD l x).part := by
  unfold partAt winD
  cases winS l x <;> rfl
theorem rngs_succ (F : Nat) (l : List WinR) (k t : Nat) : rngs F l (k + 1) t = rngs F l k t ++ [⟨tsS F l k t, untilS F l (tsS F l k t), (winD l (tsS F l k t % F)).part⟩] := by
  rw [← partAt_eq]; rfl
theorem live_succ {F : Nat} {l : List WinR} {k t : Nat} (h : liveS F l k t) (hk : tsS F l k t < 18446744073709551616) : liveS F l (k + 1) t := fun j hj => by
  by_cases e : j = k
  · subst e; exact hk
  · exact h j (by omega)
set_option maxRecDepth 100000 in
set_option maxHeartbeats 4000000 in
theorem rg_seq (n0 Bs Bt F : Nat) (l : List WinR) (a : Option Addr) (cap g t : Nat) (w : World) (h : RgEnv n0 Bs Bt F l a cap g t w) (hn0 : n0 ≤ w.heap.size) (hBt : n0 ≤ Bt) (hne : Bs ≠ Bt) (hS : Sch F l) (hl : l.length ≤ 1048576) (ht : t < 18446744073709551616) :
    SeqM Tryz.prog 54 #[.pointer (some ⟨Bs, 0, none⟩), .pointer (some ⟨Bt, 0, none⟩)] encsV (fun i => i = Bs ∨ i = Bt) 0 n0 (RgAll F l t) (RgPre F l t) 18446744073709551616 w := by
  intro lp R J Jx W hW hR hJ hJx hY h0
  have hE : RgEnv n0 Bs Bt F l a cap g t W := h.below hW hn0
  have hR2 : ∀ i, R i → n0 ≤ i ∧ i ≠ Bs ∧ i ≠ Bt := fun i hi => by
    obtain ⟨h1, h2, _⟩ := hR i hi
    exact ⟨h1, fun e => h2 (.inl e), fun e => h2 (.inr e)⟩
  have hnW : n0 ≤ W.heap.size := Nat.le_trans hn0 hW.size
  have HENV := hide (fun t wr wr' (hE : RgEnv n0 Bs Bt F l a cap g t wr) (hz : n0 ≤ wr.heap.size) (hb : But R wr wr') => hE.but hb hz hR2)
  have HLK := hide (fun t wr (hE : RgEnv n0 Bs Bt F l a cap g t wr) (hz : n0 ≤ wr.heap.size) (ht : t < 18446744073709551616) => Lookup_calls F l a cap g t wr (hE.sd hz) hS hl ht)
  have HUN := hide (fun t wr (hE : RgEnv n0 Bs Bt F l a cap g t wr) (hz : n0 ≤ wr.heap.size) (ht : t < 18446744073709551616) => Until_calls F l a cap g t wr (hE.sd hz) hS hl ht)
  have HUB := hide (fun t (ht : t < 18446744073709551616) => until_bd hS ht)
  have HTB := hide (fun k (hl : liveS F l k t) => ts_bd hS ht hl)
  have HSET := hide (fun t t2 wr (hE : RgEnv n0 Bs Bt F l a cap g t wr) (hz : n0 ≤ wr.heap.size) => hE.set_ hz hBt hne t2)
  have HS := hide hS
  have HY := hide hY
  have HJ := hide hJ
  have H0 := hide h0
  have HE := hide hE
  have HNW := hide hnW
  have HT := hide ht
  have b1 : W.cell? ⟨Bs, 0, none⟩ = some (.pointer (some ⟨g, 0, none⟩)) := hE.bs.cell 0
  refine callsIn_wide (n := 3) |>.1 (callsIn_of_wp Tryz.func54 rfl trivial ?_ rfl)
  clear h hn0 hW hR hJ hJx hY h0 hE hR2 hnW hBt hne hS hl ht
  simp only [Tryz.ntmps54, List.size_toArray, List.length_cons, List.length_nil, Nat.reduceAdd, Nat.reduceSub, Array.replicate_succ, Array.replicate_zero, List.push_toArray, List.append_toArray, List.nil_append, List.cons_append]
  gi_wp2
  clear b1
  gi_loopw [5] (fun v wr => ∃ k : Nat, Hid (liveS F l (k + 1) t ∧ RgEnv n0 Bs Bt F l a cap g (tsS F l k t) wr ∧ W.heap.size ≤ wr.heap.size ∧ J (rngs F l k t) wr)) (fun v wr => 18446744073709551616 - tOf Bt wr)
  case atStart => exact ⟨0, hide ⟨fun j hj => by obtain rfl : j = 0 := (by omega); exact HT.out, HE.out, Nat.le_refl _, H0.out⟩⟩
  case round =>
    obtain ⟨k, hrel⟩ := hrel
    have hT := hrel.out.1 k (by omega)
    have hnr : n0 ≤ wr.heap.size := Nat.le_trans HNW.out hrel.out.2.2.1
    have HRN := hide (rngs_succ F l k t)
    have HTS := hide (ts_succ (F := F) (l := l) k t)
    have hkt := (HTB.out (k + 1) hrel.out.1).1
    have hkt2 := (HTB.out k (fun j hj => hrel.out.1 j (by omega))).1
    obtain ⟨T, hTe⟩ : ∃ T, T = tsS F l k t := ⟨_, rfl⟩
    rw [← hTe] at hrel hT HRN HTS hkt2
    have hub := HUB.out T hT
    have hlk := HLK.out T
    have hun := HUN.out T
    obtain ⟨U, hU⟩ : ∃ U, U = untilS F l T := ⟨_, rfl⟩
    rw [← hU] at HRN HTS hub hun
    obtain ⟨PT, hPT⟩ : ∃ p, p = (winD l (T % F)).part := ⟨_, rfl⟩
    rw [← hPT] at HRN hlk
    obtain ⟨PB, hPB⟩ : ∃ p, p = winB l (T % F) := ⟨_, rfl⟩
    rw [← hPB] at hlk
    have HLK1 := hide hlk
    have HUN1 := hide hun
    have hu0 : ((U : Int) == 0) = false := by rw [beq_eq_false_iff_ne]; omega
    have hlen : (rngs F l k t).length < 18446744073709551616 := by rw [rngs_len]; omega
    have HLEN := hide hlen
    have HTF := hide (hrel.out.2.1.tof)
    have HH := hide hT
    have HE1 := hide hrel.out.2.1
    have HN1 := hide hnr
    have HUBB := hide hub
    have c1 : wr.cell? ⟨Bs, 0, none⟩ = some (.pointer (some ⟨g, 0, none⟩)) := hrel.out.2.1.bs.cell 0
    have c2 : wr.cell? ⟨Bt, 0, none⟩ = some (.int .u64 (T : Int)) := hrel.out.2.1.bt.cell 0
    clear hT hnr hkt hkt2 hub hlk hun hPT hPB hlen hU hTe
    gi_wp2_with (first
      | (refine ⟨trivial, ?_⟩; gi_at_call 13; refine (callsIn_wide.2 (HLK1.out wr HE1.out HN1.out HH.out)).mono ?_; rintro e w1 ⟨rfl, hb⟩; have HE2 := hide (HE1.out.below hb HN1.out); have HN2 := hide (Nat.le_trans HN1.out hb.size); have HB2 := hide hb; clear hb c1 c2; have c1 : w1.cell? ⟨Bs, 0, none⟩ = some (.pointer (some ⟨g, 0, none⟩)) := HE2.out.bs.cell 0; have c2 : w1.cell? ⟨Bt, 0, none⟩ = some (.int .u64 (T : Int)) := HE2.out.bt.cell 0)
      | (refine ⟨trivial, ?_⟩; gi_at_call 19; refine (callsIn_wide.2 (HUN1.out w1 HE2.out HN2.out HH.out)).mono ?_; rintro e w2 ⟨rfl, hb⟩; have HE3 := hide (HE2.out.below hb HN2.out); have HN3 := hide (Nat.le_trans HN2.out hb.size); have HB3 := hide (HB2.out.trans (hb.mono HB2.out.size)); clear hb c1 c2; have c1 : w2.cell? ⟨Bs, 0, none⟩ = some (.pointer (some ⟨g, 0, none⟩)) := HE3.out.bs.cell 0; have c2 : w2.cell? ⟨Bt, 0, none⟩ = some (.int .u64 (T : Int)) := HE3.out.bt.cell 0; obtain ⟨fn, tmps, assign, body, hy, hRd⟩ := HY.out 2 (rngs F l k t) ⟨T, U, PT⟩ w2 (HJ.out _ _ _ hrel.out.2.2.2 (But.of_below HB3.out)) (Nat.le_trans hrel.out.2.2.1 HB3.out.size) HLEN.out; have HRD := hide hRd; clear hRd; dsimp only [encsV] at hy))
    rw [← HRN.out] at HRD
    refine HRD.out.mono ?_
    rintro e W' (⟨rfl, hJ', hbut⟩ | ⟨rfl, hJx', hbut⟩)
    · have HE4 := hide (HENV.out T w2 W' HE3.out HN3.out hbut)
      have HZ4 : Hid (w2.heap.size ≤ W'.heap.size) := hide hbut.size
      have HJ4 := hide hJ'
      have c3 : W'.cell? ⟨Bt, 0, none⟩ = some (.int .u64 (T : Int)) := HE4.out.bt.cell 0
      have c4 : W'.frozen? ⟨Bt, 0, none⟩ = false := HE4.out.bt.frozen 0
      have hbz : Bt < W'.heap.size := HE4.out.bt.lt
      clear hJ' hbut hy c1 c2
      by_cases hend : T + U = 18446744073709551616
      · have hadd : IntKind.u64.wrap ((T : Int) + (U : Int)) = 0 := by
          have e : (T : Int) + (U : Int) = 18446744073709551616 := by omega
          rw [e]; rfl
        have hFl := HS.out.lt
        have hTp : 0 < T := by
          have := HUBB.out
          have := (endS_spec HS.out (Nat.mod_lt T HS.out.pos)).2.1
          omega
        have e0 : decide ((0 : Int) < (T : Int)) = true := by simpa using hTp
        have e1 : decide (0 < T) = true := by simpa using hTp
        have HQ : Hid (RgAll F l t (rngs F l (k + 1) t)) := hide ⟨k, rfl, hrel.out.1, by rw [HTS.out]; exact hend⟩
        clear hend hFl hTp
        gi_wp2
        refine bodyPost_ret (results_none rfl _ _ _) rfl ?_
        exact ⟨⟨_, rfl⟩, .inl ⟨_, HQ.out, HJ4.out⟩⟩
      · have hlt : T + U < 18446744073709551616 := by have := HUBB.out; omega
        obtain ⟨T2, hT2⟩ : ∃ T2, T2 = T + U := ⟨_, rfl⟩
        have hadd : IntKind.u64.wrap ((T : Int) + (U : Int)) = (T2 : Int) := wrapU (by omega) (by omega)
        have hu1 := HUBB.out.1
        have e0 : decide ((T2 : Int) < (T : Int)) = false := by rw [decide_eq_false_iff_not]; omega
        have e1 : decide (T2 < T) = false := by rw [decide_eq_false_iff_not]; omega
        have e2 : ((T2 : Int) == 0) = false := by rw [beq_eq_false_iff_ne]; omega
        have HL2 : Hid (liveS F l (k + 1 + 1) t ∧ T2 = tsS F l (k + 1) t) := hide (by rw [HTS.out, ← hT2]; exact ⟨live_succ hrel.out.1 (by rw [HTS.out]; exact hlt), rfl⟩)
        have HM : Hid (T < T2 ∧ T2 < 18446744073709551616) := hide (by omega)
        have HE5 := hide (HSET.out T T2 W' HE4.out (Nat.le_trans HN3.out HZ4.out))
        have HJ5 := hide (HJ.out _ _ _ HJ4.out ((But.refl (mine (fun i => i = Bs ∨ i = Bt) 0 W.heap.size) W').setCell (p := ⟨Bt, 0, none⟩) (.inl (.inl (.inr rfl))) (.int .u64 (T2 : Int))))
        have HZ5 : Hid (W.heap.size ≤ W'.heap.size) := hide (Nat.le_trans hrel.out.2.2.1 (Nat.le_trans HB3.out.size HZ4.out))
        clear hend hlt hT2 hu1
        gi_wp2
        go_roundw
        case rel =>
          have h2 : RgEnv n0 Bs Bt F l a cap g (tsS F l (k + 1) t) (W'.setCell ⟨Bt, 0, none⟩ (.int .u64 (T2 : Int))) := by rw [← HL2.out.2]; exact HE5.out
          have hz : (W'.setCell ⟨Bt, 0, none⟩ (.int .u64 (T2 : Int))).heap.size = W'.heap.size := by simp [World.setCell]
          first | exact ⟨k + 1, hide ⟨HL2.out.1, h2, by rw [hz]; exact HZ5.out, HJ5.out⟩⟩ | ((repeat apply Exists.intro); exact ⟨⟨k + 1, hide ⟨HL2.out.1, h2, by rw [hz]; exact HZ5.out, HJ5.out⟩⟩, rfl⟩)
        case measure => rw [HE5.out.tof, HTF.out]; have := HM.out; omega
    · have HQ : Hid (RgPre F l t (rngs F l (k + 1) t)) := hide ⟨k, rfl, hrel.out.1⟩
      have HJ4 := hide hJx'
      clear hJx' hbut hy c1 c2
      gi_wp2
      refine bodyPost_ret (results_none rfl _ _ _) rfl ?_
      exact ⟨⟨_, rfl⟩, .inr ⟨_, HQ.out, HJ4.out⟩⟩
set_option maxHeartbeats 1000000 in
theorem ranges_calls (g t : Nat) (w : World) :
    Calls Tryz.prog 38 #[.pointer (some ⟨g, 0, none⟩), .int .u64 (t : Int)] w fun e w' => e = .returned (.func (.func 54) #[] #[.pointer (some ⟨w.heap.size, 0, none⟩), .pointer (some ⟨w.heap.size + 1, 0, none⟩)]) ∧ w' = (w.alloc (.cells #[.pointer (some ⟨g, 0, none⟩)] 32)).alloc (.cells #[.int .u64 (t : Int)] 22) := by
  go_enter Tryz.func38, Tryz.ntmps38
  go_wp2
  go_ret
  exact ⟨rfl, rfl⟩
end Go.Proofs.YtmphookgaopdlaaGreat
