/- demand: the iterator of periods yields what the plain law says (chapter 16). -/
import Derived.Test.YtkhcdnehfiopgaaDmPer
import Derived.Test.YtkhcdnehfiopgaaDmL
import Derived.Test.YtkhcdnehfiopgaaSdLaw
import Derived.Sort.BigQuietIn
import Derived.BigGuardPart
import Derived.Outline
import Derived.Sort.CutIn
namespace Go.Proofs.Ytkhcdnehfiopgaa
open Go.RowKit Go.Sort Go.Shelf
attribute [local go_sem] Oper.semAt_some
set_option linter.unusedVariables false

theorem wrapN (n : Nat) (h : n < 18446744073709551616) : IntKind.u64.wrap (n : Int) = (n : Int) := by
  have : (n : Int) < 18446744073709551616 := by omega
  simp only [IntKind.wrap, IntKind.bits, IntKind.signed]
  simp
  omega
theorem wrapUP {a : Int} {n : Nat} (h : a = (n : Int)) (hn : n < 18446744073709551616) : IntKind.u64.wrap a = (n : Int) := by rw [h]; exact wrapN n hn
theorem le_of_mul_lt {a P x : Nat} (hP : 0 < P) (h : a * P ≤ x) : a ≤ x := Nat.le_trans (Nat.le_mul_of_pos_right _ hP) h
set_option maxRecDepth 100000 in
set_option maxHeartbeats 16000000 in
theorem per_seq (n0 Bp : Nat) (x : PartR) (F cnt : Nat) (r : Row WinR) (w : World) (h : PerEnv n0 Bp x F r w) (hn0 : n0 ≤ w.heap.size) (hP : 0 < x.per) (hF : F = cnt * x.per) (hS : Sch F r.l) (hl : r.l.length ≤ 1048576) (hok : x.Ok) :
    SeqK Try.prog 65 #[.pointer (some ⟨Bp, 0, none⟩)] encsW (fun i => i = Bp) n0 (fun xs => xs = perY x.per cnt r.l) (fun pre => pre <+: perY x.per cnt r.l) (perY x.per cnt r.l).length w := by
  intro lp R J Jx W hW hR hJ hJx hY h0
  have hE : PerEnv n0 Bp x F r W := h.but (But.of_below (M := fun _ => False) hW) hn0 (fun i hi => hi.elim)
  have hBp : Bp < W.heap.size := hE.box.lt
  have hnW : n0 ≤ W.heap.size := Nat.le_trans hn0 hW.size
  obtain ⟨B, hB⟩ : ∃ B, B = W.heap.size := ⟨_, rfl⟩
  have HDN := hide (done_calls n0 Bp B lp x F r (perY x.per cnt r.l) R J Jx (fun i hi => by obtain ⟨a, b, c⟩ := hR i hi; exact ⟨a, b, by omega⟩) (by omega) (by omega) (by rw [hB]; exact hJ) (by rw [hB]; exact hY))
  rw [← hB] at hR hJ hJx hY hBp hnW
  have hM0 : PerM n0 Bp B lp x F r 0 0 (((W.alloc (.cells #[.func (.yield lp) #[] #[]] 61)).alloc (.cells #[.int .u64 0] 22)).alloc (.cells #[.int .u64 0] 22)) := by
    have e1 := Blk.new W 61 #[.func (.yield lp) #[] #[]]
    have e2 := Blk.new (W.alloc (.cells #[.func (.yield lp) #[] #[]] 61)) 22 #[.int .u64 0]
    have e3 := Blk.new ((W.alloc (.cells #[.func (.yield lp) #[] #[]] 61)).alloc (.cells #[.int .u64 0] 22)) 22 #[.int .u64 0]
    rw [World.size_alloc, World.size_alloc, ← hB] at e3
    rw [World.size_alloc, ← hB] at e2
    rw [← hB] at e1
    exact ⟨hE.but (M := fun _ => False) ((((But.refl _ W).alloc _).alloc _).alloc _) (by omega) (fun i hi => hi.elim), (e1.alloc _).alloc _, e2.alloc _, e3⟩
  have hj0 := hJ _ _ _ h0 ((((But.refl (mineK (fun i => i = Bp) B) W).alloc (.cells #[.func (.yield lp) #[] #[]] 61)).alloc (.cells #[.int .u64 0] 22)).alloc (.cells #[.int .u64 0] 22))
  have HM0 := hide hM0
  have HJ0 := hide hj0
  have HJ := hide hJ
  have HRR := hide (fun i (hi : R i) => (hR i hi).2.2)
  have eF : ∀ args w, (callFunc 66 args).run Try.prog w = .ok (.enter 66 args) w := enters_of Try.func66 (by kernel_rfl) rfl
  have HE := hide hE
  have HBP := hide hBp
  have HNB := hide hnW
  have HB := hide hB
  have HYL := hide (fun m pre y W1 a b c => hY m pre y W1 a b c)
  obtain ⟨n, hn⟩ : ∃ n, n = r.l.length := ⟨_, rfl⟩
  obtain ⟨P, hPd⟩ : ∃ P, P = x.per := ⟨_, rfl⟩
  have HN := hide hn
  obtain ⟨ra, hra⟩ : ∃ a, a = r.a := ⟨_, rfl⟩
  have HRA := hide hra
  have hcap := h.row.2
  have hnI : (n : Int) ≤ 1048576 := by omega
  have hcI : (n : Int) ≤ (r.c : Int) := by omega
  have hP2 : 0 < P := by omega
  have hPx : P < 18446744073709551616 := by have := hok.2.2.1; omega
  have HBC := hide (fun nx tk wr (hm : PerM n0 Bp B lp x F r nx tk wr) => (⟨hm.env.box.cell 2, hm.env.box.cell 4, hm.env.box.cell 5, hm.bn.cell 0, hm.bt.cell 0, hm.bn.frozen 0, hm.bt.frozen 0⟩ : wr.cell? ⟨Bp, 2, none⟩ = some (.int .u64 (x.per : Int)) ∧ wr.cell? ⟨Bp, 4, none⟩ = some (.int .u64 (F : Int)) ∧ wr.cell? ⟨Bp, 5, none⟩ = some (.slice r.a r.l.length r.c) ∧ wr.cell? ⟨B + 1, 0, none⟩ = some (.int .u64 (nx : Int)) ∧ wr.cell? ⟨B + 2, 0, none⟩ = some (.int .u64 (tk : Int)) ∧ wr.frozen? ⟨B + 1, 0, none⟩ = false ∧ wr.frozen? ⟨B + 2, 0, none⟩ = false))
  rw [← hn, ← hPd, ← hra] at HBC
  subst hF
  rw [← hPd] at hS hM0 HM0 HDN HE HBC HYL ⊢
  have hpz : ((P : Int) == 0) = false := by rw [beq_eq_false_iff_ne]; omega
  have hpp : (0 : Int) < (P : Int) := by omega
  obtain ⟨FF, hFF⟩ : ∃ FF, FF = cnt * P := ⟨_, rfl⟩
  have hFd : FF / P = cnt := by rw [hFF]; exact Nat.mul_div_cancel _ hP2
  have hq1 : ((FF : Int)).tdiv (P : Int) = (cnt : Int) := by rw [← Int.ofNat_tdiv, hFd]
  have hq2 : ((FF : Int)) / (P : Int) = (cnt : Int) := by rw [← hFd]; exact (Int.natCast_ediv _ _).symm
  have hcl : cnt ≤ FF := by rw [hFF]; exact Nat.le_mul_of_pos_right _ hP2
  have hwc : IntKind.u64.wrap (cnt : Int) = (cnt : Int) := wrapN cnt (by have := hS.lt; omega)
  have HRD := hide (fun k (hk : k < r.l.length) => per_round hP2 hS hk)
  have HEND := hide (per_end hP2 hS)
  have HPRE := hide (per_pre P cnt r.l)
  have HPX := hide hPx
  have HP2 := hide hP2
  have HSL := hide hS.lt
  have HFE := hide hFF
  rw [← hFF] at HBC HM0 HE HSL HDN
  refine callsIn_wide (n := 3) |>.1 (callsIn_of_wp Try.func65 rfl trivial ?_ rfl)
  obtain ⟨a0, a1, a2, a3, a4, a5, a6⟩ := HBC.out _ _ _ HM0.out
  have b1 : W.cell? ⟨Bp, 4, none⟩ = some (.int .u64 (FF : Int)) := HE.out.box.cell 4
  have b2 : W.cell? ⟨Bp, 2, none⟩ = some (.int .u64 (P : Int)) := by have := HE.out.box.cell 2; rw [hPd]; exact this
  have hbz : Bp < W.heap.size := HE.out.box.lt
  clear h hn0 hP hS hl hok hW hR hJ hJx hY h0 hE hBp hnW hM0 hj0 hn hPd hcap hP2 hPx hFF hFd hra hcl hB
  simp only [Try.ntmps65, List.size_toArray, List.length_cons, List.length_nil, Nat.reduceAdd, Nat.reduceSub, Array.replicate_succ, Array.replicate_zero, List.push_toArray, List.append_toArray, List.nil_append, List.cons_append]
  gi_wp2
  rw [← HB.out]
  simp only [Nat.add_assoc, Nat.reduceAdd]
  generalize ((W.alloc (.cells #[.func (.yield lp) #[] #[]] 61)).alloc (.cells #[.int .u64 0] 22)).alloc (.cells #[.int .u64 0] 22) = W3 at *
  clear a0 a1 a2 a3 a4 a5 a6 b1 b2 hbz hq1 hq2 hwc
  gi_loopw [22] (fun v wr => ∃ k : Nat, k ≤ n ∧ v = .int .i64 (k : Int) ∧ Hid (PerM n0 Bp B lp x FF r (perSt P (r.l.take k)).nx (perSt P (r.l.take k)).tk wr ∧ J (perSt P (r.l.take k)).ys wr)) (fun v _ => n - (intOf v).toNat)
  case atStart => exact ⟨0, Nat.zero_le _, rfl, hide ⟨HM0.out, HJ0.out⟩⟩
  case round =>
    obtain ⟨k, hk, rfl, hrel⟩ := hrel
    by_cases hlt : k < n
    · have hlt2 : (k : Int) < (n : Int) := by omega
      have hkl : k < r.l.length := by have := HN.out; omega
      obtain ⟨rd, rs⟩ := HRD.out k hkl
      obtain ⟨b, o, ha, hab, x0, x1, x2⟩ := win_at hrel.out.1.env.row k hkl
      obtain rfl : ra = some ⟨b, o, none⟩ := HRA.out.trans ha
      obtain ⟨y, hy⟩ : ∃ y, y = r.l[k] := ⟨_, rfl⟩
      obtain ⟨s, hs⟩ : ∃ s, s = perSt P (r.l.take k) := ⟨_, rfl⟩
      rw [← hy] at rd rs x0 x1 x2
      rw [← hs] at rd rs hrel
      obtain ⟨Y, nx, tk⟩ := s
      obtain ⟨st, len, part⟩ := y
      obtain ⟨g1, g2, g3, g4, g5, g6, g7, g8, g9, g10, g11, g12⟩ := rd
      simp only at hrel g1 g4 g5 g6 g7 g8 g9 x0 x1 x2
      obtain ⟨fi, hfi⟩ : ∃ fi, fi = fiW P ⟨st, len, part⟩ := ⟨_, rfl⟩
      obtain ⟨la, hla⟩ : ∃ la, la = laW P ⟨st, len, part⟩ := ⟨_, rfl⟩
      obtain ⟨en, hen⟩ : ∃ en, en = st + len := ⟨_, rfl⟩
      obtain ⟨e1, he1⟩ : ∃ e1, e1 = en - 1 := ⟨_, rfl⟩
      rw [← hfi] at g1 g2 g5 g6
      rw [← hla] at g2 g3 g4
      have hFF : cnt * P < 18446744073709551616 := by rw [← HFE.out]; exact HSL.out
      have hm3 : IntKind.u64.wrap ((st : Int) + (len : Int)) = (en : Int) := by rw [wrap_add, ← hen, Nat.mod_eq_of_lt (by omega)]
      have hd1 : (st : Int).tdiv (P : Int) = (fi : Int) := by rw [← Int.ofNat_tdiv, hfi]; rfl
      have hd2 : (st : Int) / (P : Int) = (fi : Int) := by rw [hfi]; exact (Int.natCast_ediv _ _).symm
      have hm4 : IntKind.u64.wrap ((en : Int) - 1) = (e1 : Int) := by
        have e : (en : Int) - 1 = (en : Int) - ((1 : Nat) : Int) := rfl
        rw [e, wrap_subW, subW_le (by omega) (by omega), ← he1]
      have hd3 : (e1 : Int).tdiv (P : Int) = (la : Int) := by rw [← Int.ofNat_tdiv, hla, he1, hen]; rfl
      have hd4 : (e1 : Int) / (P : Int) = (la : Int) := by rw [hla, he1, hen]; exact (Int.natCast_ediv _ _).symm
      have hl1 := le_of_mul_lt HP2.out (Nat.le_of_lt g4)
      have hwf : IntKind.u64.wrap (fi : Int) = (fi : Int) := wrapN fi (by omega)
      have HEN := hide hen
      have HFZ : Hid (fi < 18446744073709551615) := hide (by have := Nat.le_mul_of_pos_right cnt HP2.out; omega)
      have hwl : IntKind.u64.wrap (la : Int) = (la : Int) := wrapN la (by omega)
      obtain ⟨p0, p1, p2, p3, p4, p5, p6⟩ := HBC.out _ _ _ hrel.out.1
      have HM := hide hrel.out.1
      have HJJ := hide hrel.out.2
      have HX : Hid (b < wr.heap.size) := hide (cell_lt x0)
      have hbz : b < wr.heap.size := HX.out
      have hpz2 : Bp < wr.heap.size := HM.out.env.box.lt
      have HZ : Hid (B + 3 ≤ wr.heap.size) := hide HM.out.size
      have hz0 : B < wr.heap.size := by have := HZ.out; omega
      have hz1 : B + 1 < wr.heap.size := by have := HZ.out; omega
      have hz2 : B + 2 < wr.heap.size := by have := HZ.out; omega
      clear hrel hs hy ha hab
      obtain ⟨Y1, hY1⟩ : ∃ Y1, Y1 = Y ++ ysA P nx tk fi ++ ysB (nxA nx tk fi) fi := ⟨_, rfl⟩
      obtain ⟨T1, hT1⟩ : ∃ T1, T1 = tkB nx tk fi := ⟨_, rfl⟩
      have hst : perStep P ⟨Y, nx, tk⟩ ⟨st, len, part⟩ = if fi = la then ⟨Y1, fi, T1 + len⟩ else ⟨Y1 ++ [(fi, T1 + (fi + 1) * P - st)] ++ ysE P la fi, la, st + len - la * P⟩ := by
        unfold perStep
        rw [← hfi, ← hla, hY1, hT1]
      rw [hst] at rs g10 g11 g12
      have HY1 := hide hY1
      have HT1 := hide hT1
      have HST := hide rs
      have HPR := hide g10
      have HVAL := hide g11
      have HTK2 := hide g12
      have hp1 : Y1 <+: perY P cnt r.l := by
        by_cases e : fi = la
        · rw [if_pos e] at g10; exact g10
        · rw [if_neg e] at g10
          refine List.IsPrefix.trans ?_ g10
          simp only [List.append_assoc]; exact List.prefix_append _ _
      have HP1 := hide hp1
      clear hY1 hT1 hst rs g10 g11 g12 hp1
      have HG := hide (And.intro g1 (And.intro g2 (And.intro g3 (And.intro g4 (And.intro g5 (And.intro g6 (And.intro g7 (And.intro g8 g9))))))))
      clear g1 g2 g3 g4 g5 g6 g7 g8 g9 hfi hla hen he1 hFF hl1
      obtain ⟨g, hg⟩ : ∃ g, g = wr.heap.size := ⟨_, rfl⟩
      have HG8 := hide hg
      have HB8 : Hid (Blk (wr.alloc (.cells #[.int .u64 (st : Int), .int .u64 (len : Int), .int .u16 (part : Int)] 49)) g 49 #[.int .u64 (st : Int), .int .u64 (len : Int), .int .u16 (part : Int)]) := hide (by rw [hg]; exact Blk.new wr _ _)
      have HGR : Hid (¬ (R g ∨ g = B + 1 ∨ g = B + 2)) := hide (by rintro (h | h | h); have := HRR.out g h; have := HZ.out; omega; have := HZ.out; omega; have := HZ.out; omega)
      clear hg
      gi_wp2
      gi_quiet (fail)
      rw [← HG8.out]
      have HM8 := hide ((HM.out.alloc HNB.out (.cells #[.int .u64 (st : Int), .int .u64 (len : Int), .int .u16 (part : Int)] 49)).drewN HNB.out nq)
      have HJ8 := hide (HJ.out _ _ _ HJJ.out (((But.refl (mineK (fun i => i = Bp) B) wr).alloc (.cells #[.int .u64 (st : Int), .int .u64 (len : Int), .int .u16 (part : Int)] 49)).drewN nq))
      have HW8 := hide (HB8.out.drewN nq)
      generalize (wr.alloc (.cells #[.int .u64 (st : Int), .int .u64 (len : Int), .int .u16 (part : Int)] 49)).drewN nq = w8 at *
      clear p0 p1 p2 p3 p4 p5 p6 x0 x1 x2 hbz hpz2 hz0 hz1 hz2
      obtain ⟨p0, p1, p2, p3, p4, p5, p6⟩ := HBC.out _ _ _ HM8.out
      have v0 : w8.cell? ⟨g, 0, none⟩ = some (.int .u64 (st : Int)) := HW8.out.cell 0
      have v1 : w8.cell? ⟨g, 1, none⟩ = some (.int .u64 (len : Int)) := HW8.out.cell 1
      have hz0 : B < w8.heap.size := HM8.out.yb.lt
      have hz1 : B + 1 < w8.heap.size := HM8.out.bn.lt
      have hz2 : B + 2 < w8.heap.size := HM8.out.bt.lt
      have t1 : decide ((nx : Int) ≤ (fi : Int)) = true := by have := HG.out.1; simp; omega
      have t2 : decide (nx ≤ fi) = true := by have := HG.out.1; simp; omega
      -- the cases ahead of the test: written by tools/gendmper.py
      refine Or.elim (Nat.lt_or_ge nx fi) (fun hnf => ?c1a) (fun hnf => ?c1b)
      case' c1b =>
        obtain rfl : fi = nx := Nat.le_antisymm hnf HG.out.1
        have HY1 : Hid (Y1 = Y) := hide (by rw [HY1.out]; unfold ysA ysB nxA; simp)
        have HT1 : Hid (T1 = tk) := hide (by rw [HT1.out]; unfold tkB; simp)
        have t3a : decide ((fi : Int) < (fi : Int)) = false := by simp
        have t3b : decide (fi < fi) = false := by simp
        clear hnf
        refine Or.elim (Nat.eq_zero_or_pos tk) (fun htk => ?c2a) (fun htk => ?c2b)
        case' c2a =>
          have t5a : decide ((0 : Int) < (tk : Int)) = false := by simp; omega
          have t5b : decide (0 < tk) = false := by simp; omega
          have t5c : (tk = 0) = True := by simp; omega
          clear htk
          gi_wp2
          refine ⟨fun _ h => (by cases h), ?_⟩
          gi_upto_if 73 with (fail)
          obtain ⟨wl, hwl⟩ : ∃ W, W = w8 := ⟨_, rfl⟩
          rw [← hwl]
          have HML : Hid (PerM n0 Bp B lp x FF r fi T1 wl) := hide (by rw [hwl, HT1.out]; exact HM8.out)
          have HJL : Hid (J Y1 wl) := hide (by rw [hwl, HY1.out]; exact HJ8.out)
          have HWL : Hid (Blk wl g 49 #[.int .u64 (st : Int), .int .u64 (len : Int), .int .u16 (part : Int)]) := hide (by rw [hwl]; exact HW8.out)
          clear p0 p1 p2 p3 p4 p5 p6 v0 v1 hz0 hz1 hz2
          clear hwl
          refine id ?lf1
        case' c2b =>
          have t5a : decide ((0 : Int) < (tk : Int)) = true := by simp; omega
          have t5b : decide (0 < tk) = true := by simp; omega
          clear htk
          gi_wp2
          refine ⟨fun _ h => (by cases h), ?_⟩
          gi_upto_if 73 with (fail)
          obtain ⟨wl, hwl⟩ : ∃ W, W = w8 := ⟨_, rfl⟩
          rw [← hwl]
          have HML : Hid (PerM n0 Bp B lp x FF r fi T1 wl) := hide (by rw [hwl, HT1.out]; exact HM8.out)
          have HJL : Hid (J Y1 wl) := hide (by rw [hwl, HY1.out]; exact HJ8.out)
          have HWL : Hid (Blk wl g 49 #[.int .u64 (st : Int), .int .u64 (len : Int), .int .u16 (part : Int)]) := hide (by rw [hwl]; exact HW8.out)
          clear p0 p1 p2 p3 p4 p5 p6 v0 v1 hz0 hz1 hz2
          clear hwl
          refine id ?lf2
      case' c1a =>
        obtain ⟨n1, hn1⟩ : ∃ n1, n1 = nx + 1 := ⟨_, rfl⟩
        have t3a : decide ((nx : Int) < (fi : Int)) = true := by simp; omega
        have t3b : decide (nx < fi) = true := by simp; omega
        have hfz := HFZ.out
        have HN1 : Hid (n1 = nx + 1 ∧ n1 < 18446744073709551616 ∧ nx < fi) := hide ⟨hn1, by omega, hnf⟩
        have HT1 : Hid (T1 = 0) := hide (by rw [HT1.out]; unfold tkB; rw [if_pos hnf])
        have HYA : Hid (Y1 = Y ++ (if 0 < tk then [(nx, tk)] else []) ++ (if (if 0 < tk then n1 else nx) < fi then [((if 0 < tk then n1 else nx), 0)] else [])) := hide (by rw [HY1.out]; unfold ysA ysB nxA; simp only [hnf, true_and, hn1])
        clear hn1 hfz
        refine Or.elim (Nat.eq_zero_or_pos tk) (fun htk => ?c3a) (fun htk => ?c3b)
        case' c3a =>
          have t5a : decide ((0 : Int) < (tk : Int)) = false := by simp; omega
          have t5b : decide (0 < tk) = false := by simp; omega
          have t5c : (tk = 0) = True := by simp; omega
          have HY1 : Hid (Y1 = Y ++ [(nx, 0)]) := hide (by rw [HYA.out]; simp only [htk, Nat.lt_irrefl, if_false, List.append_nil]; rw [if_pos hnf])
          have HPA : Hid (Y ++ [(nx, 0)] <+: perY P cnt r.l) := hide (by rw [← HY1.out]; exact HP1.out)
          clear htk hnf
          gi_wp2
          refine ⟨trivial, ?_⟩
          gi_at_call 66
          refine (callsIn_wide.2 (HDN.out (Y) nx 0 nx tk n1 _ HM8.out HJ8.out HPA.out HN1.out.1 HN1.out.2.1)).mono ?_
          rintro e w9 (⟨rfl, hj, hm, hb⟩ | ⟨rfl, hjx⟩)
          rotate_left
          · have HQ : Hid (Y ++ [(nx, 0)] <+: perY P cnt r.l) := hide (HPA.out)
            have HJX := hide hjx
            clear hjx
            gi_wp2
            refine bodyPost_ret (results_none rfl _ _ _) rfl ?_
            exact ⟨⟨_, rfl⟩, .inr ⟨_, HQ.out, HJX.out⟩⟩
          have HM9 := hide hm
          have HJ9 := hide hj
          have HW9 := hide (hb.blk HW8.out HGR.out)
          clear p0 p1 p2 p3 p4 p5 p6 v0 v1 hz0 hz1 hz2
          clear hj hm hb
          obtain ⟨p0, p1, p2, p3, p4, p5, p6⟩ := HBC.out _ _ _ HM9.out
          have v0 : w9.cell? ⟨g, 0, none⟩ = some (.int .u64 (st : Int)) := HW9.out.cell 0
          have v1 : w9.cell? ⟨g, 1, none⟩ = some (.int .u64 (len : Int)) := HW9.out.cell 1
          have hz0 : B < w9.heap.size := HM9.out.yb.lt
          have hz1 : B + 1 < w9.heap.size := HM9.out.bn.lt
          have hz2 : B + 2 < w9.heap.size := HM9.out.bt.lt
          refine Or.elim (Nat.lt_or_ge n1 fi) (fun h1 => ?c4a) (fun h1 => ?c4b)
          case' c4a =>
            have t7a : decide ((n1 : Int) < (fi : Int)) = true := by simp; omega
            have t7b : decide (n1 < fi) = true := by simp; omega
            clear h1
            gi_upto_if 73 with (fail)
            obtain ⟨w10, hw10⟩ : ∃ W, W = w9.setCell ⟨B + 1, 0, none⟩ (.int .u64 (fi : Int)) := ⟨_, rfl⟩
            have HM10 : Hid (PerM n0 Bp B lp x FF r fi 0 w10) := hide (by rw [hw10]; exact HM9.out.setN HNB.out HBP.out fi)
            have HJ10 := hide (HJ.out _ _ _ HJ9.out ((But.refl (mineK (fun i => i = Bp) B) w9).setCell (p := ⟨B + 1, 0, none⟩) (.inl (.inr (by simp))) (.int .u64 (fi : Int))))
            rw [← hw10] at HJ10 ⊢
            have HW10 : Hid (Blk w10 g 49 #[.int .u64 (st : Int), .int .u64 (len : Int), .int .u16 (part : Int)]) := hide (by rw [hw10]; exact HW9.out.far (p := ⟨B + 1, 0, none⟩) (fun e => HGR.out (.inr (.inl e))) _)
            clear hw10
            clear p0 p1 p2 p3 p4 p5 p6 v0 v1 hz0 hz1 hz2
            obtain ⟨p0, p1, p2, p3, p4, p5, p6⟩ := HBC.out _ _ _ HM10.out
            have v0 : w10.cell? ⟨g, 0, none⟩ = some (.int .u64 (st : Int)) := HW10.out.cell 0
            have v1 : w10.cell? ⟨g, 1, none⟩ = some (.int .u64 (len : Int)) := HW10.out.cell 1
            have hz0 : B < w10.heap.size := HM10.out.yb.lt
            have hz1 : B + 1 < w10.heap.size := HM10.out.bn.lt
            have hz2 : B + 2 < w10.heap.size := HM10.out.bt.lt
            obtain ⟨wl, hwl⟩ : ∃ W, W = w10 := ⟨_, rfl⟩
            rw [← hwl]
            have HML : Hid (PerM n0 Bp B lp x FF r fi T1 wl) := hide (by rw [hwl, HT1.out]; exact HM10.out)
            have HJL : Hid (J Y1 wl) := hide (by rw [hwl, HY1.out]; exact HJ10.out)
            have HWL : Hid (Blk wl g 49 #[.int .u64 (st : Int), .int .u64 (len : Int), .int .u16 (part : Int)]) := hide (by rw [hwl]; exact HW10.out)
            clear p0 p1 p2 p3 p4 p5 p6 v0 v1 hz0 hz1 hz2
            clear hwl
            refine id ?lf3
          case' c4b =>
            obtain rfl : fi = n1 := by have := HN1.out; omega
            have t7a : decide ((fi : Int) < (fi : Int)) = false := by simp
            have t7b : decide (fi < fi) = false := by simp
            clear h1
            gi_upto_if 73 with (fail)
            obtain ⟨wl, hwl⟩ : ∃ W, W = w9 := ⟨_, rfl⟩
            rw [← hwl]
            have HML : Hid (PerM n0 Bp B lp x FF r fi T1 wl) := hide (by rw [hwl, HT1.out]; exact HM9.out)
            have HJL : Hid (J Y1 wl) := hide (by rw [hwl, HY1.out]; exact HJ9.out)
            have HWL : Hid (Blk wl g 49 #[.int .u64 (st : Int), .int .u64 (len : Int), .int .u16 (part : Int)]) := hide (by rw [hwl]; exact HW9.out)
            clear p0 p1 p2 p3 p4 p5 p6 v0 v1 hz0 hz1 hz2
            clear hwl
            refine id ?lf4
        case' c3b =>
          have t5a : decide ((0 : Int) < (tk : Int)) = true := by simp; omega
          have t5b : decide (0 < tk) = true := by simp; omega
          have HYB : Hid (Y1 = Y ++ [(nx, tk)] ++ (if n1 < fi then [(n1, 0)] else [])) := hide (by rw [HYA.out]; simp only [htk, if_true])
          have HPA : Hid (Y ++ [(nx, tk)] <+: perY P cnt r.l) := hide (List.IsPrefix.trans (by rw [HYB.out]; exact List.prefix_append _ _) HP1.out)
          clear htk hnf
          gi_wp2
          refine ⟨trivial, ?_⟩
          gi_at_call 66
          refine (callsIn_wide.2 (HDN.out (Y) nx tk nx tk n1 _ HM8.out HJ8.out HPA.out HN1.out.1 HN1.out.2.1)).mono ?_
          rintro e w9 (⟨rfl, hj, hm, hb⟩ | ⟨rfl, hjx⟩)
          rotate_left
          · have HQ : Hid (Y ++ [(nx, tk)] <+: perY P cnt r.l) := hide (HPA.out)
            have HJX := hide hjx
            clear hjx
            gi_wp2
            refine bodyPost_ret (results_none rfl _ _ _) rfl ?_
            exact ⟨⟨_, rfl⟩, .inr ⟨_, HQ.out, HJX.out⟩⟩
          have HM9 := hide hm
          have HJ9 := hide hj
          have HW9 := hide (hb.blk HW8.out HGR.out)
          clear p0 p1 p2 p3 p4 p5 p6 v0 v1 hz0 hz1 hz2
          clear hj hm hb
          obtain ⟨p0, p1, p2, p3, p4, p5, p6⟩ := HBC.out _ _ _ HM9.out
          have v0 : w9.cell? ⟨g, 0, none⟩ = some (.int .u64 (st : Int)) := HW9.out.cell 0
          have v1 : w9.cell? ⟨g, 1, none⟩ = some (.int .u64 (len : Int)) := HW9.out.cell 1
          have hz0 : B < w9.heap.size := HM9.out.yb.lt
          have hz1 : B + 1 < w9.heap.size := HM9.out.bn.lt
          have hz2 : B + 2 < w9.heap.size := HM9.out.bt.lt
          refine Or.elim (Nat.lt_or_ge n1 fi) (fun h1 => ?c5a) (fun h1 => ?c5b)
          case' c5a =>
            obtain ⟨n2, hn2⟩ : ∃ n2, n2 = n1 + 1 := ⟨_, rfl⟩
            have hfz := HFZ.out
            have HN2 : Hid (n2 = n1 + 1 ∧ n2 < 18446744073709551616 ∧ n1 < fi) := hide ⟨hn2, by omega, h1⟩
            have t7a : decide ((n1 : Int) < (fi : Int)) = true := by simp; omega
            have t7b : decide (n1 < fi) = true := by simp; omega
            have HY1 : Hid (Y1 = Y ++ [(nx, tk)] ++ [(n1, 0)]) := hide (by rw [HYB.out, if_pos h1])
            have HPB : Hid (Y ++ [(nx, tk)] ++ [(n1, 0)] <+: perY P cnt r.l) := hide (by rw [← HY1.out]; exact HP1.out)
            clear h1 hn2 hfz
            gi_wp2
            refine ⟨trivial, ?_⟩
            gi_at_call 66
            refine (callsIn_wide.2 (HDN.out (Y ++ [(nx, tk)]) n1 0 n1 0 n2 _ HM9.out HJ9.out HPB.out HN2.out.1 HN2.out.2.1)).mono ?_
            rintro e w10 (⟨rfl, hj, hm, hb⟩ | ⟨rfl, hjx⟩)
            rotate_left
            · have HQ : Hid (Y ++ [(nx, tk)] ++ [(n1, 0)] <+: perY P cnt r.l) := hide (HPB.out)
              have HJX := hide hjx
              clear hjx
              gi_wp2
              refine bodyPost_ret (results_none rfl _ _ _) rfl ?_
              exact ⟨⟨_, rfl⟩, .inr ⟨_, HQ.out, HJX.out⟩⟩
            have HM10 := hide hm
            have HJ10 := hide hj
            have HW10 := hide (hb.blk HW9.out HGR.out)
            clear p0 p1 p2 p3 p4 p5 p6 v0 v1 hz0 hz1 hz2
            clear hj hm hb
            obtain ⟨p0, p1, p2, p3, p4, p5, p6⟩ := HBC.out _ _ _ HM10.out
            have v0 : w10.cell? ⟨g, 0, none⟩ = some (.int .u64 (st : Int)) := HW10.out.cell 0
            have v1 : w10.cell? ⟨g, 1, none⟩ = some (.int .u64 (len : Int)) := HW10.out.cell 1
            have hz0 : B < w10.heap.size := HM10.out.yb.lt
            have hz1 : B + 1 < w10.heap.size := HM10.out.bn.lt
            have hz2 : B + 2 < w10.heap.size := HM10.out.bt.lt
            refine Or.elim (Nat.lt_or_ge n2 fi) (fun h2 => ?c6a) (fun h2 => ?c6b)
            case' c6a =>
              have t8a : decide ((n2 : Int) < (fi : Int)) = true := by simp; omega
              have t8b : decide (n2 < fi) = true := by simp; omega
              clear h2
              gi_upto_if 73 with (fail)
              obtain ⟨w11, hw11⟩ : ∃ W, W = w10.setCell ⟨B + 1, 0, none⟩ (.int .u64 (fi : Int)) := ⟨_, rfl⟩
              have HM11 : Hid (PerM n0 Bp B lp x FF r fi 0 w11) := hide (by rw [hw11]; exact HM10.out.setN HNB.out HBP.out fi)
              have HJ11 := hide (HJ.out _ _ _ HJ10.out ((But.refl (mineK (fun i => i = Bp) B) w10).setCell (p := ⟨B + 1, 0, none⟩) (.inl (.inr (by simp))) (.int .u64 (fi : Int))))
              rw [← hw11] at HJ11 ⊢
              have HW11 : Hid (Blk w11 g 49 #[.int .u64 (st : Int), .int .u64 (len : Int), .int .u16 (part : Int)]) := hide (by rw [hw11]; exact HW10.out.far (p := ⟨B + 1, 0, none⟩) (fun e => HGR.out (.inr (.inl e))) _)
              clear hw11
              clear p0 p1 p2 p3 p4 p5 p6 v0 v1 hz0 hz1 hz2
              obtain ⟨p0, p1, p2, p3, p4, p5, p6⟩ := HBC.out _ _ _ HM11.out
              have v0 : w11.cell? ⟨g, 0, none⟩ = some (.int .u64 (st : Int)) := HW11.out.cell 0
              have v1 : w11.cell? ⟨g, 1, none⟩ = some (.int .u64 (len : Int)) := HW11.out.cell 1
              have hz0 : B < w11.heap.size := HM11.out.yb.lt
              have hz1 : B + 1 < w11.heap.size := HM11.out.bn.lt
              have hz2 : B + 2 < w11.heap.size := HM11.out.bt.lt
              obtain ⟨wl, hwl⟩ : ∃ W, W = w11 := ⟨_, rfl⟩
              rw [← hwl]
              have HML : Hid (PerM n0 Bp B lp x FF r fi T1 wl) := hide (by rw [hwl, HT1.out]; exact HM11.out)
              have HJL : Hid (J Y1 wl) := hide (by rw [hwl, HY1.out]; exact HJ11.out)
              have HWL : Hid (Blk wl g 49 #[.int .u64 (st : Int), .int .u64 (len : Int), .int .u16 (part : Int)]) := hide (by rw [hwl]; exact HW11.out)
              clear p0 p1 p2 p3 p4 p5 p6 v0 v1 hz0 hz1 hz2
              clear hwl
              refine id ?lf5
            case' c6b =>
              obtain rfl : fi = n2 := by have := HN2.out; omega
              have t8a : decide ((fi : Int) < (fi : Int)) = false := by simp
              have t8b : decide (fi < fi) = false := by simp
              clear h2
              gi_upto_if 73 with (fail)
              obtain ⟨wl, hwl⟩ : ∃ W, W = w10 := ⟨_, rfl⟩
              rw [← hwl]
              have HML : Hid (PerM n0 Bp B lp x FF r fi T1 wl) := hide (by rw [hwl, HT1.out]; exact HM10.out)
              have HJL : Hid (J Y1 wl) := hide (by rw [hwl, HY1.out]; exact HJ10.out)
              have HWL : Hid (Blk wl g 49 #[.int .u64 (st : Int), .int .u64 (len : Int), .int .u16 (part : Int)]) := hide (by rw [hwl]; exact HW10.out)
              clear p0 p1 p2 p3 p4 p5 p6 v0 v1 hz0 hz1 hz2
              clear hwl
              refine id ?lf6
          case' c5b =>
            obtain rfl : fi = n1 := by have := HN1.out; omega
            have t7a : decide ((fi : Int) < (fi : Int)) = false := by simp
            have t7b : decide (fi < fi) = false := by simp
            have HY1 : Hid (Y1 = Y ++ [(nx, tk)]) := hide (by rw [HYB.out, if_neg (by omega), List.append_nil])
            clear h1
            gi_wp2
            refine ⟨fun _ h => (by cases h), ?_⟩
            gi_upto_if 73 with (fail)
            obtain ⟨wl, hwl⟩ : ∃ W, W = w9 := ⟨_, rfl⟩
            rw [← hwl]
            have HML : Hid (PerM n0 Bp B lp x FF r fi T1 wl) := hide (by rw [hwl, HT1.out]; exact HM9.out)
            have HJL : Hid (J Y1 wl) := hide (by rw [hwl, HY1.out]; exact HJ9.out)
            have HWL : Hid (Blk wl g 49 #[.int .u64 (st : Int), .int .u64 (len : Int), .int .u16 (part : Int)]) := hide (by rw [hwl]; exact HW9.out)
            clear p0 p1 p2 p3 p4 p5 p6 v0 v1 hz0 hz1 hz2
            clear hwl
            refine id ?lf7
      all_goals
        have hpx := HPX.out
        obtain ⟨p0, p1, p2, p3, p4, p5, p6⟩ := HBC.out _ _ _ HML.out
        have v0 : wl.cell? ⟨g, 0, none⟩ = some (.int .u64 (st : Int)) := HWL.out.cell 0
        have v1 : wl.cell? ⟨g, 1, none⟩ = some (.int .u64 (len : Int)) := HWL.out.cell 1
        have hz0 : B < wl.heap.size := HML.out.yb.lt
        have hz1 : B + 1 < wl.heap.size := HML.out.bn.lt
        have hz2 : B + 2 < wl.heap.size := HML.out.bt.lt
        rcases Nat.eq_or_lt_of_le HG.out.2.1 with hfl | hfl
        · obtain ⟨t2, ht2⟩ : ∃ t2, t2 = T1 + len := ⟨_, rfl⟩
          have HS1 : Hid (perSt P (r.l.take (k + 1)) = ⟨Y1, fi, t2⟩) := hide (by rw [HST.out, if_pos hfl, ht2])
          have htb := HTK2.out
          rw [if_pos hfl] at htb
          have hm5 : IntKind.u64.wrap ((T1 : Int) + (len : Int)) = (t2 : Int) := by rw [wrap_add, ← ht2, Nat.mod_eq_of_lt (by simp only at htb; omega)]
          have s0 : ((fi : Int) == (la : Int)) = true := by rw [hfl]; exact beq_self_eq_true _
          have HM9 := hide (HML.out.setT HNB.out HBP.out t2)
          have HJ9 := hide (HJ.out _ _ _ HJL.out ((But.refl (mineK (fun i => i = Bp) B) wl).setCell (p := ⟨B + 2, 0, none⟩) (.inl (.inr (by simp))) (.int .u64 (t2 : Int))))
          clear hpx ht2 htb hfl
          gi_wp2
          go_roundw
          case rel => exact ⟨k + 1, by omega, by go_num, hide (by rw [HS1.out]; exact ⟨HM9.out, HJ9.out⟩)⟩
          case measure => simp [intOf]; omega
        · have hg := HG.out
          have hne : ¬ fi = la := by omega
          have hpr := HPR.out
          have hvl := HVAL.out
          rw [if_neg hne] at hpr hvl
          obtain ⟨v, hv⟩ : ∃ v, v = T1 + (fi + 1) * P - st := ⟨_, rfl⟩
          rw [← hv] at hpr hvl
          have hvP : v ≤ P := hvl (fi, v) (List.mem_append_left _ (List.mem_append_right _ List.mem_cons_self))
          have HS1 : Hid (perSt P (r.l.take (k + 1)) = ⟨Y1 ++ [(fi, v)] ++ ysE P la fi, la, st + len - la * P⟩) := hide (by rw [HST.out, if_neg hne, hv])
          have HPA : Hid (Y1 ++ [(fi, v)] <+: perY P cnt r.l) := hide (List.IsPrefix.trans (List.prefix_append _ _) hpr)
          have HPB := hide hpr
          obtain ⟨f1, hf1⟩ : ∃ f1, f1 = fi + 1 := ⟨_, rfl⟩
          have hfm : f1 * P ≤ la * P := Nat.mul_le_mul_right _ (by omega)
          have hFF : cnt * P < 18446744073709551616 := by rw [← HFE.out]; exact HSL.out
          have hfz := HFZ.out
          rw [← hf1] at hg hv
          obtain ⟨m1, hm1⟩ : ∃ m1, m1 = f1 * P := ⟨_, rfl⟩
          obtain ⟨m2, hm2⟩ : ∃ m2, m2 = la * P := ⟨_, rfl⟩
          have hmm1 : IntKind.u64.wrap ((f1 : Int) * (P : Int)) = (m1 : Int) := by rw [← Int.natCast_mul, ← hm1]; exact wrapN m1 (by omega)
          have hmm2 : IntKind.u64.wrap ((la : Int) * (P : Int)) = (m2 : Int) := by rw [← Int.natCast_mul, ← hm2]; exact wrapN m2 (by omega)
          rw [← hm1] at hg hv hfm
          rw [← hm2] at hg hfm
          have hf2 : IntKind.u64.wrap ((fi : Int) + 1) = (f1 : Int) := wrapUP (by omega) (by omega)
          obtain ⟨s1, hs1⟩ : ∃ s1, s1 = (T1 + m1) % 18446744073709551616 := ⟨_, rfl⟩
          have hsm1 : IntKind.u64.wrap ((T1 : Int) + (m1 : Int)) = (s1 : Int) := by rw [wrap_add, ← hs1]
          have hsm2 : IntKind.u64.wrap ((s1 : Int) - (st : Int)) = (v : Int) := by rw [wrap_subW]; unfold subW; omega
          obtain ⟨t3, ht3⟩ : ∃ t3, t3 = en - m2 := ⟨_, rfl⟩
          have hen := HEN.out
          have hsm3 : IntKind.u64.wrap ((en : Int) - (m2 : Int)) = (t3 : Int) := by rw [wrap_subW, subW_le (by omega) (by omega), ← ht3]
          have HT3 : Hid (st + len - la * P = t3) := hide (by rw [← hm2, ht3, hen])
          have s0 : ((fi : Int) == (la : Int)) = false := by rw [beq_eq_false_iff_ne]; omega
          have HF1 : Hid (f1 = fi + 1 ∧ f1 < 18446744073709551616 ∧ f1 ≤ la ∧ la < 18446744073709551615) := hide ⟨hf1, by omega, by omega, by have := Nat.le_mul_of_pos_right cnt HP2.out; omega⟩
          clear hpx hg hne hpr hvl hv hvP hf1 hfm hFF hfz hm1 hm2 hs1 ht3 hen hfl
          gi_wp2
          refine ⟨trivial, ?_⟩
          gi_at_call 66
          refine (callsIn_wide.2 (HDN.out (Y1) fi v fi T1 f1 _ HML.out HJL.out HPA.out HF1.out.1 HF1.out.2.1)).mono ?_
          rintro e w9 (⟨rfl, hj, hm, hb⟩ | ⟨rfl, hjx⟩)
          rotate_left
          · have HQ : Hid (Y1 ++ [(fi, v)] <+: perY P cnt r.l) := hide (HPA.out)
            have HJX := hide hjx
            clear hjx
            gi_wp2
            refine bodyPost_ret (results_none rfl _ _ _) rfl ?_
            exact ⟨⟨_, rfl⟩, .inr ⟨_, HQ.out, HJX.out⟩⟩
          have HM9 := hide hm
          have HJ9 := hide hj
          have HW9 := hide (hb.blk HWL.out HGR.out)
          clear p0 p1 p2 p3 p4 p5 p6 v0 v1 hz0 hz1 hz2
          clear hj hm hb
          obtain ⟨p0, p1, p2, p3, p4, p5, p6⟩ := HBC.out _ _ _ HM9.out
          have v0 : w9.cell? ⟨g, 0, none⟩ = some (.int .u64 (st : Int)) := HW9.out.cell 0
          have v1 : w9.cell? ⟨g, 1, none⟩ = some (.int .u64 (len : Int)) := HW9.out.cell 1
          have hz0 : B < w9.heap.size := HM9.out.yb.lt
          have hz1 : B + 1 < w9.heap.size := HM9.out.bn.lt
          have hz2 : B + 2 < w9.heap.size := HM9.out.bt.lt
          rcases Nat.eq_or_lt_of_le HF1.out.2.2.1 with h1 | h1
          · have HS2 : Hid (perSt P (r.l.take (k + 1)) = ⟨Y1 ++ [(fi, v)], la, t3⟩) := hide (by rw [HS1.out, HT3.out]; unfold ysE; rw [if_neg (by have := HF1.out; omega), List.append_nil])
            obtain rfl : la = f1 := h1.symm
            have t8a : decide ((la : Int) < (la : Int)) = false := by simp
            have t8b : decide (la < la) = false := by simp
            clear h1
            gi_wp2
            refine ⟨fun _ h => (by cases h), ?_⟩
            gi_wp2
            gi_region
            have HM12 := hide (((HM9.out.setN HNB.out HBP.out la).setT HNB.out HBP.out t3).drew HNB.out)
            have HJ12 := hide (HJ.out _ _ _ HJ9.out ((((But.refl (mineK (fun i => i = Bp) B) w9).setCell (p := ⟨B + 1, 0, none⟩) (.inl (.inr (by simp))) (.int .u64 (la : Int))).setCell (p := ⟨B + 2, 0, none⟩) (.inl (.inr (by simp))) (.int .u64 (t3 : Int))).drew))
            gi_wp2
            go_roundw
            case rel => exact ⟨k + 1, by omega, by go_num, hide (by rw [HS2.out]; exact ⟨HM12.out, HJ12.out⟩)⟩
            case measure => simp [intOf]; omega
          · have HS2 : Hid (perSt P (r.l.take (k + 1)) = ⟨Y1 ++ [(fi, v)] ++ [(f1, P)], la, t3⟩) := hide (by rw [HS1.out, HT3.out]; unfold ysE; rw [if_pos (by have := HF1.out; omega), HF1.out.1])
            have HPC : Hid (Y1 ++ [(fi, v)] ++ [(f1, P)] <+: perY P cnt r.l) := hide (by have := HPB.out; unfold ysE at this; rw [if_pos (by have := HF1.out; omega), ← HF1.out.1] at this; exact this)
            obtain ⟨f3, hf3⟩ : ∃ f3, f3 = f1 + 1 := ⟨_, rfl⟩
            have HF3 : Hid (f3 = f1 + 1 ∧ f3 < 18446744073709551616) := hide ⟨hf3, by have := HF1.out; omega⟩
            have t8a : decide ((f1 : Int) < (la : Int)) = true := by simp; omega
            have t8b : decide (f1 < la) = true := by simp; omega
            clear h1 hf3
            gi_wp2
            refine ⟨trivial, ?_⟩
            gi_at_call 66
            refine (callsIn_wide.2 (HDN.out (Y1 ++ [(fi, v)]) f1 P f1 0 f3 _ HM9.out HJ9.out HPC.out HF3.out.1 HF3.out.2)).mono ?_
            rintro e w10 (⟨rfl, hj, hm, hb⟩ | ⟨rfl, hjx⟩)
            rotate_left
            · have HQ : Hid (Y1 ++ [(fi, v)] ++ [(f1, P)] <+: perY P cnt r.l) := hide (HPC.out)
              have HJX := hide hjx
              clear hjx
              gi_wp2
              refine bodyPost_ret (results_none rfl _ _ _) rfl ?_
              exact ⟨⟨_, rfl⟩, .inr ⟨_, HQ.out, HJX.out⟩⟩
            have HM10 := hide hm
            have HJ10 := hide hj
            have HW10 := hide (hb.blk HW9.out HGR.out)
            clear p0 p1 p2 p3 p4 p5 p6 v0 v1 hz0 hz1 hz2
            clear hj hm hb
            obtain ⟨p0, p1, p2, p3, p4, p5, p6⟩ := HBC.out _ _ _ HM10.out
            have v0 : w10.cell? ⟨g, 0, none⟩ = some (.int .u64 (st : Int)) := HW10.out.cell 0
            have v1 : w10.cell? ⟨g, 1, none⟩ = some (.int .u64 (len : Int)) := HW10.out.cell 1
            have hz0 : B < w10.heap.size := HM10.out.yb.lt
            have hz1 : B + 1 < w10.heap.size := HM10.out.bn.lt
            have hz2 : B + 2 < w10.heap.size := HM10.out.bt.lt
            gi_wp2
            gi_region
            have HM12 := hide (((HM10.out.setN HNB.out HBP.out la).setT HNB.out HBP.out t3).drew HNB.out)
            have HJ12 := hide (HJ.out _ _ _ HJ10.out ((((But.refl (mineK (fun i => i = Bp) B) w10).setCell (p := ⟨B + 1, 0, none⟩) (.inl (.inr (by simp))) (.int .u64 (la : Int))).setCell (p := ⟨B + 2, 0, none⟩) (.inl (.inr (by simp))) (.int .u64 (t3 : Int))).drew))
            gi_wp2
            go_roundw
            case rel => exact ⟨k + 1, by omega, by go_num, hide (by rw [HS2.out]; exact ⟨HM12.out, HJ12.out⟩)⟩
            case measure => simp [intOf]; omega
    · have hkn : k = n := by omega
      subst hkn
      have htl : r.l.take k = r.l := List.take_of_length_le (by rw [HN.out]; exact Nat.le_refl _)
      rw [htl] at hrel
      have hend := HEND.out
      have hye : perY P cnt r.l = perEnd cnt (perSt P r.l) := rfl
      have HYE := hide hye
      have hcnt : cnt < 18446744073709551616 := by have := Nat.le_mul_of_pos_right cnt HP2.out; rw [← HFE.out] at this; have := HSL.out; omega
      obtain ⟨s, hs⟩ : ∃ s, s = perSt P r.l := ⟨_, rfl⟩
      rw [← hs] at hrel hend HYE
      obtain ⟨Y, nx, tk⟩ := s
      simp only at hrel hend
      obtain ⟨n1, hn1⟩ : ∃ n1, n1 = nx + 1 := ⟨_, rfl⟩
      have HN1 : Hid (n1 = nx + 1 ∧ n1 < 18446744073709551616 ∧ nx < cnt) := hide ⟨hn1, by omega, hend.1⟩
      obtain ⟨p0, p1, p2, p3, p4, p5, p6⟩ := HBC.out _ _ _ hrel.out.1
      have yb := hrel.out.1.yb.cell 0
      have hz0 : B < wr.heap.size := hrel.out.1.yb.lt
      have hz1 : B + 1 < wr.heap.size := hrel.out.1.bn.lt
      have hz2 : B + 2 < wr.heap.size := hrel.out.1.bt.lt
      have HM8 := hide hrel.out.1
      have HJ8 := hide hrel.out.2
      have yc : wr.cell? ⟨B, 0, none⟩ = some (.func (.yield lp) #[] #[]) := hrel.out.1.yb.cell 0
      have t1a : decide ((nx : Int) < (cnt : Int)) = true := by simp; omega
      have t1b : decide (nx < cnt) = true := by simp; omega
      clear hlt hk hrel htl hend hye hs hn1 hcnt yb
      rcases Nat.eq_zero_or_pos tk with htk | htk
      · have t5a : decide ((0 : Int) < (tk : Int)) = false := by simp; omega
        have t5b : decide (0 < tk) = false := by simp; omega
        have t5c : (tk = 0) = True := by simp; omega
        have HYF : Hid (perY P cnt r.l = Y ++ [(nx, 0)]) := hide (by rw [HYE.out]; unfold perEnd; simp only [htk, Nat.lt_irrefl, and_false, if_false, List.append_nil]; rw [if_pos HN1.out.2.2])
        clear htk
        gi_wp2
        refine ⟨fun _ h => (by cases h), ?_⟩
        obtain ⟨fn, tmps, assign, body, hy, hRd⟩ := HYL.out 2 (Y) (nx, 0) _ HJ8.out (Nat.le_of_lt HM8.out.yb.lt) (by rw [HYF.out, List.length_append]; simp)
        have HRD2 := hide hRd
        have hy2 : (Instr.yield lp #[.int .u64 (nx : Int), .int .u64 0]).run Try.prog wr = .ok (.round lp fn tmps assign body) wr := hy
        clear hRd hy
        gi_wp2
        refine HRD2.out.mono ?_
        rintro e W' (⟨rfl, hJ', hbut⟩ | ⟨rfl, hJx', hbut⟩)
        · have HQ := hide hJ'
          clear hJ' hbut hy2 p0 p1 p2 p3 p4 p5 p6
          gi_wp2
          go_end0
          exact ⟨⟨_, rfl⟩, .inl ⟨_, HYF.out.symm, HQ.out⟩⟩
        · have HQ := hide hJx'
          clear hJx' hbut hy2 p0 p1 p2 p3 p4 p5 p6
          gi_wp2
          go_end0
          exact ⟨⟨_, rfl⟩, .inr ⟨_, by rw [HYF.out]; exact List.prefix_refl _, HQ.out⟩⟩
      · have t5a : decide ((0 : Int) < (tk : Int)) = true := by simp; omega
        have t5b : decide (0 < tk) = true := by simp; omega
        have HYF : Hid (perY P cnt r.l = Y ++ [(nx, tk)] ++ (if n1 < cnt then [(n1, 0)] else [])) := hide (by rw [HYE.out]; unfold perEnd; simp only [htk, HN1.out.2.2, and_self, if_true, HN1.out.1])
        have HPA : Hid (Y ++ [(nx, tk)] <+: perY P cnt r.l) := hide (by rw [HYF.out]; exact List.prefix_append _ _)
        clear htk yc
        gi_wp2
        refine ⟨trivial, ?_⟩
        gi_at_call 66
        refine (callsIn_wide.2 (HDN.out Y nx tk nx tk n1 _ HM8.out HJ8.out HPA.out HN1.out.1 HN1.out.2.1)).mono ?_
        rintro e w9 (⟨rfl, hj, hm, hb⟩ | ⟨rfl, hjx⟩)
        rotate_left
        · have HJX := hide hjx
          clear hjx
          gi_wp2
          refine bodyPost_ret (results_none rfl _ _ _) rfl ?_
          exact ⟨⟨_, rfl⟩, .inr ⟨_, HPA.out, HJX.out⟩⟩
        have HM9 := hide hm
        have HJ9 := hide hj
        clear hj hm hb p0 p1 p2 p3 p4 p5 p6 hz0 hz1 hz2
        obtain ⟨p0, p1, p2, p3, p4, p5, p6⟩ := HBC.out _ _ _ HM9.out
        have yc : w9.cell? ⟨B, 0, none⟩ = some (.func (.yield lp) #[] #[]) := HM9.out.yb.cell 0
        have hz0 : B < w9.heap.size := HM9.out.yb.lt
        have hz1 : B + 1 < w9.heap.size := HM9.out.bn.lt
        have hz2 : B + 2 < w9.heap.size := HM9.out.bt.lt
        rcases Nat.lt_or_ge n1 cnt with h1 | h1
        · have HYG : Hid (perY P cnt r.l = Y ++ [(nx, tk)] ++ [(n1, 0)]) := hide (by rw [HYF.out, if_pos h1])
          have t7a : decide ((n1 : Int) < (cnt : Int)) = true := by simp; omega
          have t7b : decide (n1 < cnt) = true := by simp; omega
          clear h1
          obtain ⟨fn, tmps, assign, body, hy, hRd⟩ := HYL.out 2 (Y ++ [(nx, tk)]) (n1, 0) _ HJ9.out (Nat.le_of_lt HM9.out.yb.lt) (by rw [HYG.out, List.length_append]; simp)
          have HRD2 := hide hRd
          have hy2 : (Instr.yield lp #[.int .u64 (n1 : Int), .int .u64 0]).run Try.prog w9 = .ok (.round lp fn tmps assign body) w9 := hy
          clear hRd hy
          gi_wp2
          refine HRD2.out.mono ?_
          rintro e W' (⟨rfl, hJ', hbut⟩ | ⟨rfl, hJx', hbut⟩)
          · have HQ := hide hJ'
            clear hJ' hbut hy2 p0 p1 p2 p3 p4 p5 p6
            gi_wp2
            go_end0
            exact ⟨⟨_, rfl⟩, .inl ⟨_, HYG.out.symm, HQ.out⟩⟩
          · have HQ := hide hJx'
            clear hJx' hbut hy2 p0 p1 p2 p3 p4 p5 p6
            gi_wp2
            go_end0
            exact ⟨⟨_, rfl⟩, .inr ⟨_, by rw [HYG.out]; exact List.prefix_refl _, HQ.out⟩⟩
        · have HYG : Hid (perY P cnt r.l = Y ++ [(nx, tk)]) := hide (by rw [HYF.out, if_neg (by omega), List.append_nil])
          have t7a : decide ((n1 : Int) < (cnt : Int)) = false := by simp; omega
          have t7b : decide (n1 < cnt) = false := by simp; omega
          clear h1
          gi_wp2
          go_end0
          exact ⟨⟨_, rfl⟩, .inl ⟨_, HYG.out.symm, HJ9.out⟩⟩
end Go.Proofs.Ytkhcdnehfiopgaa
