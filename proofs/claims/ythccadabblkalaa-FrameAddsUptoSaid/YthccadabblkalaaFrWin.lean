/- frame.windowsOf and its iterator; frame.Used (chapter 15). -/
import Derived.Test.YthccadabblkalaaFrRef3
import Derived.Test.YthccadabblkalaaRf
import Derived.RangeFuncNested
import Derived.RangeFuncBound
import Derived.Shelf.Abstract
import Derived.Shelf.RegionOpen
import Derived.OwnWalkIn
import Derived.TacticsInMore
import Derived.LoopNIn
import Derived.LoopIn
import Derived.Lib.MinMax
namespace Go.Proofs.Ythccadabblkalaa
open Go.RowKit Go.Sort Go.Shelf
attribute [local go_sem] Oper.semAt_some
set_option linter.unusedVariables false

def hiW (x : WinR) : Nat := (x.st + x.len) % 18446744073709551616
theorem wrap_add (a b : Nat) : IntKind.u64.wrap ((a : Int) + (b : Int)) = (((a + b) % 18446744073709551616 : Nat) : Int) := by
  simp only [IntKind.wrap, IntKind.bits, IntKind.signed]
  simp
def wo (l : List WinR) (p : Nat) : List (Nat × Nat) := (l.filter fun x => decide (x.part = p)).map fun x => (x.st, hiW x)
theorem wo_yes {l : List WinR} {p k : Nat} (h : k < l.length) (he : l[k].part = p) : wo (l.take (k + 1)) p = wo (l.take k) p ++ [(l[k].st, hiW l[k])] := by
  unfold wo
  rw [List.take_succ_eq_append_getElem h, List.filter_append, List.map_append, List.filter_cons_of_pos (by simpa using he)]; rfl
theorem wo_no {l : List WinR} {p k : Nat} (h : k < l.length) (he : ¬ l[k].part = p) : wo (l.take (k + 1)) p = wo (l.take k) p := by
  unfold wo
  rw [List.take_succ_eq_append_getElem h, List.filter_append, List.map_append, List.filter_cons_of_neg (by simpa using he)]; simp
theorem wo_pre (l : List WinR) (p k : Nat) : wo (l.take k) p <+: wo l p := by
  refine ⟨wo (l.drop k) p, ?_⟩
  unfold wo
  rw [← List.map_append, ← List.filter_append, List.take_append_drop]
theorem wo_len (l : List WinR) (p : Nat) : (wo l p).length ≤ l.length := by
  unfold wo; rw [List.length_map]; exact List.length_filter_le _ _
def encsW (x : Nat × Nat) : Array Value := #[.int .u64 (x.1 : Int), .int .u64 (x.2 : Int)]
/-- What the iterator needs. -/
structure WoEnv (n0 Bc Bp : Nat) (c : Cfg) (p : Nat) (w : World) : Prop where
  cfg : CfgAt n0 c w
  bc : Blk w Bc 29 (cfgC c)
  bp : Blk w Bp 38 #[.int .u16 (p : Int)]
theorem WoEnv.but {M : Nat → Prop} {n0 Bc Bp : Nat} {c : Cfg} {p : Nat} {w w' : World} (h : WoEnv n0 Bc Bp c p w) (hb : But M w w') (hn : n0 ≤ w.heap.size) (hM : ∀ i, M i → n0 ≤ i ∧ i ≠ Bc ∧ i ≠ Bp) : WoEnv n0 Bc Bp c p w' :=
  ⟨h.cfg.below (hb.below hn (fun k hk hm => by have := (hM k hm).1; omega)), hb.blk h.bc (fun hm => (hM _ hm).2.1 rfl), hb.blk h.bp (fun hm => (hM _ hm).2.2 rfl)⟩
set_option maxRecDepth 100000 in
set_option maxHeartbeats 4000000 in
theorem wo_seq (n0 Bc Bp : Nat) (c : Cfg) (p : Nat) (w : World) (h : WoEnv n0 Bc Bp c p w) (hn0 : n0 ≤ w.heap.size) (hsm : c.Small) :
    SeqM Try.prog 48 #[.pointer (some ⟨Bc, 0, none⟩), .pointer (some ⟨Bp, 0, none⟩)] encsW (fun i => i = Bc ∨ i = Bp) 0 n0 (fun xs => xs = wo c.wins.l p) (fun pre => pre <+: wo c.wins.l p) (wo c.wins.l p).length w := by
  intro l R J Jx W hW hR hJ hJx hY h0
  have hE : WoEnv n0 Bc Bp c p W := h.but (But.of_below (M := fun _ => False) hW) hn0 (fun i hi => hi.elim)
  have hR2 : ∀ i, R i → n0 ≤ i ∧ i ≠ Bc ∧ i ≠ Bp := fun i hi => by
    obtain ⟨h1, h2, _⟩ := hR i hi
    exact ⟨h1, fun e => h2 (.inl e), fun e => h2 (.inr e)⟩
  have hnW : n0 ≤ W.heap.size := Nat.le_trans hn0 hW.size
  have HENV := hide (fun wr (hb : But R W wr) => hE.but hb hnW hR2)
  have hcap := hE.cfg.wins.2
  obtain ⟨n, hn⟩ : ∃ n, n = c.wins.l.length := ⟨_, rfl⟩
  obtain ⟨wa, hwa⟩ : ∃ a, a = c.wins.a := ⟨_, rfl⟩
  have hnI : (n : Int) ≤ 1048576 := by unfold Cfg.Small at hsm; omega
  have hcI : (n : Int) ≤ (c.wins.c : Int) := by omega
  have HN := hide hn
  have HWA := hide hwa
  have HBC := hide (fun W (hW : WoEnv n0 Bc Bp c p W) => (cfg_cells hW.bc).2.2.1)
  rw [← hn, ← hwa] at HBC
  have HBP := hide (fun W (hW : WoEnv n0 Bc Bp c p W) => (hW.bp.cell 0 : W.cell? ⟨Bp, 0, none⟩ = some (.int .u16 (p : Int))))
  have HY := hide hY
  have HJ := hide hJ
  have H0 := hide h0
  have hb2 := HBC.out W hE
  refine callsIn_wide (n := 3) |>.1 (callsIn_of_wp Try.func48 rfl trivial ?_ rfl)
  clear h hn0 hsm hW hR hJ hJx hY h0 hE hR2 hnW hcap hn hwa
  simp only [Try.ntmps48, List.size_toArray, List.length_cons, List.length_nil, Nat.reduceAdd, Nat.reduceSub, Array.replicate_succ, Array.replicate_zero, List.push_toArray, List.append_toArray, List.nil_append, List.cons_append]
  gi_wp2
  gi_loopw [9] (fun v wr => ∃ k : Nat, k ≤ n ∧ v = .int .i64 (k : Int) ∧ Hid (J (wo (c.wins.l.take k) p) wr ∧ But R W wr)) (fun v _ => n - (intOf v).toNat)
  case atStart => exact ⟨0, Nat.zero_le _, rfl, hide ⟨H0.out, But.refl _ _⟩⟩
  case round =>
    obtain ⟨k, hk, rfl, hrel⟩ := hrel
    have hE := HENV.out wr hrel.out.2
    by_cases hlt : k < n
    · have hlt2 : (k : Int) < (n : Int) := by omega
      have hkl : k < c.wins.l.length := by have := HN.out; omega
      obtain ⟨b, o, ha, hab, x0, x1, x2⟩ := win_at hE.cfg.wins k hkl
      obtain rfl : wa = some ⟨b, o, none⟩ := HWA.out.trans ha
      have hbp := HBP.out wr hE
      have hpz : Bp < wr.heap.size := hE.bp.lt
      have hbz : b < wr.heap.size := cell_lt x0
      have HJ1 : Hid (J (wo (c.wins.l.take k) p) (wr.alloc (.cells (winC c.wins.l[k]) 45)) ∧ But R W (wr.alloc (.cells (winC c.wins.l[k]) 45))) := hide ⟨HJ.out _ _ _ hrel.out.1 ((But.refl _ wr).alloc _), hrel.out.2.alloc _⟩
      have HNX := hide ha
      by_cases he : c.wins.l[k].part = p
      · have e0 : ((c.wins.l[k].part : Int) == (p : Int)) = true := by rw [he]; exact beq_self_eq_true _
        have hpre := wo_pre c.wins.l p (k + 1)
        have hlen : (wo (c.wins.l.take k) p).length < (wo c.wins.l p).length := by
          have h1 := hpre.length_le
          rw [wo_yes hkl he, List.length_append] at h1
          simp at h1; omega
        obtain ⟨fn, tmps, assign, body, hy, hRd⟩ := HY.out 2 (wo (c.wins.l.take k) p) (c.wins.l[k].st, hiW c.wins.l[k]) _ HJ1.out.1 (by have := HJ1.out.2.size; omega) hlen
        rw [← wo_yes hkl he] at hRd
        have HRD := hide hRd
        have HPRE := hide hpre
        have hw : IntKind.u64.wrap ((c.wins.l[k].st : Int) + (c.wins.l[k].len : Int)) = ((hiW c.wins.l[k] : Nat) : Int) := wrap_add _ _
        unfold winC at hy HRD HJ1
        dsimp only [encsW] at hy
        generalize hiW c.wins.l[k] = hi at *
        generalize c.wins.l[k] = x at *
        clear he hpre hlen hRd hrel hE ha hab
        gi_wp2
        refine HRD.out.mono ?_
        rintro e W' (⟨rfl, hJ', hbut⟩ | ⟨rfl, hJx', hbut⟩)
        · have HJ2 : Hid (J (wo (c.wins.l.take (k + 1)) p) W' ∧ But R W W') := hide ⟨hJ', HJ1.out.2.trans hbut⟩
          clear hJ' hbut
          gi_wp2
          go_roundw
          case rel => exact ⟨k + 1, by omega, by go_num, HJ2⟩
          case measure => simp [intOf]; omega
        · gi_wp2
          refine bodyPost_ret (results_none rfl _ _ _) rfl ?_
          exact ⟨⟨_, rfl⟩, .inr ⟨_, HPRE.out, hJx'⟩⟩
      · have e0 : ((c.wins.l[k].part : Int) == (p : Int)) = false := by rw [beq_eq_false_iff_ne]; exact fun h => he (by exact_mod_cast h)
        have HW : Hid (wo (c.wins.l.take (k + 1)) p = wo (c.wins.l.take k) p) := hide (wo_no hkl he)
        unfold winC at HJ1
        generalize c.wins.l[k] = x at *
        clear he hrel hE ha hab
        gi_wp2
        refine ⟨fun _ h => (by cases h), ?_⟩
        gi_wp2
        go_roundw
        case rel => exact ⟨k + 1, by omega, by go_num, hide (by rw [HW.out]; exact HJ1.out)⟩
        case measure => simp [intOf]; omega
    · have hkn : k = n := by omega
      subst hkn
      have HF : Hid (J (wo c.wins.l p) wr) := hide (by have := hrel.out.1; rwa [List.take_of_length_le (by rw [HN.out]; exact Nat.le_refl _)] at this)
      clear hlt hk hrel hE
      gi_wp2
      go_end0
      exact ⟨⟨_, rfl⟩, .inl ⟨_, rfl, HF.out⟩⟩
end Go.Proofs.Ythccadabblkalaa
