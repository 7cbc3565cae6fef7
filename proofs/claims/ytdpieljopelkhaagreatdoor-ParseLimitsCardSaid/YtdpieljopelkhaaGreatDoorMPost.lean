/- A law's end, whatever its arguments are: they read behind the call as they read before, since nothing below the heap's old size has turned; slices of numbers opened. A configuration as an argument, opened. The walks of the reference's Partition, Counts, Few (chapters 13, 5): configurations that came in. The walks of the reference's Counts and Few (chapter 5). -/
import Derived.Test.YtdpieljopelkhaaGreatDoorMMem
import Derived.Test.YtdpieljopelkhaaGreatDoorProg
import Derived.Carry
import Derived.OpenShut
import Derived.ChangeSlices
import Derived.RowKit
import Derived.Test.YtdpieljopelkhaaGreatDoorMCfD
import Derived.Test.YtdpieljopelkhaaGreatDoorRows
import Derived.Deep.Slices
import Derived.Deep.Fields
import Derived.ChangeSame
import Derived.Lib.SmallJoins
import Derived.Test.YtdpieljopelkhaaGreatDoorSwRef1
namespace Go.Proofs.YtdpieljopelkhaaGreatDoor
open Go.RowKit Go.WideShapes Go.ChangeShapes Go.WideElems

theorem laidOut : laidOutB Tryz.prog = true := by kernel_rfl
section
variable {H : Type} {enc : TypeId × Value → H}
/-- Each type of the list can be read and is a row of the table: one closed fact. -/
def typesRead (P : Program) (ts : List TypeId) : Bool := ts.all fun t => P.readableRec t && decide (t < P.types.size)
theorem trodAll_keep {P : Program} (hlo : laidOutB P = true) {W W' : World} (hb : Below W.heap.size W W') (sp : Nat → Bool) :
    ∀ {ts : List TypeId} {vs : List Value} {ds : List (DataW H)} {ps : List MemPlace}, typesRead P ts = true → DataW.TrodAll enc P W 0 (fun _ => true) true ts vs ds ps →
      (∀ x ∈ ps, x.block < W.heap.size) → (∀ x ∈ ps, sp x.block = true) → DataW.TrodAll enc P W' 0 sp true ts vs ds ps
  | [], [], [], _, _, h, _, _ => h
  | t :: ts, _ :: _, _ :: _, _, hr, ⟨p, q, h1, h2, e⟩, hl, hs => by
    simp only [typesRead, List.all_cons, Bool.and_eq_true, decide_eq_true_eq] at hr
    refine ⟨p, q, Trod_stays hlo hr.1.1 hr.1.2 h1 (fun x hx => hb.same (hl x (by rw [e]; exact List.mem_append_left _ hx))) (fun x hx => hs x (by rw [e]; exact List.mem_append_left _ hx)), ?_, e⟩
    exact trodAll_keep hlo hb sp (by simpa [typesRead] using hr.2) h2 (fun x hx => hl x (by rw [e]; exact List.mem_append_right _ hx)) (fun x hx => hs x (by rw [e]; exact List.mem_append_right _ hx))
theorem trodAll_stays {W W' : World} (hb : Below W.heap.size W W') (sp : Nat → Bool) {ts : List TypeId} {vs : List Value} {ds : List (DataW H)} {ps : List MemPlace} (hr : typesRead Tryz.prog ts = true) (h : DataW.TrodAll enc Tryz.prog W 0 (fun _ => true) true ts vs ds ps)
    (hl : ∀ x ∈ ps, x.block < W.heap.size) (hs : ∀ x ∈ ps, sp x.block = true) : DataW.TrodAll enc Tryz.prog W' 0 sp true ts vs ds ps := trodAll_keep laidOut hb sp hr h hl hs

end
end Go.Proofs.YtdpieljopelkhaaGreatDoor
namespace Go.Proofs.YtdpieljopelkhaaGreatDoor
open Go.RowKit Go.WideShapes Go.ChangeShapes Go.WideElems Go.Deep Go.Joins
set_option linter.unusedVariables false

/-! ### Opened -/
section
variable {H : Type} {enc : TypeId × Value → H} {P : Program} {w : World}
end
section
variable {H : Type} {enc : TypeId × Value → H} {P : Program} {w : World} {base : Nat} {spare : Nat → Bool} {held : Bool}
end
section
variable {H : Type} {enc : TypeId × Value → H}
end
end Go.Proofs.YtdpieljopelkhaaGreatDoor
namespace Go.Proofs.YtdpieljopelkhaaGreatDoor
open Go.RowKit Go.Sort
set_option linter.unusedVariables false

end Go.Proofs.YtdpieljopelkhaaGreatDoor
namespace Go.Proofs.YtdpieljopelkhaaGreatDoor
open Go.RowKit Go.Sort
set_option linter.unusedVariables false

theorem links_take (l : List ChanR) (k : Nat) (h : k < l.length) : linksN (l.take (k + 1)) = linksN (l.take k) + l[k].dests.length := by
  unfold linksN
  rw [List.take_succ_eq_append_getElem h, List.map_append, List.sum_append]; simp
theorem links_le (l : List ChanR) (k : Nat) : linksN (l.take k) ≤ linksN l := by
  unfold linksN
  conv => rhs; rw [← List.take_append_drop k l, List.map_append, List.sum_append]
  omega
def countsV (c : Cfg) : Value := .agg #[.int .i64 0, .int .i64 (c.parts.l.length : Int), .int .i64 (c.wins.l.length : Int), .int .i64 (c.regs.l.length : Int), .int .i64 (c.ports.l.length : Int), .int .i64 (c.chans.l.length : Int), .int .i64 (linksN c.chans.l : Int)]
set_option maxRecDepth 100000 in
set_option maxHeartbeats 2000000 in
theorem Counts_calls (c : Cfg) (w : World) (h : CfgAt w.heap.size c w) (hsm : c.Small) :
    Calls Tryz.prog 96 #[cfgV c] w fun e w' => e = .returned (countsV c) ∧ Below w.heap.size w w' := by
  have hp := h.chans
  have hcap := hp.2
  unfold Cfg.Small at hsm
  obtain ⟨fr, ⟨pl, pa, pc⟩, ⟨wl, wa, wc⟩, ⟨rl, ra, rc⟩, ⟨ql, qa, qc⟩, ⟨cl, ca, cc⟩⟩ := c
  unfold cfgV countsV
  simp only at hp hcap hsm ⊢
  obtain ⟨n, hn⟩ : ∃ n, n = cl.length := ⟨_, rfl⟩
  rw [← hn] at hcap hsm ⊢
  have hnI : (n : Int) ≤ 1048576 := by omega
  have hcI : (n : Int) ≤ (cc : Int) := by omega
  obtain ⟨L, hL⟩ : ∃ L, L = linksN cl := ⟨_, rfl⟩
  rw [← hL] at hsm ⊢
  have HL := hide hL
  have hLI : (L : Int) ≤ 1048576 := by omega
  have HN := hide hn
  have HB : Hid (Below w.heap.size w ((w.alloc (.cells #[.int .u64 (fr : Int), .slice pa pl.length pc, .slice wa wl.length wc, .slice ra rl.length rc, .slice qa ql.length qc, .slice ca n cc] 30)).alloc (.cells #[.int .i64 0, .int .i64 0, .int .i64 0, .int .i64 0, .int .i64 0, .int .i64 0, .int .i64 0] 87))) := hide (((Below.refl _ w).alloc (Nat.le_refl _) _).alloc (by simp) _)
  have HP := hide (hp.below HB.out)
  generalize pl.length = pn at *
  generalize wl.length = wn at *
  generalize rl.length = rn at *
  generalize ql.length = qn at *
  clear h hp hcap hn hL
  go_enter Tryz.func96, Tryz.ntmps96
  go_wp2
  go_loop [3, 4] (fun s v => ∃ k m : Nat, k ≤ n ∧ m ≤ L ∧ v = .int .i64 (k : Int) ∧ s = .int .i64 (m : Int) ∧ Hid (m = linksN (cl.take k))) (fun _ v => n - (intOf v).toNat)
  case atStart => exact ⟨0, 0, Nat.zero_le _, Nat.zero_le _, rfl, rfl, hide rfl⟩
  case round =>
    obtain ⟨k, m, hk, hm, rfl, rfl, hrel⟩ := hrel
    by_cases hlt : k < n
    · have hlt2 : (k : Int) < (n : Int) := by omega
      have hkl : k < cl.length := by have := HN.out; omega
      obtain ⟨b, o, rfl, hab, _, _, x2⟩ := chan_at HP.out k hkl
      have hst := links_take cl k hkl
      rw [← hrel.out] at hst
      have hle := links_le cl (k + 1)
      rw [← HL.out, hst] at hle
      simp only at x2
      have hdm : cl[k].dests.length ≤ 1048576 := by omega
      generalize cl[k].dests.length = d at *
      generalize cl[k].at_ = da at *
      generalize cl[k].cap = dc at *
      have HST := hide hst
      clear hst
      go_wp2
      go_round
      case rel => exact ⟨k + 1, m + d, by omega, by omega, by go_num, by go_num, hide HST.out.symm⟩
      case measure => simp [intOf]; omega
    · have hkn : k = n := by omega
      subst hkn
      clear hlt hk
      have hmL : m = L := by rw [hrel.out, HL.out, List.take_of_length_le (by rw [HN.out]; exact Nat.le_refl _)]
      subst hmL
      go_wp2
      refine bodyPost_ret (v := .agg #[.int .i64 0, .int .i64 (pn : Int), .int .i64 (wn : Int), .int .i64 (rn : Int), .int .i64 (qn : Int), .int .i64 (k : Int), .int .i64 (m : Int)]) (by simp [results, Tryz.results96, go_sem]) rfl ⟨rfl, ?_⟩
      exact ((Below.refl _ w).alloc (Nat.le_refl _) _).alloc (by simp) _
def shortP (p : PartR) : Bool := decide (p.name.size ≤ 100)
def shortQ (p : PortR) : Bool := decide (p.name.size ≤ 100)
end Go.Proofs.YtdpieljopelkhaaGreatDoor
