/- conf.Counts (chapter 05): XShLine's walk over BoxK. -/
import Derived.Test.YtdpieljopelkhaaGreatDoorMC5Less
import Derived.Test.YtdpieljopelkhaaGreatDoorMPost
import Derived.Laws.ResultCell
import Derived.Laws.Rows
import Derived.Laws.Tables
import Derived.BigGuardPart
namespace Go.Proofs.YtdpieljopelkhaaGreatDoor
open Go.RowKit Go.Lib Go.Sort
set_option linter.unusedVariables false

def cfgK (c : Cfg) : Array Value := #[.int .u64 (c.frame : Int), .slice c.parts.a c.parts.l.length c.parts.c, .slice c.wins.a c.wins.l.length c.wins.c, .slice c.regs.a c.regs.l.length c.regs.c, .slice c.ports.a c.ports.l.length c.ports.c, .slice c.chans.a c.chans.l.length c.chans.c]
theorem BoxK.alloc {w W : World} {c : Cfg} (h : BoxK w c W) (o : Obj) : BoxK w c (W.alloc o) := h.below ((Below.refl _ W).alloc (Nat.le_refl _) o)
theorem BoxK.cells {w W : World} {c : Cfg} (h : BoxK w c W) : W.cell? ⟨w.heap.size, 0, none⟩ = some (.int .u64 (c.frame : Int)) ∧ W.cell? ⟨w.heap.size, 1, none⟩ = some (.slice c.parts.a c.parts.l.length c.parts.c) ∧ W.cell? ⟨w.heap.size, 2, none⟩ = some (.slice c.wins.a c.wins.l.length c.wins.c) ∧ W.cell? ⟨w.heap.size, 3, none⟩ = some (.slice c.regs.a c.regs.l.length c.regs.c) ∧ W.cell? ⟨w.heap.size, 4, none⟩ = some (.slice c.ports.a c.ports.l.length c.ports.c) ∧ W.cell? ⟨w.heap.size, 5, none⟩ = some (.slice c.chans.a c.chans.l.length c.chans.c) :=
  ⟨h.2.cell 0, h.2.cell 1, h.2.cell 2, h.2.cell 3, h.2.cell 4, h.2.cell 5⟩
def cntCK (a b c d e f : Nat) : Array Value := #[.int .i64 0, .int .i64 (a : Int), .int .i64 (b : Int), .int .i64 (c : Int), .int .i64 (d : Int), .int .i64 (e : Int), .int .i64 (f : Int)]
def zero7K : Array Value := #[.int .i64 0, .int .i64 0, .int .i64 0, .int .i64 0, .int .i64 0, .int .i64 0, .int .i64 0]
theorem load_sevenK {w : World} {g : Nat} {cs : Array Value} (hg : Blk w g 87 cs) (hc : cs.size = 7) : (loadVar 87 ⟨g, 0, none⟩).run Tryz.prog w = .ok (.agg cs) w :=
  run_loadVar_row (P := Tryz.prog) w g 87 87 cs (0, 0) _ hg Tryz.underlying87 rfl (by rw [hc]; kernel_rfl)
theorem res_cell7K {fn : Func} {p : Tmp} {ty : TypeId} (h : fn.results = #[.cell p ty]) (tmps : Array Value) (w : World) (g : Nat) (cs : Array Value)
    (hp : tmps.getD p undef = .pointer (some ⟨g, 0, none⟩)) (hl : (loadVar ty ⟨g, 0, none⟩).run Tryz.prog w = .ok (.agg cs) w) :
    (results fn tmps).run Tryz.prog w = .ok (.agg cs) w := by
  have hp' : tmps[p]?.getD undef = .pointer (some ⟨g, 0, none⟩) := by simpa using hp
  simp [results, h, hp', asAddr, hl]
theorem seven_sizeK (n : Nat) (h : n = 7) : (Tryz.prog.info? 87).map (·.size) = some n := by rw [h]; kernel_rfl
theorem seven_oneK (a b c d e f : Nat) : (cntCK a b c d e f).all (·.oneCell') = true := by rw [← Array.all_toList]; rfl
def CtSK (w : World) (c : Cfg) (m : Nat) (W : World) : Prop := BoxK w c W ∧ Blk W (w.heap.size + 1) 87 zero7K ∧ Blk W (w.heap.size + 2) 87 (cntCK c.parts.l.length c.wins.l.length c.regs.l.length c.ports.l.length c.chans.l.length m)
theorem CtSK.alloc {w W : World} {c : Cfg} {m : Nat} (h : CtSK w c m W) (o : Obj) : CtSK w c m (W.alloc o) := ⟨h.1.alloc o, h.2.1.alloc o, h.2.2.alloc o⟩
theorem CtSK.set_ {w W : World} {c : Cfg} {m : Nat} (h : CtSK w c m W) (p : Nat) : CtSK w c p (W.setCell ⟨w.heap.size + 2, 6, none⟩ (.int .i64 (p : Int))) :=
  ⟨⟨h.1.1.setCell (p := ⟨w.heap.size + 2, 6, none⟩) (by simp) _, h.1.2.far (by simp) _⟩, h.2.1.far (by simp) _, h.2.2.set_ 6 _⟩
theorem CtSK.start (w : World) (c : Cfg) : CtSK w c 0 (((w.alloc (.cells (cfgK c) 30)).alloc (.cells zero7K 87)).alloc (.cells (cntCK c.parts.l.length c.wins.l.length c.regs.l.length c.ports.l.length c.chans.l.length 0) 87)) := by
  have h1 := Blk.new (w.alloc (.cells (cfgK c) 30)) 87 zero7K
  have h2 := Blk.new ((w.alloc (.cells (cfgK c) 30)).alloc (.cells zero7K 87)) 87 (cntCK c.parts.l.length c.wins.l.length c.regs.l.length c.ports.l.length c.chans.l.length 0)
  simp only [World.size_alloc, Nat.add_assoc, Nat.reduceAdd] at h1 h2
  exact ⟨((BoxK.start w c).alloc _).alloc _, h1.alloc _, h2⟩
set_option maxRecDepth 100000 in
set_option maxHeartbeats 4000000 in
theorem PCounts_callsK (c : Cfg) (w : World) (h : CfgAt w.heap.size c w) (hsm : c.Small) :
    Calls Tryz.prog 38 #[cfgV c] w fun e w' => e = .returned (countsV c) ∧ Below w.heap.size w w' := by
  have HCF := hide (fun W (hW : BoxK w c W) => BoxK.cfg h hW)
  have hcap := h.chans.2
  unfold Cfg.Small at hsm
  have HS0 := hide (CtSK.start w c)
  have HCE := hide (fun m W (hW : CtSK w c m W) => And.intro hW.1.cells (And.intro (hW.2.2.cell 6) (hW.2.2.frozen 6)))
  obtain ⟨n, hn⟩ : ∃ n, n = c.chans.l.length := ⟨_, rfl⟩
  obtain ⟨L, hL⟩ : ∃ L, L = linksN c.chans.l := ⟨_, rfl⟩
  obtain ⟨ca, hca⟩ : ∃ a, a = c.chans.a := ⟨_, rfl⟩
  have HN := hide hn
  have HL := hide hL
  have HCA := hide hca
  have hnI : (n : Int) ≤ 1048576 := by omega
  have hcI : (n : Int) ≤ (c.chans.c : Int) := by omega
  have hLI : (L : Int) ≤ 1048576 := by omega
  unfold cfgV countsV
  unfold cfgK zero7K cntCK at HS0
  unfold cntCK at HCE
  rw [← hn, ← hca] at HS0 HCE ⊢
  rw [← hL]
  clear h hsm hcap hn hL hca
  go_enter Tryz.func38, Tryz.ntmps38
  go_wp2
  simp only [Nat.add_assoc, Nat.reduceAdd]
  generalize ((w.alloc (.cells #[.int .u64 (c.frame : Int), .slice c.parts.a c.parts.l.length c.parts.c, .slice c.wins.a c.wins.l.length c.wins.c, .slice c.regs.a c.regs.l.length c.regs.c, .slice c.ports.a c.ports.l.length c.ports.c, .slice ca n c.chans.c] 30)).alloc (.cells #[.int .i64 0, .int .i64 0, .int .i64 0, .int .i64 0, .int .i64 0, .int .i64 0, .int .i64 0] 87)).alloc (.cells #[.int .i64 0, .int .i64 (c.parts.l.length : Int), .int .i64 (c.wins.l.length : Int), .int .i64 (c.regs.l.length : Int), .int .i64 (c.ports.l.length : Int), .int .i64 (n : Int), .int .i64 0] 87) = W0 at *
  go_loopw [25] (fun v wr => ∃ k m : Nat, k ≤ n ∧ m ≤ L ∧ v = .int .i64 (k : Int) ∧ Hid (m = linksN (c.chans.l.take k) ∧ CtSK w c m wr)) (fun v _ => n - (intOf v).toNat)
  case atStart => exact ⟨0, 0, Nat.zero_le _, Nat.zero_le _, rfl, hide ⟨rfl, HS0.out⟩⟩
  case round =>
    obtain ⟨k, m, hk, hm, rfl, hrel⟩ := hrel
    by_cases hlt : k < n
    · have hlt2 : (k : Int) < (n : Int) := by omega
      have hkl : k < c.chans.l.length := by have := HN.out; omega
      obtain ⟨b, o, ha, hab, x0, x1, x2⟩ := chan_at (HCF.out wr hrel.out.2.1).chans k hkl
      obtain rfl : ca = some ⟨b, o, none⟩ := HCA.out.trans ha
      have hst := links_take c.chans.l k hkl
      rw [← hrel.out.1] at hst
      have hle := links_le c.chans.l (k + 1)
      rw [← HL.out, hst] at hle
      have hdm : c.chans.l[k].dests.length ≤ 1048576 := by omega
      obtain ⟨⟨b0, b1, b2, b3, b4, b5⟩, n6, f6⟩ := HCE.out m wr hrel.out.2
      have hbw : b < wr.heap.size := cell_lt x0
      have HST := hide hst
      have HRL : Hid (∀ o, CtSK w c (m + c.chans.l[k].dests.length) ((wr.setCell ⟨w.heap.size + 2, 6, none⟩ (.int .i64 ((m : Int) + (c.chans.l[k].dests.length : Int)))).alloc o)) := hide (fun o => by
        have h9 := (hrel.out.2.set_ (m + c.chans.l[k].dests.length)).alloc o
        rw [Int.natCast_add] at h9
        exact h9)
      have hz2 : w.heap.size + 2 < wr.heap.size := hrel.out.2.2.2.lt
      clear hst hrel ha
      generalize c.chans.l[k] = x at *
      obtain ⟨id, src, dl, da, dc⟩ := x
      simp only at x0 x1 x2 hle hdm HST HRL
      generalize dl.length = d at *
      go_wp2
      go_roundw
      case rel => exact ⟨k + 1, m + d, by omega, by omega, by go_num, hide ⟨HST.out.symm, HRL.out _⟩⟩
      case measure => simp [intOf]; omega
    · obtain rfl : k = n := by omega
      have hmL : m = L := by rw [hrel.out.1, HL.out, List.take_of_length_le (by rw [HN.out]; exact Nat.le_refl _)]
      have HF := hide hrel.out.2
      clear hrel hlt hk hm
      subst hmL
      go_wp2_with (first
        | (refine wpList_load_row rfl 87 (.tmp 3) rfl (w.heap.size + 2) rfl 87 (cntCK c.parts.l.length c.wins.l.length c.regs.l.length c.ports.l.length c.chans.l.length m) (0, 0) _ HF.out.2.2 Tryz.underlying87 rfl (seven_sizeK _ rfl) ?_)
        | (refine wpList_store_row rfl 87 (.tmp 2) (.tmp 37) rfl (w.heap.size + 1) (cntCK c.parts.l.length c.wins.l.length c.regs.l.length c.ports.l.length c.chans.l.length m) rfl rfl 87 zero7K HF.out.2.1 (seven_sizeK _ rfl) rfl (seven_oneK _ _ _ _ _ _) ?_))
      refine bodyPost_ret (res_cell7K (p := 2) rfl _ _ (w.heap.size + 1) _ rfl (load_sevenK (setRow_heap _ _ _ _ _ (0, 0) HF.out.2.1) rfl)) rfl ⟨?_, ?_⟩
      · rw [HN.out]; rfl
      · exact ⟨HF.out.1.1.os, HF.out.1.1.tape, HF.out.1.1.output, Nat.le_trans HF.out.1.1.size (by simp [World.setRow]), fun i hi => (setRow_other _ _ i _ (by omega)).trans (HF.out.1.1.block i hi)⟩
end Go.Proofs.YtdpieljopelkhaaGreatDoor
