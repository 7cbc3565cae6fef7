/- The windows in another order: plain laws; the boxes of the law FrameOrder (chapter 15). -/
import Derived.Test.YthccadabblkalaaGreatFrRIdle
import Derived.Test.YthccadabblkalaaGreatFrSort
import Derived.Test.YthccadabblkalaaGreatFrOrder
import Derived.Test.YthccadabblkalaaGreatFrEq
import Derived.Test.YthccadabblkalaaGreatSdRight
namespace Go.Proofs.YthccadabblkalaaGreat
open Go.RowKit Go.Sort
set_option linter.unusedVariables false

/-- The configuration with other windows. -/
def withW (c : Cfg) (l : List WinR) (a : Option Addr) (cap : Nat) : Cfg := { c with wins := ⟨l, a, cap⟩ }
theorem withW_right {c : Cfg} (h : rightB c = true) {l : List WinR} (hp : l.Perm c.wins.l) (a : Option Addr) (cap : Nat) : rightB (withW c l a cap) = true ∧ checkR (withW c l a cap) = (0, 0, 0) := by
  obtain ⟨hf0, hcode, hov, _⟩ := right_all h
  have hall : ∀ x ∈ (withW c l a cap).wins.l, winCode (withW c l a cap) x = 0 := fun x hx => hcode x (hp.subset hx)
  have hpw : c.wins.l.Pairwise fun x y => meetB (wsp x) (wsp y) = false := by
    rw [List.pairwise_iff_getElem]
    intro i j hi hj hij
    cases hm : meetB (wsp c.wins.l[i]) (wsp c.wins.l[j]) with
    | false => rfl
    | true =>
      have hv := overAt_yes hj hij hm
      unfold firstOver at hov
      exact absurd hv (List.find?_eq_none.1 hov j (by simpa using hj))
  have hpl : l.Pairwise fun x y => meetB (wsp x) (wsp y) = false := (List.Perm.pairwise_iff (fun {x y} hxy => by unfold meetB at hxy ⊢; rw [Bool.or_comm]; exact hxy) hp).2 hpw
  have hfirst : firstOver l = none := firstOver_none (fun j hj => overAt_no hj (fun i hi => List.pairwise_iff_getElem.1 hpl i j (by omega) hj hi))
  have hc : checkR (withW c l a cap) = (0, 0, 0) := by
    unfold checkR
    rw [if_neg (by exact hf0), badAt_none hall]
    show (match firstOver l with | some j => (21, 2, j) | none => (0, 0, 0)) = _
    rw [hfirst]
  refine ⟨?_, hc⟩
  unfold rightB at h ⊢
  rw [hc]
  have hl : l.length = c.wins.l.length := hp.length_eq
  simp only [Bool.and_eq_true, decide_eq_true_eq, and_true] at h ⊢
  have h1 := h.1
  unfold fewB sumN at h1 ⊢
  simp only [withW, hl]
  exact h1
theorem withW_back {c : Cfg} {l : List WinR} (hp : l.Perm c.wins.l) (a : Option Addr) (cap : Nat) (h : rightB (withW c l a cap) = true) : rightB c = true :=
  (withW_right h (l := c.wins.l) hp.symm c.wins.a c.wins.c).1
theorem withW_few {c : Cfg} {l : List WinR} (hp : l.Perm c.wins.l) {a : Option Addr} {cap : Nat} : fewB (withW c l a cap) = fewB c := by
  have hl : l.length = c.wins.l.length := hp.length_eq
  unfold fewB sumN
  simp only [withW, hl]
theorem gaps_perm {c : Cfg} (h : rightB c = true) {l : List WinR} (hp : l.Perm c.wins.l) : gapsR c.frame (l.map wsp) = gapsR c.frame (c.wins.l.map wsp) := by
  have hsp := wins_span h
  obtain ⟨a1, a3⟩ := gapsR_spec c.frame (l.map wsp) (fun s hs => (hsp s ((hp.map wsp).subset hs)).1)
  obtain ⟨b1, b3⟩ := gapsR_spec c.frame (c.wins.l.map wsp) (fun s hs => (hsp s hs).1)
  refine apart_unique _ _ a1 b1 fun t => ?_
  rw [a3, b3]
  have : covL (l.map wsp) t ↔ covL (c.wins.l.map wsp) t := ⟨fun ⟨s, hs, x⟩ => ⟨s, (hp.map wsp).subset hs, x⟩, fun ⟨s, hs, x⟩ => ⟨s, (hp.map wsp).symm.subset hs, x⟩⟩
  rw [this]
theorem withW_at {c : Cfg} {W : World} {B : Nat} {l : List WinR} {a : Option Addr} {cap : Nat} (h : CfgAt B c W) (hr : RowAt winL 3 B ⟨l, a, cap⟩ W) : CfgAt B (withW c l a cap) W :=
  { parts := h.parts, wins := hr, regs := h.regs, ports := h.ports, chans := h.chans, dests := h.dests }
theorem withW_ok {c : Cfg} {l : List WinR} {a : Option Addr} {cap : Nat} (h : c.Ok) (hp : l.Perm c.wins.l) : (withW c l a cap).Ok := by
  exact ⟨h.frame, h.parts, fun y hy => h.wins y (hp.subset hy), h.regs, h.ports, h.chans⟩
theorem withW_small {c : Cfg} {l : List WinR} {a : Option Addr} {cap : Nat} (h : c.Small) (hp : l.Perm c.wins.l) : (withW c l a cap).Small := by
  have hl : l.length = c.wins.l.length := hp.length_eq
  unfold Cfg.Small at h ⊢
  simp only [withW, hl]
  exact h
theorem own_rowat {W : World} {base n cap : Nat} {a : Option Addr} {l : List WinR} (h : W.ownsRow base 36 3 (.slice a n cap) n (l.flatMap winL)) (hl : l.length = n) : RowAt winL 3 W.heap.size ⟨l, a, cap⟩ W := by
  subst hl
  have hm : cap ≤ 9223372036854775807 := by
    rcases h.2 with ⟨hv, _⟩ | ⟨g, cap, cur, hv, _, _, _, h2, _⟩
    · injection hv with _ _ e3
      omega
    · injection hv with _ _ e3
      simp only [maxLen] at h2
      omega
  exact ⟨Reads.of_own h, own_cap h, hm⟩
theorem own_far {w : World} {base n : Nat} {e : TypeId} {size : Nat} {v : Value} {xs : List Value} (h : w.ownsRow base e size v n xs) {p : Addr} (hp : p.block < base) (u : Value) : (w.setCell p u).ownsRow base e size v n xs := by
  refine ⟨h.1, ?_⟩
  rcases h.2 with h0 | ⟨g, cap, cur, hv, hg, hh, h1⟩
  · exact .inl h0
  · exact .inr ⟨g, cap, cur, hv, hg, (Below.heap_setCell w p u g (by omega)).trans hh, h1⟩
/-- Two configurations in their boxes. -/
def BoxD (w : World) (c d : Cfg) (n : Nat) (W : World) : Prop := Boxed1 w c W ∧ Blk W n 29 (cfgC d) ∧ CfgAt W.heap.size d W
section
variable {w W W' : World} {c d : Cfg} {n : Nat}
theorem BoxD.below (h : BoxD w c d n W) (hb : Below W.heap.size W W') : BoxD w c d n W' := ⟨h.1.below hb, h.2.1.below hb h.2.1.lt, CfgAt.more (h.2.2.below hb) hb.size⟩
theorem BoxD.box1 (h : BoxD w c d n W) : Boxed1 w c W := h.1
theorem BoxD.drew (h : BoxD w c d n W) : BoxD w c d n W.drew := h.below (Below.refl _ _).drew
theorem BoxD.cells (h : BoxD w c d n W) : W.cell? ⟨w.heap.size, 0, none⟩ = some (.int .u64 (c.frame : Int)) ∧ W.cell? ⟨w.heap.size, 1, none⟩ = some (.slice c.parts.a c.parts.l.length c.parts.c) ∧ W.cell? ⟨w.heap.size, 2, none⟩ = some (.slice c.wins.a c.wins.l.length c.wins.c) ∧ W.cell? ⟨w.heap.size, 3, none⟩ = some (.slice c.regs.a c.regs.l.length c.regs.c) ∧ W.cell? ⟨w.heap.size, 4, none⟩ = some (.slice c.ports.a c.ports.l.length c.ports.c) ∧ W.cell? ⟨w.heap.size, 5, none⟩ = some (.slice c.chans.a c.chans.l.length c.chans.c) ∧
    W.cell? ⟨n, 0, none⟩ = some (.int .u64 (d.frame : Int)) ∧ W.cell? ⟨n, 1, none⟩ = some (.slice d.parts.a d.parts.l.length d.parts.c) ∧ W.cell? ⟨n, 2, none⟩ = some (.slice d.wins.a d.wins.l.length d.wins.c) ∧ W.cell? ⟨n, 3, none⟩ = some (.slice d.regs.a d.regs.l.length d.regs.c) ∧ W.cell? ⟨n, 4, none⟩ = some (.slice d.ports.a d.ports.l.length d.ports.c) ∧ W.cell? ⟨n, 5, none⟩ = some (.slice d.chans.a d.chans.l.length d.chans.c) ∧ BoxD w c d n W := by
  obtain ⟨k0, k1, k2, k3, k4, k5⟩ := h.1.cells
  exact ⟨k0, k1, k2, k3, k4, k5, h.2.1.cell 0, h.2.1.cell 1, h.2.1.cell 2, h.2.1.cell 3, h.2.1.cell 4, h.2.1.cell 5, h⟩
end
theorem boxd_start {w w1 w4 w6 : World} {c : Cfg} {l : List WinR} {a : Option Addr} {cap len : Nat} (h : CfgAt w.heap.size c w) (hb1 : Boxed1 w c w1)
    (hg : ((w1.alloc (.cells (cfgC c) 29)).alloc (.cells #[] 36)).grownBy w4 (some (w1.heap.size + 1))) (hl : l.length = len) (hlc : len = c.wins.l.length)
    (ho : w6.ownsRow (w1.heap.size + 1) 36 3 (.slice a len cap) len (l.flatMap winL)) (hbut : But (fun k => (Value.slice a len cap).ownBlock = some k) (w4.setCell ⟨w1.heap.size, 2, none⟩ (.slice a len cap)) w6) : BoxD w c (withW c l a cap) w1.heap.size w6 := by
  have hz := hb1.2.lt
  have k1 := (Blk.new w1 29 (cfgC c)).alloc (.cells #[] 36)
  have k4 := k1.grown hg (fun e => by injection e with e; omega)
  have k5 := k4.set_ 2 (.slice a len cap)
  have hown : ∀ k, (Value.slice a len cap).ownBlock = some k → w1.heap.size + 1 ≤ k := fun k hk => (own_block ho k hk).1
  have k6 := hbut.blk k5 (fun hk => by have := hown _ hk; omega)
  have b4 : Below w.heap.size w w4 := ((hb1.1.alloc hb1.1.size (.cells (cfgC c) 29)).alloc (by have := hb1.1.size; simp; omega) (.cells #[] 36)).grown hg (by have := hb1.1.size; simp; omega) (fun r e => by injection e with e; omega)
  have b5 := b4.setCell (p := ⟨w1.heap.size, 2, none⟩) (by show w.heap.size ≤ w1.heap.size; omega) (.slice a len cap)
  have b6 := b5.trans (hbut.below b5.size (fun k hk e => by have := hown k e; omega))
  have c4 := ((hb1.2.alloc (.cells (cfgC c) 29)).alloc (.cells #[] 36)).grown hg (fun e => by injection e with e; omega)
  have c6 := hbut.blk (c4.far (p := ⟨w1.heap.size, 2, none⟩) (by show w.heap.size ≠ w1.heap.size; omega) (.slice a len cap)) (fun hk => by have := hown _ hk; omega)
  have hB : Boxed1 w c w6 := ⟨b6, c6⟩
  refine ⟨hB, ?_, withW_at (hB.cfg h) (own_rowat ho hl)⟩
  unfold cfgC at k6 ⊢
  simp only [withW]
  rw [hl]
  simpa using k6
theorem few_len {c : Cfg} (h : fewB c = true) : c.wins.l.length ≤ 120 := by
  unfold fewB at h
  simp only [Bool.and_eq_true, decide_eq_true_eq] at h
  have := h.2
  unfold sumN at this
  omega
end Go.Proofs.YthccadabblkalaaGreat
