/- uniq.New, (*Index).Partition (chapter 13). -/
import Derived.Test.YthccadabblkalaaUqNew
import Derived.Test.YthccadabblkalaaFrRef3
import Derived.StillTailTactics
namespace Go.Proofs.Ythccadabblkalaa
open Go.RowKit Go.Sort Go.Maps Go.ChangeShapes Go.WideShapes Go.Joins
set_option linter.unusedVariables false

theorem grown_of_but {b : Nat} {W W' : World} (h : But (fun i => i = b) W W') : W.grownBy W' (some b) := ⟨h.os, h.tape, h.output, h.size, fun k hk hne => h.block k hk (fun e => hne (by rw [e]))⟩
theorem MapU.lt {ids : List Nat} {b : Nat} {W : World} (h : MapU ids b W) : b < W.heap.size := by obtain ⟨D, h, _⟩ := h; exact h.lt
theorem MapU.but {ids : List Nat} {b b' : Nat} {W W' : World} (h : MapU ids b W) (hb : But (fun i => i = b') W W') (hne : b ≠ b') : MapU ids b W' := h.kept (grown_of_but hb) (fun e => hne (by injection e))
theorem MapN.but {n b b' : Nat} {W W' : World} (h : MapN n b W) (hb : But (fun i => i = b') W W') (hne : b ≠ b') : MapN n b W' := h.kept (grown_of_but hb) (fun e => hne (by injection e))
theorem MapU.drew {ids : List Nat} {b : Nat} {W : World} (h : MapU ids b W) : MapU ids b W.drew := h
/-- An index of identifiers. -/
def IdxAt (ids : List Nat) (g : Nat) (W : World) : Prop := ∃ b1 b2 b3 b4, Blk W g 86 #[.map (some b1), .map (some b2), .map (some b3), .map (some b4)] ∧ MapU ids b1 W
theorem IdxAt.below {ids : List Nat} {g : Nat} {W W' : World} (h : IdxAt ids g W) (hb : Below W.heap.size W W') : IdxAt ids g W' := by
  obtain ⟨b1, b2, b3, b4, h1, h2⟩ := h
  exact ⟨b1, b2, b3, b4, h1.below hb h1.lt, h2.kept (grown_of_below hb none) (by simp)⟩
/-- The state of New: the box, the index, the four maps. -/
structure NewE (w : World) (c : Cfg) (ps : List Nat) (W : World) : Prop where
  bx : Boxed1 w c W
  ix : Blk W (w.heap.size + 5) 86 #[.map (some (w.heap.size + 1)), .map (some (w.heap.size + 2)), .map (some (w.heap.size + 3)), .map (some (w.heap.size + 4))]
  mp : MapU ps (w.heap.size + 1) W
theorem NewE.but {w : World} {c : Cfg} {ps : List Nat} {W W' : World} {b : Nat} (h : NewE w c ps W) (hb : But (fun i => i = b) W W') (h0 : w.heap.size + 1 < b) (h5 : b ≠ w.heap.size + 5) : NewE w c ps W' :=
  ⟨⟨h.bx.1.trans (hb.below h.bx.1.size (fun k hk e => by omega)), hb.blk h.bx.2 (by omega)⟩, hb.blk h.ix (fun e => h5 e.symm), h.mp.but hb (by omega)⟩
theorem NewE.drew {w : World} {c : Cfg} {ps : List Nat} {W : World} (h : NewE w c ps W) : NewE w c ps W.drew := ⟨⟨h.bx.1.drew, h.bx.2⟩, h.ix, h.mp⟩
theorem NewE.cells {w : World} {c : Cfg} {ps : List Nat} {W : World} (h : NewE w c ps W) :
    W.cell? ⟨w.heap.size, 1, none⟩ = some (.slice c.parts.a c.parts.l.length c.parts.c) ∧ W.cell? ⟨w.heap.size, 4, none⟩ = some (.slice c.ports.a c.ports.l.length c.ports.c) ∧ W.cell? ⟨w.heap.size, 5, none⟩ = some (.slice c.chans.a c.chans.l.length c.chans.c) ∧
    W.cell? ⟨w.heap.size + 5, 0, none⟩ = some (.map (some (w.heap.size + 1))) ∧ W.cell? ⟨w.heap.size + 5, 1, none⟩ = some (.map (some (w.heap.size + 2))) ∧ W.cell? ⟨w.heap.size + 5, 2, none⟩ = some (.map (some (w.heap.size + 3))) ∧ W.cell? ⟨w.heap.size + 5, 3, none⟩ = some (.map (some (w.heap.size + 4))) :=
  ⟨h.bx.2.cell 1, h.bx.2.cell 4, h.bx.2.cell 5, h.ix.cell 0, h.ix.cell 1, h.ix.cell 2, h.ix.cell 3⟩
theorem newE_start (c : Cfg) (w : World) : NewE w c [] ((((((w.alloc (.cells (cfgC c) 29)).alloc (.map #[] 0)).alloc (.map #[] 0)).alloc (.map #[] 0)).alloc (.map #[] 0)).alloc (.cells #[.map (some (w.heap.size + 1)), .map (some (w.heap.size + 2)), .map (some (w.heap.size + 3)), .map (some (w.heap.size + 4))] 86)) ∧ MapU [] (w.heap.size + 2) ((((((w.alloc (.cells (cfgC c) 29)).alloc (.map #[] 0)).alloc (.map #[] 0)).alloc (.map #[] 0)).alloc (.map #[] 0)).alloc (.cells #[.map (some (w.heap.size + 1)), .map (some (w.heap.size + 2)), .map (some (w.heap.size + 3)), .map (some (w.heap.size + 4))] 86)) ∧ MapU [] (w.heap.size + 3) ((((((w.alloc (.cells (cfgC c) 29)).alloc (.map #[] 0)).alloc (.map #[] 0)).alloc (.map #[] 0)).alloc (.map #[] 0)).alloc (.cells #[.map (some (w.heap.size + 1)), .map (some (w.heap.size + 2)), .map (some (w.heap.size + 3)), .map (some (w.heap.size + 4))] 86)) ∧ MapN 0 (w.heap.size + 4) ((((((w.alloc (.cells (cfgC c) 29)).alloc (.map #[] 0)).alloc (.map #[] 0)).alloc (.map #[] 0)).alloc (.map #[] 0)).alloc (.cells #[.map (some (w.heap.size + 1)), .map (some (w.heap.size + 2)), .map (some (w.heap.size + 3)), .map (some (w.heap.size + 4))] 86)) := by
  have h1 := MapU.made (w.alloc (.cells (cfgC c) 29))
  have h2 := MapU.made ((w.alloc (.cells (cfgC c) 29)).alloc (.map #[] 0))
  have h3 := MapU.made (((w.alloc (.cells (cfgC c) 29)).alloc (.map #[] 0)).alloc (.map #[] 0))
  have h4 := MapN.made ((((w.alloc (.cells (cfgC c) 29)).alloc (.map #[] 0)).alloc (.map #[] 0)).alloc (.map #[] 0))
  have h5 := Blk.new (((((w.alloc (.cells (cfgC c) 29)).alloc (.map #[] 0)).alloc (.map #[] 0)).alloc (.map #[] 0)).alloc (.map #[] 0)) 86 #[.map (some (w.heap.size + 1)), .map (some (w.heap.size + 2)), .map (some (w.heap.size + 3)), .map (some (w.heap.size + 4))]
  simp only [World.size_alloc, Nat.add_assoc, Nat.reduceAdd] at h1 h2 h3 h4 h5
  exact ⟨⟨((((((Boxed1.start w c).alloc _).alloc _).alloc _).alloc _).alloc _), h5, (((h1.alloc _).alloc _).alloc _).alloc _⟩, ((h2.alloc _).alloc _).alloc _, (h3.alloc _).alloc _, h4.alloc _⟩
set_option maxRecDepth 100000 in
set_option maxHeartbeats 8000000 in
theorem New_calls (c : Cfg) (w : World) (h : CfgAt w.heap.size c w) (hok : c.Ok) (hsm : c.Small) :
    Calls Try.prog 24 #[cfgV c] w fun e w' => ∃ g, e = .returned (.pointer (some ⟨g, 0, none⟩)) ∧ IdxAt (ids c.parts.l) g w' ∧ Below w.heap.size w w' := by
  unfold Cfg.Small at hsm
  have HP := hide (fun W (hW : NewE w c [] W) => collectP_calls w.heap.size (w.heap.size + 1) c.parts W (h.parts.below hW.bx.1) (by omega) hW.bx.1.size hW.mp (fun x hx => (hok.parts x hx).1) (by omega))
  have HQ := hide (fun W ps (hW : NewE w c ps W) hm => collectQ_calls w.heap.size (w.heap.size + 2) c.ports W (h.ports.below hW.bx.1) (by omega) hW.bx.1.size hm (fun x hx => (hok.ports x hx).1) (by omega))
  have HC := hide (fun W ps (hW : NewE w c ps W) hm => collectC_calls w.heap.size (w.heap.size + 3) c.chans W (h.chans.below hW.bx.1) (by omega) hW.bx.1.size hm (fun x hx => (hok.chans x hx).1) (by omega))
  have HN := hide (fun W ps (hW : NewE w c ps W) hm => collectN_calls w.heap.size (w.heap.size + 4) c.ports W (h.ports.below hW.bx.1) (by omega) hW.bx.1.size hm (fun x hx => ⟨(hok.ports x hx).2.1, (hok.ports x hx).2.2.1⟩) (by omega))
  obtain ⟨hs0, hsq, hsc, hsn⟩ := newE_start c w
  have HE0 := hide hs0
  have HSQ0 := hide hsq
  have HSC0 := hide hsc
  have HSN0 := hide hsn
  have mixed := mixed_prog
  have hmm := @run_makeMap Try.prog
  clear h hok hsm hs0 hsq hsc hsn
  unfold cfgC at HE0 HSQ0 HSC0 HSN0
  unfold cfgV
  go_enter Try.func24, Try.ntmps24
  go_wp2_with fail
  simp only [Nat.add_assoc, Nat.reduceAdd]
  generalize ((((((w.alloc (.cells #[.int .u64 (c.frame : Int), .slice c.parts.a c.parts.l.length c.parts.c, .slice c.wins.a c.wins.l.length c.wins.c, .slice c.regs.a c.regs.l.length c.regs.c, .slice c.ports.a c.ports.l.length c.ports.c, .slice c.chans.a c.chans.l.length c.chans.c] 29)).alloc (.map #[] 0)).alloc (.map #[] 0)).alloc (.map #[] 0)).alloc (.map #[] 0)).alloc (.cells #[.map (some (w.heap.size + 1)), .map (some (w.heap.size + 2)), .map (some (w.heap.size + 3)), .map (some (w.heap.size + 4))] 86)) = W0 at *
  obtain ⟨b1, _, _, x0, _, _, _⟩ := HE0.out.cells
  go_still_tail 7, (by kernel_rfl)
  change wpList _ _ _ _ _ W0.drew
  have HE1 := hide HE0.out.drew
  have HQ1 : Hid (MapU [] (w.heap.size + 2) W0.drew) := HSQ0
  have HC1 : Hid (MapU [] (w.heap.size + 3) W0.drew) := HSC0
  have HN1 : Hid (MapN 0 (w.heap.size + 4) W0.drew) := HSN0
  clear HE0 HSQ0 HSC0 HSN0 b1 x0
  generalize W0.drew = W1 at *
  go_wp2_with (go_at_call 35; refine (HP.out _ HE1.out).mono ?_; rintro e W2 ⟨⟨v, rfl⟩, hm, hb⟩; have HE2 : Hid (NewE w c (ids c.parts.l) W2) := hide ⟨⟨HE1.out.bx.1.trans (hb.below HE1.out.bx.1.size (fun k hk e => by omega)), hb.blk HE1.out.bx.2 (by omega)⟩, hb.blk HE1.out.ix (by omega), hm⟩; have HQ2 := hide (HQ1.out.but hb (by omega)); have HC2 := hide (HC1.out.but hb (by omega)); have HN2 := hide (HN1.out.but hb (by omega)); clear hm hb)
  obtain ⟨_, b4, _, _, x1, _, _⟩ := HE2.out.cells
  go_still_tail 7, (by kernel_rfl)
  change wpList _ _ _ _ _ W2.drew
  have HE3 := hide HE2.out.drew
  have HQ3 : Hid (MapU [] (w.heap.size + 2) W2.drew) := HQ2
  have HC3 : Hid (MapU [] (w.heap.size + 3) W2.drew) := HC2
  have HN3 : Hid (MapN 0 (w.heap.size + 4) W2.drew) := HN2
  clear HE2 HQ2 HC2 HN2 b4 x1 HE1 HQ1 HC1 HN1
  generalize W2.drew = W3 at *
  go_wp2_with (go_at_call 38; refine (HQ.out _ _ HE3.out HQ3.out).mono ?_; rintro e W4 ⟨⟨v, rfl⟩, hm, hb⟩; have HE4 := hide (HE3.out.but hb (by omega) (by omega)); have HC4 := hide (HC3.out.but hb (by omega)); have HN4 := hide (HN3.out.but hb (by omega)); clear hm hb)
  obtain ⟨_, _, b5, _, _, x2, _⟩ := HE4.out.cells
  go_still_tail 7, (by kernel_rfl)
  change wpList _ _ _ _ _ W4.drew
  have HE5 := hide HE4.out.drew
  have HC5 : Hid (MapU [] (w.heap.size + 3) W4.drew) := HC4
  have HN5 : Hid (MapN 0 (w.heap.size + 4) W4.drew) := HN4
  clear HE4 HC4 HN4 b5 x2 HE3 HQ3 HC3 HN3
  generalize W4.drew = W5 at *
  go_wp2_with (go_at_call 40; refine (HC.out _ _ HE5.out HC5.out).mono ?_; rintro e W6 ⟨⟨v, rfl⟩, hm, hb⟩; have HE6 := hide (HE5.out.but hb (by omega) (by omega)); have HN6 := hide (HN5.out.but hb (by omega)); clear hm hb)
  obtain ⟨_, b4, _, _, _, _, x3⟩ := HE6.out.cells
  go_still_tail 7, (by kernel_rfl)
  change wpList _ _ _ _ _ W6.drew
  have HE7 := hide HE6.out.drew
  have HN7 : Hid (MapN 0 (w.heap.size + 4) W6.drew) := HN6
  clear HE6 HN6 b4 x3 HE5 HC5 HN5
  generalize W6.drew = W7 at *
  go_wp2_with (go_at_call 42; refine (HN.out _ _ HE7.out HN7.out).mono ?_; rintro e W8 ⟨⟨v, rfl⟩, hb⟩; have HE8 := hide (HE7.out.but hb (by omega) (by omega)); clear hb)
  go_ret
  exact ⟨_, rfl, ⟨_, _, _, _, HE8.out.ix, HE8.out.mp⟩, HE8.out.bx.1⟩
set_option maxRecDepth 100000 in
set_option maxHeartbeats 2000000 in
theorem IdxPart_calls (ps : List Nat) (g k : Nat) (W : World) (h : IdxAt ps g W) (hk : k < 65536) :
    Calls Try.prog 45 #[.pointer (some ⟨g, 0, none⟩), .int .u16 (k : Int)] W fun e w' => e = .returned (.int .i64 (idxId ps k)) ∧ w' = W := by
  obtain ⟨b1, b2, b3, b4, hg, hm⟩ := h
  have HF := hide (find_calls ps b1 k W hm hk)
  have x0 : W.cell? ⟨g, 0, none⟩ = some (.map (some b1)) := hg.cell 0
  generalize idxId ps k = r at *
  clear hg hm hk
  go_enter Try.func45, Try.ntmps45
  go_wp2_with (go_at_call 54; refine HF.out.mono ?_; rintro e w1 ⟨rfl, rfl⟩)
  go_ret
  exact ⟨rfl, rfl⟩
end Go.Proofs.Ythccadabblkalaa
