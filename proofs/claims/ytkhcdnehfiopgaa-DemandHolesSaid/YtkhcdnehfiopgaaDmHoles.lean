/- The walk of the law DemandHoles (chapter 16). -/
import Derived.Test.YtkhcdnehfiopgaaDmLawG
import Derived.Test.YtkhcdnehfiopgaaDmLoad
import Derived.BigQuiet
namespace Go.Proofs.Ytkhcdnehfiopgaa
open Go.RowKit Go.Sort
set_option linter.unusedVariables false

/-- The config of the call's own in memory. -/
def HlW (w : World) (F P : Nat) (lw : List WinR) (aW : Option Addr) (cw : Nat) (W : World) : Prop :=
  Below w.heap.size w W ∧ Blk W (w.heap.size + 1) 40 (partC (hlX P)) ∧ Blk W (w.heap.size + 2) 29 (cfgC (hlC F P lw (some ⟨w.heap.size + 1, 0, none⟩) aW cw)) ∧ W.ownsRow (w.heap.size + 3) 49 3 (.slice aW lw.length cw) lw.length (lw.flatMap winL)
section
variable {w W W1 W' : World} {F P : Nat} {lw : List WinR} {aW : Option Addr} {cw : Nat}
theorem HlW.below (h : HlW w F P lw aW cw W) (hb : Below W.heap.size W W') : HlW w F P lw aW cw W' :=
  ⟨h.1.trans (hb.mono h.1.size), h.2.1.below hb h.2.1.lt, h.2.2.1.below hb h.2.2.1.lt, own_below h.2.2.2 hb⟩
theorem HlW.cfg (h : HlW w F P lw aW cw W) : CfgAt W.heap.size (hlC F P lw (some ⟨w.heap.size + 1, 0, none⟩) aW cw) W :=
  ⟨⟨reads_blkD h.2.1 h.2.1.lt rfl rfl, by simp [hlC], by simp [hlC]⟩, row_own h.2.2.2, nil_rowD, nil_rowD, nil_rowD, fun x hx => by simp [hlC] at hx⟩
theorem HlW.cells (h : HlW w F P lw aW cw W) : W.cell? ⟨w.heap.size + 2, 0, none⟩ = some (.int .u64 (F : Int)) ∧ W.cell? ⟨w.heap.size + 2, 1, none⟩ = some (.slice (some ⟨w.heap.size + 1, 0, none⟩) 1 1) ∧ W.cell? ⟨w.heap.size + 2, 2, none⟩ = some (.slice aW lw.length cw) ∧ W.cell? ⟨w.heap.size + 2, 3, none⟩ = some (.slice none 0 0) ∧ W.cell? ⟨w.heap.size + 2, 4, none⟩ = some (.slice none 0 0) ∧ W.cell? ⟨w.heap.size + 2, 5, none⟩ = some (.slice none 0 0) :=
  ⟨h.2.2.1.cell 0, h.2.2.1.cell 1, h.2.2.1.cell 2, h.2.2.1.cell 3, h.2.2.1.cell 4, h.2.2.1.cell 5⟩
theorem HlW.cells2 (h : HlW w F P lw aW cw W) {L : Nat} (hL : L = lw.length) : W.cell? ⟨w.heap.size + 1 + 1, 0, none⟩ = some (.int .u64 (F : Int)) ∧ W.cell? ⟨w.heap.size + 1 + 1, 1, none⟩ = some (.slice (some ⟨w.heap.size + 1, 0, none⟩) 1 1) ∧ W.cell? ⟨w.heap.size + 1 + 1, 2, none⟩ = some (.slice aW L cw) ∧ W.cell? ⟨w.heap.size + 1 + 1, 3, none⟩ = some (.slice none 0 0) ∧ W.cell? ⟨w.heap.size + 1 + 1, 4, none⟩ = some (.slice none 0 0) ∧ W.cell? ⟨w.heap.size + 1 + 1, 5, none⟩ = some (.slice none 0 0) := by
  subst hL; exact h.cells
theorem HlW.start {w W : World} (hb : Below w.heap.size w W) (hs : W.heap.size = w.heap.size + 1) (F P : Nat) : HlW w F P [] none 0 ((W.alloc (.cells (partC (hlX P)) 40)).alloc (.cells (cfgC (hlC F P [] (some ⟨w.heap.size + 1, 0, none⟩) none 0)) 29)) := by
  have h1 := (Blk.new W 40 (partC (hlX P))).alloc (.cells (cfgC (hlC F P [] (some ⟨w.heap.size + 1, 0, none⟩) none 0)) 29)
  have h2 := Blk.new (W.alloc (.cells (partC (hlX P)) 40)) 29 (cfgC (hlC F P [] (some ⟨w.heap.size + 1, 0, none⟩) none 0))
  simp only [World.size_alloc, hs] at h1 h2
  exact ⟨(hb.alloc hb.size _).alloc (by simp; omega) _, h1, h2, World.ownsRow_nil _ _ _ _⟩
/-- A window is appended. -/
theorem HlW.put (h : HlW w F P lw aW cw W) (y : WinR) (t : TypeId) (cs : Array Value) {a4 : Option Addr} {c4 : Nat} (ho : W1.ownsRow (w.heap.size + 3) 49 3 (.slice a4 (lw.length + 1) c4) (lw.length + 1) (lw.flatMap winL ++ winL y))
    (hg : (W.alloc (.cells cs t)).grownBy W1 (Value.ownBlock (.slice aW lw.length cw))) : HlW w F P (lw ++ [y]) a4 c4 (W1.setCell ⟨w.heap.size + 2, 2, none⟩ (.slice a4 (lw.length + 1) c4)) := by
  have hsz := h.1.size
  have hof : ∀ k, Value.ownBlock (.slice aW lw.length cw) = some k → w.heap.size + 3 ≤ k := fun k hk => (own_block h.2.2.2 k hk).1
  have h1 : Below w.heap.size w W1 := Below.grown (h.1.alloc hsz _) hg (by simp; omega) (fun r hr => by have := hof r hr; omega)
  have h2 := Blk.grown (h.2.1.alloc (.cells cs t)) hg (fun e => by have := hof _ e.symm; omega)
  have h3 := Blk.grown (h.2.2.1.alloc (.cells cs t)) hg (fun e => by have := hof _ e.symm; omega)
  have hl : (lw ++ [y]).length = lw.length + 1 := by simp
  refine ⟨h1.setCell (p := ⟨w.heap.size + 2, 2, none⟩) (by simp) _, h2.far (p := ⟨w.heap.size + 2, 2, none⟩) (by simp) _, ?_, ?_⟩
  · have h4 := h3.set_ 2 (.slice a4 (lw.length + 1) c4)
    have e : (cfgC (hlC F P lw (some ⟨w.heap.size + 1, 0, none⟩) aW cw)).setIfInBounds 2 (.slice a4 (lw.length + 1) c4) = cfgC (hlC F P (lw ++ [y]) (some ⟨w.heap.size + 1, 0, none⟩) a4 c4) := by
      show _ = #[.int .u64 (F : Int), .slice (some ⟨w.heap.size + 1, 0, none⟩) 1 1, Value.slice a4 (lw ++ [y]).length c4, .slice none 0 0, .slice none 0 0, .slice none 0 0]
      rw [hl]; rfl
    rw [e] at h4
    exact h4
  · rw [hl, List.flatMap_append, List.flatMap_singleton]
    exact own_but ho ((But.refl (fun k => k = w.heap.size + 2) W1).setCell (p := ⟨w.heap.size + 2, 2, none⟩) (.inl rfl) _) (fun k hk e => by have := (own_block ho k hk).1; omega)
end
theorem reads_winH (w : World) (y : WinR) (t : TypeId) : Reads (w.alloc (.cells #[.int .u64 (y.st : Int), .int .u64 (y.len : Int), .int .u16 (y.part : Int)] t)) (w.heap.size + 1) 3 (some ⟨w.heap.size, 0, none⟩) 1 (winL y) :=
  reads_blkD (Blk.new w t _) (Nat.lt_succ_self _) rfl rfl
theorem winL_oneH (y : WinR) : ∀ u ∈ winL y, u.oneCell' = true := fun u hu => wn_one y u hu
section
variable {w W : World} {F P C h e : Nat} {a : Option Addr} {c : Nat}
theorem hl_short (hF : F = C * P) (hP : 0 < P) (he : h < e) (heF : e ≤ F) (hFl : F < 18446744073709551616) (hPl : P < 18446744073709551616) {L : Nat} (hL : L = (holeL F h e 1).length) (hW : HlW w F P (holeL F h e 1) a c W) :
    Calls Try.prog 14 #[.agg #[.int .u64 (F : Int), .slice (some ⟨w.heap.size + 1, 0, none⟩) 1 1, .slice a L c, .slice none 0 0, .slice none 0 0, .slice none 0 0], .int .i64 0] W fun e w' => e = .returned (.tuple #[.int .u64 ((h / P : Nat) : Int), .bool true]) ∧ Below W.heap.size W w' := by
  have := DShort_calls (hlC F P (holeL F h e 1) (some ⟨w.heap.size + 1, 0, none⟩) a c) 0 W hW.cfg (hl_ok he heF hFl hPl) hl_small (hl_right he heF hFl) (by show 0 < 1; decide) (by show divB P F = true; rw [hF]; exact hl_div hP)
  have hn := (hl_nums (aP := some ⟨w.heap.size + 1, 0, none⟩) (aW := a) (cw := c) (cnt := C) hP he (by omega) (by omega) hPl).1
  rw [← hF] at hn
  rw [show shortR (hlC F P (holeL F h e 1) (some ⟨w.heap.size + 1, 0, none⟩) a c) ((hlC F P (holeL F h e 1) (some ⟨w.heap.size + 1, 0, none⟩) a c).parts.l[0]'(by show 0 < 1; decide)) = some (h / P) from hn] at this
  rw [hL]
  exact this
theorem hl_least (hF : F = C * P) (hP : 0 < P) (he : h < e) (heF : e ≤ F) (hFl : F < 18446744073709551616) (hPl : P < 18446744073709551616) {L : Nat} (hL : L = (holeL F h e 1).length) (hW : HlW w F P (holeL F h e 1) a c W) :
    Calls Try.prog 16 #[.agg #[.int .u64 (F : Int), .slice (some ⟨w.heap.size + 1, 0, none⟩) 1 1, .slice a L c, .slice none 0 0, .slice none 0 0, .slice none 0 0], .int .i64 0] W fun e' w' => e' = .returned (.int .u64 ((leastN P C (inN P (holeL F h e 1)) : Nat) : Int)) ∧ Below W.heap.size W w' := by
  have := DLeast_calls (hlC F P (holeL F h e 1) (some ⟨w.heap.size + 1, 0, none⟩) a c) 0 W hW.cfg (hl_ok he heF hFl hPl) hl_small (hl_right he heF hFl) (by show 0 < 1; decide) (by show divB P F = true; rw [hF]; exact hl_div hP)
  have hn := (hl_nums (aP := some ⟨w.heap.size + 1, 0, none⟩) (aW := a) (cw := c) (cnt := C) hP he (by omega) (by omega) hPl).2
  rw [← hF] at hn
  rw [show leastR (hlC F P (holeL F h e 1) (some ⟨w.heap.size + 1, 0, none⟩) a c) ((hlC F P (holeL F h e 1) (some ⟨w.heap.size + 1, 0, none⟩) a c).parts.l[0]'(by show 0 < 1; decide)) = leastN P C (inN P (holeL F h e 1)) from hn] at this
  rw [hL]
  exact this
theorem hl_usedc (hF : F = C * P) (hP : 0 < P) (he : h < e) (heF : e ≤ F) (hFl : F < 18446744073709551616) (hPl : P < 18446744073709551616) {L : Nat} (hL : L = (holeL F h e 1).length) (k f t : Nat) (hf : f = k * P) (ht : t = (k + 1) * P) (htl : t < 18446744073709551616) (hW : HlW w F P (holeL F h e 1) a c W) :
    Calls Try.prog 19 #[.agg #[.int .u64 (F : Int), .slice (some ⟨w.heap.size + 1, 0, none⟩) 1 1, .slice a L c, .slice none 0 0, .slice none 0 0, .slice none 0 0], .int .u16 1, .int .u64 (f : Int), .int .u64 (t : Int)] W fun e' w' => e' = .returned (.int .u64 ((inN P (holeL F h e 1) k : Nat) : Int)) ∧ Below W.heap.size W w' := by
  have := RUsed_calls (hlC F P (holeL F h e 1) (some ⟨w.heap.size + 1, 0, none⟩) a c) 1 f t W hW.cfg hl_small htl
  have hn := hl_used (aP := none) (aW := none) (cw := 0) (k := k) (cnt := C) hP he (by omega) (by omega) hPl
  rw [← hF, ← hf, ← ht] at hn
  rw [show usedL f t (wo (hlC F P (holeL F h e 1) (some ⟨w.heap.size + 1, 0, none⟩) a c).wins.l 1) = inN P (holeL F h e 1) k from hn] at this
  rw [hL]
  exact this
end
/-- The walk. -/
theorem reads_winG (W : World) (cs : Array Value) (t : TypeId) (g : Nat) (y : WinR) (hs : W.heap.size = g) (hc : cs.toList = winL y) : Reads (W.alloc (.cells cs t)) (g + 1) 3 (some ⟨g, 0, none⟩) 1 (winL y) := by
  subst hs
  exact reads_blkD (Blk.new W t _) (Nat.lt_succ_self _) hc rfl
theorem winx (x y z : Nat) : winL ⟨x, y, z⟩ = [.int .u64 (x : Int), .int .u64 (y : Int), .int .u16 (z : Int)] := rfl
set_option maxRecDepth 100000 in
set_option maxHeartbeats 16000000 in
theorem DemandHoles_calls (x0 x1 x2 s : Nat) (h0 : x0 < 4294967296) (h1 : x1 < 4294967296) (h2 : x2 < 4294967296) (h3 : s < 256) (w : World) :
    Calls Try.prog 6 #[.int .u32 (x0 : Int), .agg #[.int .u32 (x1 : Int), .int .u32 (x2 : Int)], .int .u8 (s : Int)] w fun e w' => e = .returned (.bool true) ∧ Below w.heap.size w w' := by
  have HAL := hide (fun W => alive_dm W)
  obtain ⟨P, hP⟩ : ∃ P, P = x0 % 16777216 + 1 := ⟨_, rfl⟩
  obtain ⟨C, hC⟩ : ∃ C, C = x1 % 16777216 + 1 := ⟨_, rfl⟩
  have hP1 : 0 < P := by omega
  have hP2 : P ≤ 16777216 := by omega
  have hC1 : 0 < C := by omega
  have hC2 : C ≤ 16777216 := by omega
  obtain ⟨F, hF⟩ : ∃ F, F = C * P := ⟨_, rfl⟩
  have hF1 : 0 < F := by rw [hF]; exact Nat.mul_pos hC1 hP1
  have hF2 : F ≤ 281474976710656 := by rw [hF]; exact Nat.mul_le_mul hC2 hP2
  obtain ⟨h, hh⟩ : ∃ h, h = x2 % F := ⟨_, rfl⟩
  have hhF : h < F := by rw [hh]; exact Nat.mod_lt _ hF1
  obtain ⟨e0, he0⟩ : ∃ e, e = min (h + s + 1) F := ⟨_, rfl⟩
  have he : h < e0 := by omega
  have heF : e0 ≤ F := by omega
  have heN : e0 ≤ h + 256 := by omega
  have k1 : IntKind.u64.wrap (x0 : Int) = (x0 : Int) := wrapN x0 (by omega)
  have k2 : IntKind.u64.wrap (x1 : Int) = (x1 : Int) := wrapN x1 (by omega)
  have k3 : IntKind.u64.wrap (x2 : Int) = (x2 : Int) := wrapN x2 (by omega)
  have k4 : IntKind.u64.wrap (s : Int) = (s : Int) := wrapN s (by omega)
  obtain ⟨a, ha⟩ : ∃ a, a = x0 % 16777216 := ⟨_, rfl⟩
  obtain ⟨b, hb⟩ : ∃ a, a = x1 % 16777216 := ⟨_, rfl⟩
  have m1 : (x0 : Int).tmod 16777216 = (a : Int) := by rw [ha]; rfl
  have m1' : (x0 : Int) % 16777216 = (a : Int) := by omega
  have m2 : (x1 : Int).tmod 16777216 = (b : Int) := by rw [hb]; rfl
  have m2' : (x1 : Int) % 16777216 = (b : Int) := by omega
  have m3 : (x2 : Int).tmod (F : Int) = (h : Int) := by rw [hh]; rfl
  have m3' : (x2 : Int) % (F : Int) = (h : Int) := by rw [hh]; exact (Int.natCast_emod _ _).symm
  have v1 : IntKind.u64.wrap (a : Int) = (a : Int) := wrapN a (by omega)
  have v2 : IntKind.u64.wrap (b : Int) = (b : Int) := wrapN b (by omega)
  have v3 : IntKind.u64.wrap (h : Int) = (h : Int) := wrapN h (by omega)
  have v4 : IntKind.u64.wrap ((a : Int) + 1) = (P : Int) := by rw [show (a : Int) + 1 = ((P : Nat) : Int) by omega]; exact wrapN P (by omega)
  have v5 : IntKind.u64.wrap ((b : Int) + 1) = (C : Int) := by rw [show (b : Int) + 1 = ((C : Nat) : Int) by omega]; exact wrapN C (by omega)
  have v6 : IntKind.u64.wrap ((P : Int) * (C : Int)) = (F : Int) := by rw [← Int.natCast_mul, Nat.mul_comm, ← hF]; exact wrapN F (by omega)
  obtain ⟨q1, hq1⟩ : ∃ q, q = h + s := ⟨_, rfl⟩
  obtain ⟨q2, hq2⟩ : ∃ q, q = h + s + 1 := ⟨_, rfl⟩
  have v7 : IntKind.u64.wrap ((h : Int) + (s : Int)) = (q1 : Int) := by rw [show (h : Int) + (s : Int) = ((q1 : Nat) : Int) by omega]; exact wrapN q1 (by omega)
  have v8 : IntKind.u64.wrap ((q1 : Int) + 1) = (q2 : Int) := by rw [show (q1 : Int) + 1 = ((q2 : Nat) : Int) by omega]; exact wrapN q2 (by omega)
  rw [← hq2] at he0
  have v9 : min (q2 : Int) (F : Int) = (e0 : Int) := by omega
  have n1 : ((F : Int) == 0) = false := by rw [beq_eq_false_iff_ne]; omega
  have n2 : (0 : Int) < (F : Int) := by omega
  have n3 : ¬ F = 0 := by omega
  have n4 : ((P : Int) == 0) = false := by rw [beq_eq_false_iff_ne]; omega
  have n5 : (0 : Int) < (P : Int) := by omega
  have n6 : ¬ P = 0 := by omega
  obtain ⟨fe, hfe⟩ : ∃ q, q = F - e0 := ⟨_, rfl⟩
  have hLw : IntKind.u64.wrap ((F : Int) - (e0 : Int)) = (fe : Int) := by rw [show (F : Int) - (e0 : Int) = ((fe : Nat) : Int) by omega]; exact wrapN _ (by omega)
  obtain ⟨q, hq⟩ : ∃ q, q = h / P := ⟨_, rfl⟩
  have hqP : q * P ≤ h := by rw [hq]; exact Nat.div_mul_le_self _ _
  have hql : q ≤ h := by rw [hq]; exact Nat.div_le_self _ _
  have u1 : IntKind.u64.wrap ((h : Int).tdiv (P : Int)) = (q : Int) := by rw [← Int.ofNat_tdiv, ← hq]; exact wrapN q (by omega)
  have u2 : IntKind.u64.wrap ((h : Int) / (P : Int)) = (q : Int) := by
    have : (h : Int) / (P : Int) = (q : Int) := by rw [hq]; exact (Int.natCast_ediv _ _).symm
    rw [this]; exact wrapN q (by omega)
  obtain ⟨q3, hq3⟩ : ∃ x, x = q + 300 := ⟨_, rfl⟩
  have u3 : IntKind.u64.wrap ((q : Int) + 300) = (q3 : Int) := by rw [show (q : Int) + 300 = ((q3 : Nat) : Int) by omega]; exact wrapN q3 (by omega)
  have qq : ((q : Int) == (q : Int)) = true := by simp
  obtain ⟨i0, hi, hz0, hz1, hz2⟩ := info_parts win_info3
  have HII := hide hi
  have HHL := hide (show holeL F h e0 1 = (if 0 < h then [⟨0, h, 1⟩] else []) ++ (if e0 < F then [⟨e0, fe, 1⟩] else []) by rw [hfe]; rfl)
  obtain ⟨lw, hlw⟩ : ∃ l, l = holeL F h e0 1 := ⟨_, rfl⟩
  have HS : Hid (∀ nq, HlW w F P [] none 0 ((((w.alloc (.cells #[.int .u32 (x1 : Int), .int .u32 (x2 : Int)] 51)).drewN nq).alloc (.cells (partC (hlX P)) 40)).alloc (.cells (cfgC (hlC F P [] (some ⟨w.heap.size + 1, 0, none⟩) none 0)) 29))) := hide (fun nq => HlW.start (below_drewN ((Below.refl _ w).alloc (Nat.le_refl _) _) nq) (by simp [World.drewN]) F P)
  have HSH := hide (fun (L : Nat) (hL : L = (holeL F h e0 1).length) (a : Option Addr) (c : Nat) W (hW : HlW w F P (holeL F h e0 1) a c W) => hl_short hF hP1 he heF (by omega) (by omega) hL hW)
  have HLE := hide (fun (L : Nat) (hL : L = (holeL F h e0 1).length) (a : Option Addr) (c : Nat) W (hW : HlW w F P (holeL F h e0 1) a c W) => hl_least hF hP1 he heF (by omega) (by omega) hL hW)
  have HUS := hide (fun (L : Nat) (hL : L = (holeL F h e0 1).length) (k f t : Nat) (hf : f = k * P) (ht : t = (k + 1) * P) (htl : t < 18446744073709551616) (a : Option Addr) (c : Nat) W (hW : HlW w F P (holeL F h e0 1) a c W) => hl_usedc hF hP1 he heF (by omega) (by omega) hL k f t hf ht htl hW)
  have HMM : Hid (∀ j, e0 ≤ (q + j) * P → (∀ i, i < j → q + i < C) → leastN P C (inN P (holeL F h e0 1)) = holeM P (inN P (holeL F h e0 1)) q j) := hide (fun j h1 h2 => by
    have := hole_least (cnt := C) (p := 1) (j := j) hP1 he (by omega) (by rw [← hq]; exact h1) (fun i hi => by rw [← hq]; exact h2 i hi)
    rw [← hF, ← hq] at this
    exact this)
  have HNE : Hid (∀ j, 257 ≤ j → e0 ≤ (q + j) * P) := hide (fun j hj => by rw [hq]; exact hole_near hP1 heN hj)
  have HFC : Hid (∀ j, j * P < F → j < C) := hide (fun j hj => by rw [hF] at hj; exact Nat.lt_of_mul_lt_mul_right hj)
  rw [← hlw] at HSH HLE HUS HMM HHL
  rw [← hq] at HSH
  generalize leastN P C (inN P lw) = ln at *
  obtain ⟨fn, hfn⟩ : ∃ f : Nat → Nat, f = inN P lw := ⟨_, rfl⟩
  rw [← hfn] at HMM HUS
  have HML : Hid (∀ j, holeM P fn q j ≤ P) := hide (fun j => (holeM_spec P fn q j).1)
  have wz1 : ∀ x : Nat, IntKind.u64.wrap (x : Int) = (x : Int) ∨ True := fun _ => .inr trivial
  have HQP := hide hqP
  have HQ3 := hide hq3
  clear hqP hq3 h0 h1 h2 h3 hP hC hh ha hb hq1 hq2 hF hq hlw hi hfn wz1 he0 hfe
  by_cases c1 : 0 < h
  · by_cases c2 : e0 < F
    · have i1 : (0 : Int) < (h : Int) := by omega
      have i2 : (e0 : Int) < (F : Int) := by omega
      have HLQ : Hid (lw = [⟨0, h, 1⟩, ⟨e0, fe, 1⟩]) := hide (by rw [HHL.out, if_pos c1, if_pos c2]; rfl)
      have HLN : Hid (2 = lw.length) := hide (by rw [HLQ.out]; rfl)
      have HSH2 := hide (HSH.out 2 HLN.out)
      have HLE2 := hide (HLE.out 2 HLN.out)
      have HUS2 := hide (HUS.out 2 HLN.out)
      have HCE : Hid (∀ a c W, HlW w F P lw a c W → _) := hide (fun a c W (hW : HlW w F P lw a c W) => hW.cells2 HLN.out)
      clear c1 c2 HSH HLE HUS HHL
      go_enter Try.func6, Try.ntmps6
      go_wp2
      go_quiet (fail)
      go_wp2_with (first
        | (at_builtin; first
            | ((refine wpList_append_any _ rfl (.tmp 52) (.tmp 55) 24 rfl (w.heap.size + 3) 49 i0 _ 3 24 Try.underlying24 HII.out hz0 hz1 hz2 rfl (by decide) (.slice none 0 0) 0 [] rfl (World.ownsRow_nil _ _ _ _) _ (some ⟨w.heap.size + 1 + 1 + 1, 0, none⟩) 1 1 (winL ⟨0, h, 1⟩) rfl (reads_winG _ _ _ _ ⟨0, h, 1⟩ (by simp) rfl) (winL_oneH _) (by simp only [maxLen]; omega) (by omega) (by first | (simp; done) | (simp; omega)) ?_); intro v' w4 hown' hg hat; rw [Nat.zero_add] at hown'; obtain ⟨a4, c4, rfl⟩ := own_slice hown'; have HX4 : Hid (HlW w F P [⟨0, h, 1⟩] a4 c4 (w4.setCell ⟨w.heap.size + 1 + 1, 2, none⟩ (.slice a4 1 c4))) := hide (HlW.put (HS.out _) ⟨0, h, 1⟩ _ _ hown' hg); have HK4 : Hid (Blk w4 (w.heap.size + 1 + 1) 29 (cfgC (hlC F P [] (some ⟨w.heap.size + 1, 0, none⟩) none 0))) := hide (Blk.grown ((HS.out _).2.2.1.alloc _) hg (fun e => by cases e)); have y2 : w4.frozen? ⟨w.heap.size + 1 + 1, 2, none⟩ = false := HK4.out.frozen 2; have y3 : w4.cell? ⟨w.heap.size + 1 + 1, 2, none⟩ = some (.slice none 0 0) := HK4.out.cell 2; obtain ⟨b0, b1, b2, b3, b4, b5⟩ := HX4.out.cells2 (L := 1) rfl; clear hown' hg hat)
            | ((refine wpList_append_any _ rfl (.tmp 64) (.tmp 72) 24 rfl (w.heap.size + 3) 49 i0 _ 3 24 Try.underlying24 HII.out hz0 hz1 hz2 rfl (by decide) (.slice a4 1 c4) 1 (winL ⟨0, h, 1⟩) rfl (HX4.out.2.2.2.alloc _) _ (some ⟨_, 0, none⟩) 1 1 (winL ⟨e0, fe, 1⟩) rfl (reads_winG _ _ _ _ ⟨e0, fe, 1⟩ (by simp) rfl) (winL_oneH _) (by simp only [maxLen]; omega) (by omega) (by first | (simp; done) | (simp; omega) | (have := HX4.out.2.2.1.lt; simp [World.setCell] at this ⊢; omega)) ?_); intro v' w5 hown' hg hat; obtain ⟨a5, c5, rfl⟩ := own_slice hown'; have HX5 : Hid (HlW w F P [⟨0, h, 1⟩, ⟨e0, fe, 1⟩] a5 c5 (w5.setCell ⟨w.heap.size + 1 + 1, 2, none⟩ (.slice a5 2 c5))) := hide (HlW.put HX4.out ⟨e0, fe, 1⟩ _ _ hown' hg); have HK5 : Hid (Blk w5 (w.heap.size + 1 + 1) 29 (cfgC (hlC F P [⟨0, h, 1⟩] (some ⟨w.heap.size + 1, 0, none⟩) a4 c4))) := hide (Blk.grown (HX4.out.2.2.1.alloc _) hg (fun e => by have := (own_block HX4.out.2.2.2 _ e.symm).1; omega)); have z2 : w5.frozen? ⟨w.heap.size + 1 + 1, 2, none⟩ = false := HK5.out.frozen 2; have z3 : w5.cell? ⟨w.heap.size + 1 + 1, 2, none⟩ = some (.slice a4 1 c4) := HK5.out.cell 2; clear b0 b1 b2 b3 b4 b5; obtain ⟨b0, b1, b2, b3, b4, b5⟩ := HX5.out.cells2 (L := 2) rfl; clear hown' hg hat))
        | (go_at_call 14; have HXF := hide (show HlW w F P lw _ _ _ by rw [HLQ.out]; exact HX5.out); clear b0 b1 b2 b3 b4 b5; (with_reducible refine (HSH2.out a5 c5 _ HXF.out).mono ?_); rintro e w6 ⟨rfl, hb⟩; have HX6 := hide (HXF.out.below hb); clear hb))
      obtain ⟨aF, hAF⟩ : ∃ x : Option Addr, x = a5 := ⟨_, rfl⟩
      obtain ⟨cF, hCF⟩ : ∃ x : Nat, x = c5 := ⟨_, rfl⟩
      rw [← hAF, ← hCF] at HX6
      clear hAF hCF
      go_loopw [14, 15] (fun l v wr => ∃ i : Nat, i ≤ 257 ∧ (∀ k, k < i → q + k < C) ∧ l = .int .u64 ((holeM P fn q i : Nat) : Int) ∧ v = .int .u64 ((q + i : Nat) : Int) ∧ Hid (HlW w F P lw aF cF wr)) (fun _ v _ => q + 300 - (intOf v).toNat)
      case atStart => exact ⟨0, Nat.zero_le _, fun k hk => absurd hk (Nat.not_lt_zero _), rfl, rfl, HX6⟩
      case round =>
        obtain ⟨i, hi, hlow, rfl, rfl, hrel⟩ := hrel
        obtain ⟨b0, b1, b2, b3, b4, b5⟩ := HCE.out _ _ wr hrel.out
        obtain ⟨j, hj⟩ : ∃ j, j = q + i := ⟨_, rfl⟩
        obtain ⟨jP, hjP⟩ : ∃ x, x = j * P := ⟨_, rfl⟩
        obtain ⟨m, hm⟩ : ∃ m, m = holeM P fn q i := ⟨_, rfl⟩
        rw [← hj, ← hm]
        have hmP : m ≤ P := by rw [hm]; exact HML.out i
        have hjPl : jP ≤ h + 4311744512 := by
          have e1 : jP = q * P + i * P := by rw [hjP, hj, Nat.add_mul]
          have e2 : i * P ≤ 257 * 16777216 := Nat.mul_le_mul hi hP2
          have := HQP.out
          omega
        have HJ := hide hj
        have HM := hide hm
        have HLO := hide hlow
        have w1 : IntKind.u64.wrap ((j : Int) * (P : Int)) = (jP : Int) := by rw [← Int.natCast_mul, ← hjP]; exact wrapN jP (by omega)
        by_cases hlt : jP < e0
        · have hi2 : i < 257 := by
            by_cases hc : i < 257
            · exact hc
            · have := HNE.out i (by omega)
              rw [← hj, ← hjP] at this
              omega
          have HJC : Hid (j < C) := hide (HFC.out j (by rw [← hjP]; omega))
          obtain ⟨fv, hfv⟩ : ∃ x, x = fn j := ⟨_, rfl⟩
          obtain ⟨m2, hm2⟩ : ∃ x, x = min m fv := ⟨_, rfl⟩
          have hmn : min (m : Int) (fv : Int) = (m2 : Int) := by omega
          have HM2 : Hid (m2 = holeM P fn q (i + 1)) := hide (by rw [hm2, hfv, hm, hj]; rfl)
          obtain ⟨j1, hj1⟩ : ∃ x, x = j + 1 := ⟨_, rfl⟩
          have HJ1 := hide hj1
          obtain ⟨t, ht⟩ : ∃ x, x = j1 * P := ⟨_, rfl⟩
          have htP : t = jP + P := by rw [ht, hj1, Nat.add_mul, Nat.one_mul, hjP]
          have w2 : IntKind.u64.wrap ((j : Int) + 1) = (j1 : Int) := by rw [show (j : Int) + 1 = ((j1 : Nat) : Int) by omega]; exact wrapN j1 (by omega)
          have w3 : IntKind.u64.wrap ((j1 : Int) * (P : Int)) = (t : Int) := by rw [← Int.natCast_mul, ← ht]; exact wrapN t (by omega)
          have l1 : (jP : Int) < (e0 : Int) := by omega
          have l2 : (j : Int) < (q3 : Int) := by have := HQ3.out; omega
          have HUSX := hide (HUS2.out j jP t hjP (by rw [ht, hj1]) (by omega))
          rw [← hfv] at HUSX
          clear hm hj hjP hfv hm2 hj1 ht htP hmP hjPl hlow hlt
          go_wp2_with (go_at_call 19; refine (HUSX.out _ _ _ hrel.out).mono ?_; rintro e wu ⟨rfl, hb⟩; have HU := hide (hrel.out.below hb); clear hb b0 b1 b2 b3 b4 b5)
          go_roundw
          case rel => exact ⟨i + 1, by omega, fun k hk => (by rcases Nat.lt_or_ge k i with e | e; exact HLO.out k e; (have := HJC.out; have := HJ.out; omega)), by rw [HM2.out], by rw [HJ1.out, HJ.out, Nat.add_assoc], HU⟩
          case measure => have e1 := HJ.out; have e2 := HJ1.out; simp [intOf]; omega
        · have hle : ln = m := by rw [hm]; exact HMM.out i (by rw [← hj, ← hjP]; omega) hlow
          have l1 : ¬ (jP : Int) < (e0 : Int) := by omega
          have mm : ((m : Int) == (m : Int)) = true := by simp
          rw [hle] at HLE2
          clear hm hj hjP hle hmP hjPl hlow hlt
          go_wp2_with (first
            | (go_at_call 10; refine (HAL.out _).mono ?_; rintro e wa ⟨rfl, hb⟩; have HA := hide (hrel.out.below hb); clear hb b0 b1 b2 b3 b4 b5; obtain ⟨b0, b1, b2, b3, b4, b5⟩ := HCE.out _ _ wa HA.out)
            | (go_at_call 16; refine (HLE2.out _ _ _ HA.out).mono ?_; rintro e wl ⟨rfl, hb⟩; have HL := hide (HA.out.below hb); clear hb b0 b1 b2 b3 b4 b5))
          go_ret
          exact ⟨rfl, HL.out.1⟩
    · have i1 : (0 : Int) < (h : Int) := by omega
      have i2 : ¬ (e0 : Int) < (F : Int) := by omega
      have HLQ : Hid (lw = [⟨0, h, 1⟩]) := hide (by rw [HHL.out, if_pos c1, if_neg c2]; rfl)
      have HLN : Hid (1 = lw.length) := hide (by rw [HLQ.out]; rfl)
      have HSH2 := hide (HSH.out 1 HLN.out)
      have HLE2 := hide (HLE.out 1 HLN.out)
      have HUS2 := hide (HUS.out 1 HLN.out)
      have HCE : Hid (∀ a c W, HlW w F P lw a c W → _) := hide (fun a c W (hW : HlW w F P lw a c W) => hW.cells2 HLN.out)
      clear c1 c2 HSH HLE HUS HHL
      go_enter Try.func6, Try.ntmps6
      go_wp2
      go_quiet (fail)
      go_wp2_with (first
        | (at_builtin; go_must (refine wpList_append_any _ rfl (.tmp 52) (.tmp 55) 24 rfl (w.heap.size + 3) 49 i0 _ 3 24 Try.underlying24 HII.out hz0 hz1 hz2 rfl (by decide) (.slice none 0 0) 0 [] rfl (World.ownsRow_nil _ _ _ _) _ (some ⟨w.heap.size + 1 + 1 + 1, 0, none⟩) 1 1 (winL ⟨0, h, 1⟩) rfl (reads_winG _ _ _ _ ⟨0, h, 1⟩ (by simp) rfl) (winL_oneH _) (by simp only [maxLen]; omega) (by omega) (by first | (simp; done) | (simp; omega)) ?_); intro v' w4 hown' hg hat; rw [Nat.zero_add] at hown'; obtain ⟨a4, c4, rfl⟩ := own_slice hown'; have HX4 : Hid (HlW w F P [⟨0, h, 1⟩] a4 c4 (w4.setCell ⟨w.heap.size + 1 + 1, 2, none⟩ (.slice a4 1 c4))) := hide (HlW.put (HS.out _) ⟨0, h, 1⟩ _ _ hown' hg); have HK4 : Hid (Blk w4 (w.heap.size + 1 + 1) 29 (cfgC (hlC F P [] (some ⟨w.heap.size + 1, 0, none⟩) none 0))) := hide (Blk.grown ((HS.out _).2.2.1.alloc _) hg (fun e => by cases e)); have y2 : w4.frozen? ⟨w.heap.size + 1 + 1, 2, none⟩ = false := HK4.out.frozen 2; have y3 : w4.cell? ⟨w.heap.size + 1 + 1, 2, none⟩ = some (.slice none 0 0) := HK4.out.cell 2; obtain ⟨b0, b1, b2, b3, b4, b5⟩ := HX4.out.cells2 (L := 1) rfl; clear hown' hg hat)
        | (go_at_call 14; have HXF := hide (show HlW w F P lw _ _ _ by rw [HLQ.out]; exact HX4.out); clear b0 b1 b2 b3 b4 b5; (with_reducible refine (HSH2.out a4 c4 _ HXF.out).mono ?_); rintro e w6 ⟨rfl, hb⟩; have HX6 := hide (HXF.out.below hb); clear hb))
      obtain ⟨aF, hAF⟩ : ∃ x : Option Addr, x = a4 := ⟨_, rfl⟩
      obtain ⟨cF, hCF⟩ : ∃ x : Nat, x = c4 := ⟨_, rfl⟩
      rw [← hAF, ← hCF] at HX6
      clear hAF hCF
      go_loopw [14, 15] (fun l v wr => ∃ i : Nat, i ≤ 257 ∧ (∀ k, k < i → q + k < C) ∧ l = .int .u64 ((holeM P fn q i : Nat) : Int) ∧ v = .int .u64 ((q + i : Nat) : Int) ∧ Hid (HlW w F P lw aF cF wr)) (fun _ v _ => q + 300 - (intOf v).toNat)
      case atStart => exact ⟨0, Nat.zero_le _, fun k hk => absurd hk (Nat.not_lt_zero _), rfl, rfl, HX6⟩
      case round =>
        obtain ⟨i, hi, hlow, rfl, rfl, hrel⟩ := hrel
        obtain ⟨b0, b1, b2, b3, b4, b5⟩ := HCE.out _ _ wr hrel.out
        obtain ⟨j, hj⟩ : ∃ j, j = q + i := ⟨_, rfl⟩
        obtain ⟨jP, hjP⟩ : ∃ x, x = j * P := ⟨_, rfl⟩
        obtain ⟨m, hm⟩ : ∃ m, m = holeM P fn q i := ⟨_, rfl⟩
        rw [← hj, ← hm]
        have hmP : m ≤ P := by rw [hm]; exact HML.out i
        have hjPl : jP ≤ h + 4311744512 := by
          have e1 : jP = q * P + i * P := by rw [hjP, hj, Nat.add_mul]
          have e2 : i * P ≤ 257 * 16777216 := Nat.mul_le_mul hi hP2
          have := HQP.out
          omega
        have HJ := hide hj
        have HM := hide hm
        have HLO := hide hlow
        have w1 : IntKind.u64.wrap ((j : Int) * (P : Int)) = (jP : Int) := by rw [← Int.natCast_mul, ← hjP]; exact wrapN jP (by omega)
        by_cases hlt : jP < e0
        · have hi2 : i < 257 := by
            by_cases hc : i < 257
            · exact hc
            · have := HNE.out i (by omega)
              rw [← hj, ← hjP] at this
              omega
          have HJC : Hid (j < C) := hide (HFC.out j (by rw [← hjP]; omega))
          obtain ⟨fv, hfv⟩ : ∃ x, x = fn j := ⟨_, rfl⟩
          obtain ⟨m2, hm2⟩ : ∃ x, x = min m fv := ⟨_, rfl⟩
          have hmn : min (m : Int) (fv : Int) = (m2 : Int) := by omega
          have HM2 : Hid (m2 = holeM P fn q (i + 1)) := hide (by rw [hm2, hfv, hm, hj]; rfl)
          obtain ⟨j1, hj1⟩ : ∃ x, x = j + 1 := ⟨_, rfl⟩
          have HJ1 := hide hj1
          obtain ⟨t, ht⟩ : ∃ x, x = j1 * P := ⟨_, rfl⟩
          have htP : t = jP + P := by rw [ht, hj1, Nat.add_mul, Nat.one_mul, hjP]
          have w2 : IntKind.u64.wrap ((j : Int) + 1) = (j1 : Int) := by rw [show (j : Int) + 1 = ((j1 : Nat) : Int) by omega]; exact wrapN j1 (by omega)
          have w3 : IntKind.u64.wrap ((j1 : Int) * (P : Int)) = (t : Int) := by rw [← Int.natCast_mul, ← ht]; exact wrapN t (by omega)
          have l1 : (jP : Int) < (e0 : Int) := by omega
          have l2 : (j : Int) < (q3 : Int) := by have := HQ3.out; omega
          have HUSX := hide (HUS2.out j jP t hjP (by rw [ht, hj1]) (by omega))
          rw [← hfv] at HUSX
          clear hm hj hjP hfv hm2 hj1 ht htP hmP hjPl hlow hlt
          go_wp2_with (go_at_call 19; refine (HUSX.out _ _ _ hrel.out).mono ?_; rintro e wu ⟨rfl, hb⟩; have HU := hide (hrel.out.below hb); clear hb b0 b1 b2 b3 b4 b5)
          go_roundw
          case rel => exact ⟨i + 1, by omega, fun k hk => (by rcases Nat.lt_or_ge k i with e | e; exact HLO.out k e; (have := HJC.out; have := HJ.out; omega)), by rw [HM2.out], by rw [HJ1.out, HJ.out, Nat.add_assoc], HU⟩
          case measure => have e1 := HJ.out; have e2 := HJ1.out; simp [intOf]; omega
        · have hle : ln = m := by rw [hm]; exact HMM.out i (by rw [← hj, ← hjP]; omega) hlow
          have l1 : ¬ (jP : Int) < (e0 : Int) := by omega
          have mm : ((m : Int) == (m : Int)) = true := by simp
          rw [hle] at HLE2
          clear hm hj hjP hle hmP hjPl hlow hlt
          go_wp2_with (first
            | (go_at_call 10; refine (HAL.out _).mono ?_; rintro e wa ⟨rfl, hb⟩; have HA := hide (hrel.out.below hb); clear hb b0 b1 b2 b3 b4 b5; obtain ⟨b0, b1, b2, b3, b4, b5⟩ := HCE.out _ _ wa HA.out)
            | (go_at_call 16; refine (HLE2.out _ _ _ HA.out).mono ?_; rintro e wl ⟨rfl, hb⟩; have HL := hide (HA.out.below hb); clear hb b0 b1 b2 b3 b4 b5))
          go_ret
          exact ⟨rfl, HL.out.1⟩
  · by_cases c2 : e0 < F
    · have i1 : ¬ (0 : Int) < (h : Int) := by omega
      have i2 : (e0 : Int) < (F : Int) := by omega
      have HLQ : Hid (lw = [⟨e0, fe, 1⟩]) := hide (by rw [HHL.out, if_neg c1, if_pos c2]; rfl)
      have HLN : Hid (1 = lw.length) := hide (by rw [HLQ.out]; rfl)
      have HSH2 := hide (HSH.out 1 HLN.out)
      have HLE2 := hide (HLE.out 1 HLN.out)
      have HUS2 := hide (HUS.out 1 HLN.out)
      have HCE : Hid (∀ a c W, HlW w F P lw a c W → _) := hide (fun a c W (hW : HlW w F P lw a c W) => hW.cells2 HLN.out)
      clear c1 c2 HSH HLE HUS HHL
      go_enter Try.func6, Try.ntmps6
      go_wp2
      go_quiet (fail)
      go_wp2_with (first
        | (at_builtin; go_must (refine wpList_append_any _ rfl (.tmp 64) (.tmp 72) 24 rfl (w.heap.size + 3) 49 i0 _ 3 24 Try.underlying24 HII.out hz0 hz1 hz2 rfl (by decide) (.slice none 0 0) 0 [] rfl (World.ownsRow_nil _ _ _ _) _ (some ⟨w.heap.size + 1 + 1 + 1, 0, none⟩) 1 1 (winL ⟨e0, fe, 1⟩) rfl (reads_winG _ _ _ _ ⟨e0, fe, 1⟩ (by simp) rfl) (winL_oneH _) (by simp only [maxLen]; omega) (by omega) (by first | (simp; done) | (simp; omega) | (have := (HS.out _).2.2.1.lt; simp [World.setCell] at this ⊢; omega)) ?_); intro v' w5 hown' hg hat; rw [Nat.zero_add] at hown'; obtain ⟨a5, c5, rfl⟩ := own_slice hown'; have HX5 : Hid (HlW w F P [⟨e0, fe, 1⟩] a5 c5 (w5.setCell ⟨w.heap.size + 1 + 1, 2, none⟩ (.slice a5 1 c5))) := hide (HlW.put (HS.out _) ⟨e0, fe, 1⟩ _ _ hown' hg); have HK5 : Hid (Blk w5 (w.heap.size + 1 + 1) 29 (cfgC (hlC F P [] (some ⟨w.heap.size + 1, 0, none⟩) none 0))) := hide (Blk.grown ((HS.out _).2.2.1.alloc _) hg (fun e => by cases e)); have z2 : w5.frozen? ⟨w.heap.size + 1 + 1, 2, none⟩ = false := HK5.out.frozen 2; have z3 : w5.cell? ⟨w.heap.size + 1 + 1, 2, none⟩ = some (.slice none 0 0) := HK5.out.cell 2; obtain ⟨b0, b1, b2, b3, b4, b5⟩ := HX5.out.cells2 (L := 1) rfl; clear hown' hg hat)
        | (go_at_call 14; have HXF := hide (show HlW w F P lw _ _ _ by rw [HLQ.out]; exact HX5.out); clear b0 b1 b2 b3 b4 b5; (with_reducible refine (HSH2.out a5 c5 _ HXF.out).mono ?_); rintro e w6 ⟨rfl, hb⟩; have HX6 := hide (HXF.out.below hb); clear hb))
      obtain ⟨aF, hAF⟩ : ∃ x : Option Addr, x = a5 := ⟨_, rfl⟩
      obtain ⟨cF, hCF⟩ : ∃ x : Nat, x = c5 := ⟨_, rfl⟩
      rw [← hAF, ← hCF] at HX6
      clear hAF hCF
      go_loopw [14, 15] (fun l v wr => ∃ i : Nat, i ≤ 257 ∧ (∀ k, k < i → q + k < C) ∧ l = .int .u64 ((holeM P fn q i : Nat) : Int) ∧ v = .int .u64 ((q + i : Nat) : Int) ∧ Hid (HlW w F P lw aF cF wr)) (fun _ v _ => q + 300 - (intOf v).toNat)
      case atStart => exact ⟨0, Nat.zero_le _, fun k hk => absurd hk (Nat.not_lt_zero _), rfl, rfl, HX6⟩
      case round =>
        obtain ⟨i, hi, hlow, rfl, rfl, hrel⟩ := hrel
        obtain ⟨b0, b1, b2, b3, b4, b5⟩ := HCE.out _ _ wr hrel.out
        obtain ⟨j, hj⟩ : ∃ j, j = q + i := ⟨_, rfl⟩
        obtain ⟨jP, hjP⟩ : ∃ x, x = j * P := ⟨_, rfl⟩
        obtain ⟨m, hm⟩ : ∃ m, m = holeM P fn q i := ⟨_, rfl⟩
        rw [← hj, ← hm]
        have hmP : m ≤ P := by rw [hm]; exact HML.out i
        have hjPl : jP ≤ h + 4311744512 := by
          have e1 : jP = q * P + i * P := by rw [hjP, hj, Nat.add_mul]
          have e2 : i * P ≤ 257 * 16777216 := Nat.mul_le_mul hi hP2
          have := HQP.out
          omega
        have HJ := hide hj
        have HM := hide hm
        have HLO := hide hlow
        have w1 : IntKind.u64.wrap ((j : Int) * (P : Int)) = (jP : Int) := by rw [← Int.natCast_mul, ← hjP]; exact wrapN jP (by omega)
        by_cases hlt : jP < e0
        · have hi2 : i < 257 := by
            by_cases hc : i < 257
            · exact hc
            · have := HNE.out i (by omega)
              rw [← hj, ← hjP] at this
              omega
          have HJC : Hid (j < C) := hide (HFC.out j (by rw [← hjP]; omega))
          obtain ⟨fv, hfv⟩ : ∃ x, x = fn j := ⟨_, rfl⟩
          obtain ⟨m2, hm2⟩ : ∃ x, x = min m fv := ⟨_, rfl⟩
          have hmn : min (m : Int) (fv : Int) = (m2 : Int) := by omega
          have HM2 : Hid (m2 = holeM P fn q (i + 1)) := hide (by rw [hm2, hfv, hm, hj]; rfl)
          obtain ⟨j1, hj1⟩ : ∃ x, x = j + 1 := ⟨_, rfl⟩
          have HJ1 := hide hj1
          obtain ⟨t, ht⟩ : ∃ x, x = j1 * P := ⟨_, rfl⟩
          have htP : t = jP + P := by rw [ht, hj1, Nat.add_mul, Nat.one_mul, hjP]
          have w2 : IntKind.u64.wrap ((j : Int) + 1) = (j1 : Int) := by rw [show (j : Int) + 1 = ((j1 : Nat) : Int) by omega]; exact wrapN j1 (by omega)
          have w3 : IntKind.u64.wrap ((j1 : Int) * (P : Int)) = (t : Int) := by rw [← Int.natCast_mul, ← ht]; exact wrapN t (by omega)
          have l1 : (jP : Int) < (e0 : Int) := by omega
          have l2 : (j : Int) < (q3 : Int) := by have := HQ3.out; omega
          have HUSX := hide (HUS2.out j jP t hjP (by rw [ht, hj1]) (by omega))
          rw [← hfv] at HUSX
          clear hm hj hjP hfv hm2 hj1 ht htP hmP hjPl hlow hlt
          go_wp2_with (go_at_call 19; refine (HUSX.out _ _ _ hrel.out).mono ?_; rintro e wu ⟨rfl, hb⟩; have HU := hide (hrel.out.below hb); clear hb b0 b1 b2 b3 b4 b5)
          go_roundw
          case rel => exact ⟨i + 1, by omega, fun k hk => (by rcases Nat.lt_or_ge k i with e | e; exact HLO.out k e; (have := HJC.out; have := HJ.out; omega)), by rw [HM2.out], by rw [HJ1.out, HJ.out, Nat.add_assoc], HU⟩
          case measure => have e1 := HJ.out; have e2 := HJ1.out; simp [intOf]; omega
        · have hle : ln = m := by rw [hm]; exact HMM.out i (by rw [← hj, ← hjP]; omega) hlow
          have l1 : ¬ (jP : Int) < (e0 : Int) := by omega
          have mm : ((m : Int) == (m : Int)) = true := by simp
          rw [hle] at HLE2
          clear hm hj hjP hle hmP hjPl hlow hlt
          go_wp2_with (first
            | (go_at_call 10; refine (HAL.out _).mono ?_; rintro e wa ⟨rfl, hb⟩; have HA := hide (hrel.out.below hb); clear hb b0 b1 b2 b3 b4 b5; obtain ⟨b0, b1, b2, b3, b4, b5⟩ := HCE.out _ _ wa HA.out)
            | (go_at_call 16; refine (HLE2.out _ _ _ HA.out).mono ?_; rintro e wl ⟨rfl, hb⟩; have HL := hide (HA.out.below hb); clear hb b0 b1 b2 b3 b4 b5))
          go_ret
          exact ⟨rfl, HL.out.1⟩
    · have i1 : ¬ (0 : Int) < (h : Int) := by omega
      have i2 : ¬ (e0 : Int) < (F : Int) := by omega
      have HLQ : Hid (lw = []) := hide (by rw [HHL.out, if_neg c1, if_neg c2]; rfl)
      have HLN : Hid (0 = lw.length) := hide (by rw [HLQ.out]; rfl)
      have HSH2 := hide (HSH.out 0 HLN.out)
      have HLE2 := hide (HLE.out 0 HLN.out)
      have HUS2 := hide (HUS.out 0 HLN.out)
      have HCE : Hid (∀ a c W, HlW w F P lw a c W → _) := hide (fun a c W (hW : HlW w F P lw a c W) => hW.cells2 HLN.out)
      clear c1 c2 HSH HLE HUS HHL
      go_enter Try.func6, Try.ntmps6
      go_wp2
      go_quiet (fail)
      go_wp2_with (first
        | (go_at_call 14; have HXF := hide (show HlW w F P lw _ _ _ by rw [HLQ.out]; exact HS.out nq); (refine (HSH2.out none 0 _ HXF.out).mono ?_); rintro e w6 ⟨rfl, hb⟩; have HX6 := hide (HXF.out.below hb); clear hb))
      obtain ⟨aF, hAF⟩ : ∃ x : Option Addr, x = none := ⟨_, rfl⟩
      obtain ⟨cF, hCF⟩ : ∃ x : Nat, x = 0 := ⟨_, rfl⟩
      rw [← hAF, ← hCF] at HX6
      clear hAF hCF
      go_loopw [14, 15] (fun l v wr => ∃ i : Nat, i ≤ 257 ∧ (∀ k, k < i → q + k < C) ∧ l = .int .u64 ((holeM P fn q i : Nat) : Int) ∧ v = .int .u64 ((q + i : Nat) : Int) ∧ Hid (HlW w F P lw aF cF wr)) (fun _ v _ => q + 300 - (intOf v).toNat)
      case atStart => exact ⟨0, Nat.zero_le _, fun k hk => absurd hk (Nat.not_lt_zero _), rfl, rfl, HX6⟩
      case round =>
        obtain ⟨i, hi, hlow, rfl, rfl, hrel⟩ := hrel
        obtain ⟨b0, b1, b2, b3, b4, b5⟩ := HCE.out _ _ wr hrel.out
        obtain ⟨j, hj⟩ : ∃ j, j = q + i := ⟨_, rfl⟩
        obtain ⟨jP, hjP⟩ : ∃ x, x = j * P := ⟨_, rfl⟩
        obtain ⟨m, hm⟩ : ∃ m, m = holeM P fn q i := ⟨_, rfl⟩
        rw [← hj, ← hm]
        have hmP : m ≤ P := by rw [hm]; exact HML.out i
        have hjPl : jP ≤ h + 4311744512 := by
          have e1 : jP = q * P + i * P := by rw [hjP, hj, Nat.add_mul]
          have e2 : i * P ≤ 257 * 16777216 := Nat.mul_le_mul hi hP2
          have := HQP.out
          omega
        have HJ := hide hj
        have HM := hide hm
        have HLO := hide hlow
        have w1 : IntKind.u64.wrap ((j : Int) * (P : Int)) = (jP : Int) := by rw [← Int.natCast_mul, ← hjP]; exact wrapN jP (by omega)
        by_cases hlt : jP < e0
        · have hi2 : i < 257 := by
            by_cases hc : i < 257
            · exact hc
            · have := HNE.out i (by omega)
              rw [← hj, ← hjP] at this
              omega
          have HJC : Hid (j < C) := hide (HFC.out j (by rw [← hjP]; omega))
          obtain ⟨fv, hfv⟩ : ∃ x, x = fn j := ⟨_, rfl⟩
          obtain ⟨m2, hm2⟩ : ∃ x, x = min m fv := ⟨_, rfl⟩
          have hmn : min (m : Int) (fv : Int) = (m2 : Int) := by omega
          have HM2 : Hid (m2 = holeM P fn q (i + 1)) := hide (by rw [hm2, hfv, hm, hj]; rfl)
          obtain ⟨j1, hj1⟩ : ∃ x, x = j + 1 := ⟨_, rfl⟩
          have HJ1 := hide hj1
          obtain ⟨t, ht⟩ : ∃ x, x = j1 * P := ⟨_, rfl⟩
          have htP : t = jP + P := by rw [ht, hj1, Nat.add_mul, Nat.one_mul, hjP]
          have w2 : IntKind.u64.wrap ((j : Int) + 1) = (j1 : Int) := by rw [show (j : Int) + 1 = ((j1 : Nat) : Int) by omega]; exact wrapN j1 (by omega)
          have w3 : IntKind.u64.wrap ((j1 : Int) * (P : Int)) = (t : Int) := by rw [← Int.natCast_mul, ← ht]; exact wrapN t (by omega)
          have l1 : (jP : Int) < (e0 : Int) := by omega
          have l2 : (j : Int) < (q3 : Int) := by have := HQ3.out; omega
          have HUSX := hide (HUS2.out j jP t hjP (by rw [ht, hj1]) (by omega))
          rw [← hfv] at HUSX
          clear hm hj hjP hfv hm2 hj1 ht htP hmP hjPl hlow hlt
          go_wp2_with (go_at_call 19; refine (HUSX.out _ _ _ hrel.out).mono ?_; rintro e wu ⟨rfl, hb⟩; have HU := hide (hrel.out.below hb); clear hb b0 b1 b2 b3 b4 b5)
          go_roundw
          case rel => exact ⟨i + 1, by omega, fun k hk => (by rcases Nat.lt_or_ge k i with e | e; exact HLO.out k e; (have := HJC.out; have := HJ.out; omega)), by rw [HM2.out], by rw [HJ1.out, HJ.out, Nat.add_assoc], HU⟩
          case measure => have e1 := HJ.out; have e2 := HJ1.out; simp [intOf]; omega
        · have hle : ln = m := by rw [hm]; exact HMM.out i (by rw [← hj, ← hjP]; omega) hlow
          have l1 : ¬ (jP : Int) < (e0 : Int) := by omega
          have mm : ((m : Int) == (m : Int)) = true := by simp
          rw [hle] at HLE2
          clear hm hj hjP hle hmP hjPl hlow hlt
          go_wp2_with (first
            | (go_at_call 10; refine (HAL.out _).mono ?_; rintro e wa ⟨rfl, hb⟩; have HA := hide (hrel.out.below hb); clear hb b0 b1 b2 b3 b4 b5; obtain ⟨b0, b1, b2, b3, b4, b5⟩ := HCE.out _ _ wa HA.out)
            | (go_at_call 16; refine (HLE2.out _ _ _ HA.out).mono ?_; rintro e wl ⟨rfl, hb⟩; have HL := hide (HA.out.below hb); clear hb b0 b1 b2 b3 b4 b5))
          go_ret
          exact ⟨rfl, HL.out.1⟩
end Go.Proofs.Ytkhcdnehfiopgaa
