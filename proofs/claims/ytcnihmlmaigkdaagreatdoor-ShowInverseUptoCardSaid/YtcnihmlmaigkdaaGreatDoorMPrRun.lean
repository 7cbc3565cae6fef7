/- The parser's run (chapter 07). parse.Parse and parse.Records (chapter 07). Written by genprparse.py. -/
import Derived.Test.YtcnihmlmaigkdaaGreatDoorMPrRecs
import Derived.Test.YtcnihmlmaigkdaaGreatDoorPrTop
import Derived.Test.YtcnihmlmaigkdaaGreatDoorMPaLike
import Derived.Test.YtcnihmlmaigkdaaGreatDoorLxToks
import Derived.Deep.DeepCutAuto
namespace Go.Proofs.YtcnihmlmaigkdaaGreatDoor
open Go.RowKit Go.Lib
set_option linter.unusedVariables false

/-- Behind run, Parse, Records. -/
def PrunV (o : Except Flt PC) (w : World) (e : Ending) (w' : World) : Prop :=
  Below w.heap.size w w' ∧ match o with
  | .ok pc => ∃ c, e = .returned (.tuple #[cfgV c, .agg #[.int .i64 0, .int .i64 0, .int .i64 0]]) ∧ OwnC w.heap.size c w' ∧ pcOf c = pc
  | .error f => e = .returned (.tuple #[cfgV zeroC, .agg (fltP f)])
def runO (m : PM PC) (s : ByteArray) : Except Flt PC := match outOf s with
  | .bad c i j => .error (c, i, j)
  | .ok l => endT m l
theorem res_cells {fn : Func} {p q : Tmp} {t u : TypeId} (h : fn.results = #[.cell p t, .cell q u]) (tmps : Array Value) (w : World) (g k : Nat) (cs ds : Array Value)
    (hp : tmps.getD p undef = .pointer (some ⟨g, 0, none⟩)) (hq : tmps.getD q undef = .pointer (some ⟨k, 0, none⟩)) (hl : (loadVar t ⟨g, 0, none⟩).run Tryz.prog w = .ok (.agg cs) w) (hk : (loadVar u ⟨k, 0, none⟩).run Tryz.prog w = .ok (.agg ds) w) :
    (results fn tmps).run Tryz.prog w = .ok (.tuple #[.agg cs, .agg ds]) w := by
  have hp' : tmps[p]?.getD undef = .pointer (some ⟨g, 0, none⟩) := by simpa using hp
  have hq' : tmps[q]?.getD undef = .pointer (some ⟨k, 0, none⟩) := by simpa using hq
  simp [results, h, hp', hq', asAddr, hl, hk]
theorem pload_fault {w : World} {g : Nat} {cs : Array Value} (hg : Blk w g 43 cs) (hc : cs.size = 3) : (loadVar 43 ⟨g, 0, none⟩).run Tryz.prog w = .ok (.agg cs) w :=
  run_loadVar_row (P := Tryz.prog) w g 43 43 cs (0, 0) _ hg Tryz.underlying43 rfl (by rw [hc]; kernel_rfl)
theorem pr_start {w : World} {v : Value} {B : Nat} {l : List Token} (h : w.ownsRow B 132 5 v l.length (tokCells l)) (he : EndL l) :
    ∃ A cap, v = .slice A l.length cap ∧ PrAt w.heap.size l zeroC 0 (w.alloc (.cells #[.slice A l.length cap, .int .u64 0, .slice none 0 0, .slice none 0 0, .slice none 0 0, .slice none 0 0, .slice none 0 0, .int .i64 0] 131)) := by
  obtain ⟨A, cap, hv⟩ := own_slice h
  subst hv
  have hr := Reads.of_own h
  have hl := he.len
  refine ⟨A, cap, rfl, A, cap, Blk.new w _ _, ?_, ?_, hr.alloc (Nat.le_refl _) _, he⟩
  · rcases h.2 with ⟨hv, h0⟩ | ⟨g, cp, cur, hv, _, _, h1, h2, _⟩
    · omega
    · injection hv with _ _ h3; omega
  · rcases h.2 with ⟨hv, h0⟩ | ⟨g, cp, cur, hv, _, _, h1, h2, _⟩
    · omega
    · injection hv with _ _ h3; subst h3; simpa [maxLen] using h2
set_option maxRecDepth 100000 in
set_option maxHeartbeats 2000000 in
theorem run_bad (m : PM PC) (F : FuncId) (x : ByteArray) (c0 i0 j0 : Nat) (hc0 : 0 < c0) (ho : outOf x = .bad c0 i0 j0) (w : World) (hv : Vars w) :
    Calls Tryz.prog 38 #[.string x, .func (.func F) #[] #[]] w (PrunV (runO m x) w) := by
  have HP : Hid (runO m x = .error (c0, i0, j0)) := hide (by unfold runO; rw [ho])
  rw [HP.out]
  have HT := hide (fun W (hW : Vars W) => Tokens_calls x W hW)
  rw [ho] at HT
  have HT1 : Hid (∀ W, Vars W → Calls Tryz.prog 75 #[.string x] W fun e w' => Below W.heap.size W w' ∧ e = .returned (.tuple #[.slice none 0 0, .agg #[.int .i64 (c0 : Int), .int .i64 (i0 : Int), .int .i64 (j0 : Int)]])) := hide (fun W hW => HT.out W hW)
  have HV := hide hv
  clear HT ho HP hv
  unfold PrunV fltP
  simp only
  have hmf : ∀ (fn : Fn) (first cap : Array Value) (w : World), (Instr.makeFunc fn first cap).run Tryz.prog w = .ok (.func fn first cap) w := fun _ _ _ _ => rfl
  go_enter_defers Tryz.func38, Tryz.ntmps38
  have HVB := hide (((Below.refl w.heap.size w).alloc (Nat.le_refl _) (.cells #[.int .u64 0, .slice none 0 0, .slice none 0 0, .slice none 0 0, .slice none 0 0, .slice none 0 0] 29)).alloc (by simp) (.cells #[.int .i64 0, .int .i64 0, .int .i64 0] 43))
  have HB1 := hide ((Blk.new w 29 #[.int .u64 0, .slice none 0 0, .slice none 0 0, .slice none 0 0, .slice none 0 0, .slice none 0 0]).alloc (.cells #[.int .i64 0, .int .i64 0, .int .i64 0] 43))
  have HB2 : Hid (Blk ((w.alloc (.cells #[.int .u64 0, .slice none 0 0, .slice none 0 0, .slice none 0 0, .slice none 0 0, .slice none 0 0] 29)).alloc (.cells #[.int .i64 0, .int .i64 0, .int .i64 0] 43)) (w.heap.size + 1) 43 #[.int .i64 0, .int .i64 0, .int .i64 0]) := hide (by have := Blk.new (w.alloc (.cells #[.int .u64 0, .slice none 0 0, .slice none 0 0, .slice none 0 0, .slice none 0 0, .slice none 0 0] 29)) 43 #[.int .i64 0, .int .i64 0, .int .i64 0]; simpa using this)
  have d0 : ((c0 : Int) == 0) = false := by rw [beq_eq_false_iff_ne]; omega
  go_wp2_with fail
  refine (HT1.out _ (HV.out.below HVB.out)).mono ?_
  rintro e w2 ⟨hb2, rfl⟩
  have HC1 := hide (HB1.out.below hb2 HB1.out.lt)
  have HC2 := hide (HB2.out.below hb2 HB2.out.lt)
  have HL := hide (HVB.out.trans (hb2.mono (by simp; omega)))
  have y0 : w2.cell? ⟨w.heap.size, 0, none⟩ = some (.int .u64 0) := HC1.out.cell 0
  have y1 : w2.cell? ⟨w.heap.size, 1, none⟩ = some (.slice none 0 0) := HC1.out.cell 1
  have y2 : w2.cell? ⟨w.heap.size, 2, none⟩ = some (.slice none 0 0) := HC1.out.cell 2
  have y3 : w2.cell? ⟨w.heap.size, 3, none⟩ = some (.slice none 0 0) := HC1.out.cell 3
  have y4 : w2.cell? ⟨w.heap.size, 4, none⟩ = some (.slice none 0 0) := HC1.out.cell 4
  have y5 : w2.cell? ⟨w.heap.size, 5, none⟩ = some (.slice none 0 0) := HC1.out.cell 5
  have z0 : w2.cell? ⟨w.heap.size + 1, 0, none⟩ = some (.int .i64 0) := HC2.out.cell 0
  have z1 : w2.cell? ⟨w.heap.size + 1, 1, none⟩ = some (.int .i64 0) := HC2.out.cell 1
  have z2 : w2.cell? ⟨w.heap.size + 1, 2, none⟩ = some (.int .i64 0) := HC2.out.cell 2
  have f1 := fun i => HC1.out.frozen i
  have f2 := fun i => HC2.out.frozen i
  have hl2 := HC2.out.lt
  clear hb2
  go_wp2_with fail
  go_region
  all_goals (try go_wp2)
  all_goals
    have HZ1 : Blk ((((((((((((w2.setCell ⟨w.heap.size + 1, 0, none⟩ (.int .i64 (c0 : Int))).setCell ⟨w.heap.size + 1, 1, none⟩ (.int .i64 (i0 : Int))).setCell ⟨w.heap.size + 1, 2, none⟩ (.int .i64 (j0 : Int))).setCell ⟨w.heap.size, 0, none⟩ (.int .u64 0)).setCell ⟨w.heap.size, 1, none⟩ (.slice none 0 0)).setCell ⟨w.heap.size, 2, none⟩ (.slice none 0 0)).setCell ⟨w.heap.size, 3, none⟩ (.slice none 0 0)).setCell ⟨w.heap.size, 4, none⟩ (.slice none 0 0)).setCell ⟨w.heap.size, 5, none⟩ (.slice none 0 0)).setCell ⟨w.heap.size + 1, 0, none⟩ (.int .i64 (c0 : Int))).setCell ⟨w.heap.size + 1, 1, none⟩ (.int .i64 (i0 : Int))).setCell ⟨w.heap.size + 1, 2, none⟩ (.int .i64 (j0 : Int))).drew w.heap.size 29 #[.int .u64 0, .slice none 0 0, .slice none 0 0, .slice none 0 0, .slice none 0 0, .slice none 0 0] := ((((((((((((HC1.out.far (p := ⟨w.heap.size + 1, 0, none⟩) (by simp) (.int .i64 (c0 : Int))).far (p := ⟨w.heap.size + 1, 1, none⟩) (by simp) (.int .i64 (i0 : Int))).far (p := ⟨w.heap.size + 1, 2, none⟩) (by simp) (.int .i64 (j0 : Int))).set_ 0 (.int .u64 0)).set_ 1 (.slice none 0 0)).set_ 2 (.slice none 0 0)).set_ 3 (.slice none 0 0)).set_ 4 (.slice none 0 0)).set_ 5 (.slice none 0 0)).far (p := ⟨w.heap.size + 1, 0, none⟩) (by simp) (.int .i64 (c0 : Int))).far (p := ⟨w.heap.size + 1, 1, none⟩) (by simp) (.int .i64 (i0 : Int))).far (p := ⟨w.heap.size + 1, 2, none⟩) (by simp) (.int .i64 (j0 : Int))).drew
    have HZ2 : Blk ((((((((((((w2.setCell ⟨w.heap.size + 1, 0, none⟩ (.int .i64 (c0 : Int))).setCell ⟨w.heap.size + 1, 1, none⟩ (.int .i64 (i0 : Int))).setCell ⟨w.heap.size + 1, 2, none⟩ (.int .i64 (j0 : Int))).setCell ⟨w.heap.size, 0, none⟩ (.int .u64 0)).setCell ⟨w.heap.size, 1, none⟩ (.slice none 0 0)).setCell ⟨w.heap.size, 2, none⟩ (.slice none 0 0)).setCell ⟨w.heap.size, 3, none⟩ (.slice none 0 0)).setCell ⟨w.heap.size, 4, none⟩ (.slice none 0 0)).setCell ⟨w.heap.size, 5, none⟩ (.slice none 0 0)).setCell ⟨w.heap.size + 1, 0, none⟩ (.int .i64 (c0 : Int))).setCell ⟨w.heap.size + 1, 1, none⟩ (.int .i64 (i0 : Int))).setCell ⟨w.heap.size + 1, 2, none⟩ (.int .i64 (j0 : Int))).drew (w.heap.size + 1) 43 #[.int .i64 (c0 : Int), .int .i64 (i0 : Int), .int .i64 (j0 : Int)] := ((((((((((((HC2.out.set_ 0 (.int .i64 (c0 : Int))).set_ 1 (.int .i64 (i0 : Int))).set_ 2 (.int .i64 (j0 : Int))).far (p := ⟨w.heap.size, 0, none⟩) (by simp) (.int .u64 0)).far (p := ⟨w.heap.size, 1, none⟩) (by simp) (.slice none 0 0)).far (p := ⟨w.heap.size, 2, none⟩) (by simp) (.slice none 0 0)).far (p := ⟨w.heap.size, 3, none⟩) (by simp) (.slice none 0 0)).far (p := ⟨w.heap.size, 4, none⟩) (by simp) (.slice none 0 0)).far (p := ⟨w.heap.size, 5, none⟩) (by simp) (.slice none 0 0)).set_ 0 (.int .i64 (c0 : Int))).set_ 1 (.int .i64 (i0 : Int))).set_ 2 (.int .i64 (j0 : Int))).drew
    have HZ3 : Below w.heap.size w ((((((((((((w2.setCell ⟨w.heap.size + 1, 0, none⟩ (.int .i64 (c0 : Int))).setCell ⟨w.heap.size + 1, 1, none⟩ (.int .i64 (i0 : Int))).setCell ⟨w.heap.size + 1, 2, none⟩ (.int .i64 (j0 : Int))).setCell ⟨w.heap.size, 0, none⟩ (.int .u64 0)).setCell ⟨w.heap.size, 1, none⟩ (.slice none 0 0)).setCell ⟨w.heap.size, 2, none⟩ (.slice none 0 0)).setCell ⟨w.heap.size, 3, none⟩ (.slice none 0 0)).setCell ⟨w.heap.size, 4, none⟩ (.slice none 0 0)).setCell ⟨w.heap.size, 5, none⟩ (.slice none 0 0)).setCell ⟨w.heap.size + 1, 0, none⟩ (.int .i64 (c0 : Int))).setCell ⟨w.heap.size + 1, 1, none⟩ (.int .i64 (i0 : Int))).setCell ⟨w.heap.size + 1, 2, none⟩ (.int .i64 (j0 : Int))).drew := ((((((((((((HL.out.setCell (p := ⟨w.heap.size + 1, 0, none⟩) (by simp) (.int .i64 (c0 : Int))).setCell (p := ⟨w.heap.size + 1, 1, none⟩) (by simp) (.int .i64 (i0 : Int))).setCell (p := ⟨w.heap.size + 1, 2, none⟩) (by simp) (.int .i64 (j0 : Int))).setCell (p := ⟨w.heap.size, 0, none⟩) (Nat.le_refl _) (.int .u64 0)).setCell (p := ⟨w.heap.size, 1, none⟩) (Nat.le_refl _) (.slice none 0 0)).setCell (p := ⟨w.heap.size, 2, none⟩) (Nat.le_refl _) (.slice none 0 0)).setCell (p := ⟨w.heap.size, 3, none⟩) (Nat.le_refl _) (.slice none 0 0)).setCell (p := ⟨w.heap.size, 4, none⟩) (Nat.le_refl _) (.slice none 0 0)).setCell (p := ⟨w.heap.size, 5, none⟩) (Nat.le_refl _) (.slice none 0 0)).setCell (p := ⟨w.heap.size + 1, 0, none⟩) (by simp) (.int .i64 (c0 : Int))).setCell (p := ⟨w.heap.size + 1, 1, none⟩) (by simp) (.int .i64 (i0 : Int))).setCell (p := ⟨w.heap.size + 1, 2, none⟩) (by simp) (.int .i64 (j0 : Int))).drew
    generalize ((((((((((((w2.setCell ⟨w.heap.size + 1, 0, none⟩ (.int .i64 (c0 : Int))).setCell ⟨w.heap.size + 1, 1, none⟩ (.int .i64 (i0 : Int))).setCell ⟨w.heap.size + 1, 2, none⟩ (.int .i64 (j0 : Int))).setCell ⟨w.heap.size, 0, none⟩ (.int .u64 0)).setCell ⟨w.heap.size, 1, none⟩ (.slice none 0 0)).setCell ⟨w.heap.size, 2, none⟩ (.slice none 0 0)).setCell ⟨w.heap.size, 3, none⟩ (.slice none 0 0)).setCell ⟨w.heap.size, 4, none⟩ (.slice none 0 0)).setCell ⟨w.heap.size, 5, none⟩ (.slice none 0 0)).setCell ⟨w.heap.size + 1, 0, none⟩ (.int .i64 (c0 : Int))).setCell ⟨w.heap.size + 1, 1, none⟩ (.int .i64 (i0 : Int))).setCell ⟨w.heap.size + 1, 2, none⟩ (.int .i64 (j0 : Int))).drew = W at HZ1 HZ2 HZ3 ⊢
    exact ⟨_, res_cells rfl _ _ w.heap.size (w.heap.size + 1) _ _ rfl rfl (load_cfgP HZ1 rfl) (pload_fault HZ2 rfl), HZ3, rfl⟩
set_option maxRecDepth 100000 in
set_option maxHeartbeats 2000000 in
theorem run_good (m : PM PC) (F : FuncId) (x : ByteArray) (l : List Token) (ho : outOf x = .ok l) (ht : TxtLe l) (w : World) (hv : Vars w)
    (eF : ∀ args w, (callFunc F args).run Tryz.prog w = .ok (.enter F args) w) (hF : ∀ X W, PrAt X l zeroC 0 W → Calls Tryz.prog F #[.pointer (some ⟨X, 0, none⟩)] W (PmV m X l W)) :
    Calls Tryz.prog 38 #[.string x, .func (.func F) #[] #[]] w (PrunV (runO m x) w) := by
  have HP : Hid (runO m x = endT m l) := hide (by unfold runO; rw [ho])
  rw [HP.out]
  obtain ⟨hEL, _, _⟩ := out_facts ho
  have HEL := hide hEL
  have HT := hide (fun W (hW : Vars W) => Tokens_calls x W hW)
  rw [ho] at HT
  have HT1 : Hid (∀ W, Vars W → Calls Tryz.prog 75 #[.string x] W fun e w' => Below W.heap.size W w' ∧ ∃ v, e = .returned (.tuple #[v, .agg #[.int .i64 0, .int .i64 0, .int .i64 0]]) ∧ w'.ownsRow W.heap.size 132 5 v l.length (tokCells l)) := hide (fun W hW => HT.out W hW)
  have HV := hide hv
  have HFF := hide hF
  clear HT ho HP hv hF hEL
  have hmf : ∀ (fn : Fn) (first cap : Array Value) (w : World), (Instr.makeFunc fn first cap).run Tryz.prog w = .ok (.func fn first cap) w := fun _ _ _ _ => rfl
  go_enter_defers Tryz.func38, Tryz.ntmps38
  have HVB := hide (((Below.refl w.heap.size w).alloc (Nat.le_refl _) (.cells #[.int .u64 0, .slice none 0 0, .slice none 0 0, .slice none 0 0, .slice none 0 0, .slice none 0 0] 29)).alloc (by simp) (.cells #[.int .i64 0, .int .i64 0, .int .i64 0] 43))
  have HB1 := hide ((Blk.new w 29 #[.int .u64 0, .slice none 0 0, .slice none 0 0, .slice none 0 0, .slice none 0 0, .slice none 0 0]).alloc (.cells #[.int .i64 0, .int .i64 0, .int .i64 0] 43))
  have HB2 : Hid (Blk ((w.alloc (.cells #[.int .u64 0, .slice none 0 0, .slice none 0 0, .slice none 0 0, .slice none 0 0, .slice none 0 0] 29)).alloc (.cells #[.int .i64 0, .int .i64 0, .int .i64 0] 43)) (w.heap.size + 1) 43 #[.int .i64 0, .int .i64 0, .int .i64 0]) := hide (by have := Blk.new (w.alloc (.cells #[.int .u64 0, .slice none 0 0, .slice none 0 0, .slice none 0 0, .slice none 0 0, .slice none 0 0] 29)) 43 #[.int .i64 0, .int .i64 0, .int .i64 0]; simpa using this)
  go_wp2_with fail
  refine (HT1.out _ (HV.out.below HVB.out)).mono ?_
  rintro e w2 ⟨hb2, v, rfl, hown⟩
  have HC1 := hide (HB1.out.below hb2 HB1.out.lt)
  have HC2 := hide (HB2.out.below hb2 HB2.out.lt)
  have HL := hide (HVB.out.trans (hb2.mono (by simp; omega)))
  have hge : ∀ q, v.ownBlock = some q → w.heap.size + 2 ≤ q := fun q hq => by have := (hown.lt q hq).1; simpa using this
  have HC3 : Hid (Blk (((w2.setCell ⟨w.heap.size + 1, 0, none⟩ (.int .i64 0)).setCell ⟨w.heap.size + 1, 1, none⟩ (.int .i64 0)).setCell ⟨w.heap.size + 1, 2, none⟩ (.int .i64 0)) (w.heap.size + 1) 43 #[.int .i64 0, .int .i64 0, .int .i64 0]) := hide (((HC2.out.set_ 0 (.int .i64 0)).set_ 1 (.int .i64 0)).set_ 2 (.int .i64 0))
  have HC4 := hide (((HC1.out.far (p := ⟨w.heap.size + 1, 0, none⟩) (by simp) (.int .i64 0)).far (p := ⟨w.heap.size + 1, 1, none⟩) (by simp) (.int .i64 0)).far (p := ⟨w.heap.size + 1, 2, none⟩) (by simp) (.int .i64 0))
  have HL3 := hide (((HL.out.setCell (p := ⟨w.heap.size + 1, 0, none⟩) (by simp) (.int .i64 0)).setCell (p := ⟨w.heap.size + 1, 1, none⟩) (by simp) (.int .i64 0)).setCell (p := ⟨w.heap.size + 1, 2, none⟩) (by simp) (.int .i64 0))
  have hown3 := ownsRow_setCell_other (ownsRow_setCell_other (ownsRow_setCell_other hown (a := ⟨w.heap.size + 1, 0, none⟩) (fun e => by have h9 := hge _ e; simp at h9) (.int .i64 0)) (a := ⟨w.heap.size + 1, 1, none⟩) (fun e => by have h9 := hge _ e; simp at h9) (.int .i64 0)) (a := ⟨w.heap.size + 1, 2, none⟩) (fun e => by have h9 := hge _ e; simp at h9) (.int .i64 0)
  obtain ⟨A, cap, hvA, hst⟩ := pr_start hown3 HEL.out
  subst hvA
  simp only [size_setCell] at hst
  have HSP := hide hst
  have y0 : w2.cell? ⟨w.heap.size, 0, none⟩ = some (.int .u64 0) := HC1.out.cell 0
  have y1 : w2.cell? ⟨w.heap.size, 1, none⟩ = some (.slice none 0 0) := HC1.out.cell 1
  have y2 : w2.cell? ⟨w.heap.size, 2, none⟩ = some (.slice none 0 0) := HC1.out.cell 2
  have y3 : w2.cell? ⟨w.heap.size, 3, none⟩ = some (.slice none 0 0) := HC1.out.cell 3
  have y4 : w2.cell? ⟨w.heap.size, 4, none⟩ = some (.slice none 0 0) := HC1.out.cell 4
  have y5 : w2.cell? ⟨w.heap.size, 5, none⟩ = some (.slice none 0 0) := HC1.out.cell 5
  have z0 : w2.cell? ⟨w.heap.size + 1, 0, none⟩ = some (.int .i64 0) := HC2.out.cell 0
  have z1 : w2.cell? ⟨w.heap.size + 1, 1, none⟩ = some (.int .i64 0) := HC2.out.cell 1
  have z2 : w2.cell? ⟨w.heap.size + 1, 2, none⟩ = some (.int .i64 0) := HC2.out.cell 2
  have f1 := fun i => HC1.out.frozen i
  have f2 := fun i => HC2.out.frozen i
  have hl2 := HC2.out.lt
  clear hb2 hown hown3 hst hge
  go_wp2_with fail
  have HD1 := hide (HC4.out.alloc (.cells #[.slice A l.length cap, .int .u64 0, .slice none 0 0, .slice none 0 0, .slice none 0 0, .slice none 0 0, .slice none 0 0, .int .i64 0] 131))
  have HD2 := hide (HC3.out.alloc (.cells #[.slice A l.length cap, .int .u64 0, .slice none 0 0, .slice none 0 0, .slice none 0 0, .slice none 0 0, .slice none 0 0, .int .i64 0] 131))
  have HD3 := hide (HL3.out.alloc (by simp; omega) (.cells #[.slice A l.length cap, .int .u64 0, .slice none 0 0, .slice none 0 0, .slice none 0 0, .slice none 0 0, .slice none 0 0, .int .i64 0] 131))
  clear HC1 HC2 HC3 HC4 HL HL3 HB1 HB2 HVB
  refine (HFF.out _ _ HSP.out).mono ?_
  rintro e w4 ⟨hlow, ⟨c2, r, hm, rfl, hs4, ho4⟩ | ⟨f, hm, rfl⟩⟩
  rotate_left
  · have hE : endT m l = .error f := by unfold endT; rw [hm]
    have HE1 := HD1.out.below hlow (by omega)
    have HE2 := HD2.out.below hlow (by omega)
    have HE3 := hide (HD3.out.trans (hlow.mono (by omega)))
    clear y0 y1 y2 y3 y4 y5 z0 z1 z2 f1 f2 HFF HD1 HD2 HD3
    refine leaves_cons (f := 76) (args := #[.pointer (some ⟨w.heap.size, 0, none⟩), .pointer (some ⟨w.heap.size + 1, 0, none⟩)]) (by simp) (by simp [go_sem]) ?_
    refine (catch_fault w.heap.size w.heap.size (w.heap.size + 1) f [] _ HE1 HE2 (by omega) (Nat.le_refl _) (by omega)).mono ?_
    rintro e u' w9 ⟨rfl, rfl, h1, h2, h3⟩
    have HR : PrunV (endT m l) w (.returned (.tuple #[cfgV zeroC, .agg (fltP f)])) w9 := ⟨HE3.out.trans h3, by rw [hE]⟩
    exact ⟨_, res_cells rfl _ _ w.heap.size (w.heap.size + 1) _ _ rfl rfl (load_cfgP h1 rfl) (pload_fault h2 rfl), HR⟩
  · obtain ⟨t, r2, hl⟩ := hs4.form
    subst hl
    have HTK := hide (take_calls 0 w2.heap.size t r2 c2 _ w4 hs4)
    have HE1 := hide (HD1.out.below hlow (by omega))
    have HE2 := hide (HD2.out.below hlow (by omega))
    have HE3 := hide (HD3.out.trans (hlow.mono (by omega)))
    have HO4 := hide (fun (W : World) (hW : OnlyX w2.heap.size w4 W) => hs4.own ho4 hW)
    have HM := hide hm
    clear y0 y1 y2 y3 y4 y5 z0 z1 z2 f1 f2 HFF HD1 HD2 HD3 hlow hm ho4
    have hX4 := hs4.lt
    clear hs4
    go_wp2_with fail
    refine HTK.out.mono ?_
    rintro e w5 ⟨ho5, ⟨hk, rfl, _, A5, n5, cp5, hb5⟩ | ⟨hk, rfl⟩⟩
    rotate_left
    · have hE : endT m l = .error (4, t.line, t.col) := by unfold endT; rw [HM.out]; simp only; unfold takeT; simp only; rw [if_neg hk]
      have HG1 := ho5.blk HE1.out (by omega)
      have HG2 := ho5.blk HE2.out (by omega)
      have HG3 := hide (HE3.out.trans ((ho5.low hX4).mono (by omega)))
      refine leaves_cons (f := 76) (args := #[.pointer (some ⟨w.heap.size, 0, none⟩), .pointer (some ⟨w.heap.size + 1, 0, none⟩)]) (by simp) (by simp [go_sem]) ?_
      refine (catch_fault w.heap.size w.heap.size (w.heap.size + 1) (4, t.line, t.col) [] _ HG1 HG2 (by omega) (Nat.le_refl _) (by omega)).mono ?_
      rintro e u' w9 ⟨rfl, rfl, h1, h2, h3⟩
      have HR : PrunV (endT m l) w (.returned (.tuple #[cfgV zeroC, .agg (fltP (4, t.line, t.col))])) w9 := ⟨HG3.out.trans h3, by rw [hE]⟩
      exact ⟨_, res_cells rfl _ _ w.heap.size (w.heap.size + 1) _ _ rfl rfl (load_cfgP h1 rfl) (pload_fault h2 rfl), HR⟩
    · have hE : endT m l = .ok (pcOf c2) := by unfold endT; rw [HM.out]; simp only; unfold takeT; simp only; rw [if_pos hk]
      have HG1 := hide (ho5.blk HE1.out (by omega))
      have HG2 := hide (ho5.blk HE2.out (by omega))
      have HG3 := hide (HE3.out.trans ((ho5.low hX4).mono (by omega)))
      have HG4 := hide (HO4.out _ ho5)
      have q1 : w5.cell? ⟨w2.heap.size, 1, none⟩ = some (.int .u64 (c2.frame : Int)) := hb5.cell 1
      have q2 : w5.cell? ⟨w2.heap.size, 2, none⟩ = some (.slice c2.parts.a c2.parts.l.length c2.parts.c) := hb5.cell 2
      have q3 : w5.cell? ⟨w2.heap.size, 3, none⟩ = some (.slice c2.wins.a c2.wins.l.length c2.wins.c) := hb5.cell 3
      have q4 : w5.cell? ⟨w2.heap.size, 4, none⟩ = some (.slice c2.regs.a c2.regs.l.length c2.regs.c) := hb5.cell 4
      have q5 : w5.cell? ⟨w2.heap.size, 5, none⟩ = some (.slice c2.ports.a c2.ports.l.length c2.ports.c) := hb5.cell 5
      have q6 : w5.cell? ⟨w2.heap.size, 6, none⟩ = some (.slice c2.chans.a c2.chans.l.length c2.chans.c) := hb5.cell 6
      have y0 : w5.cell? ⟨w.heap.size, 0, none⟩ = some (.int .u64 0) := HG1.out.cell 0
      have y1 : w5.cell? ⟨w.heap.size, 1, none⟩ = some (.slice none 0 0) := HG1.out.cell 1
      have y2 : w5.cell? ⟨w.heap.size, 2, none⟩ = some (.slice none 0 0) := HG1.out.cell 2
      have y3 : w5.cell? ⟨w.heap.size, 3, none⟩ = some (.slice none 0 0) := HG1.out.cell 3
      have y4 : w5.cell? ⟨w.heap.size, 4, none⟩ = some (.slice none 0 0) := HG1.out.cell 4
      have y5 : w5.cell? ⟨w.heap.size, 5, none⟩ = some (.slice none 0 0) := HG1.out.cell 5
      have z0 : w5.cell? ⟨w.heap.size + 1, 0, none⟩ = some (.int .i64 0) := HG2.out.cell 0
      have z1 : w5.cell? ⟨w.heap.size + 1, 1, none⟩ = some (.int .i64 0) := HG2.out.cell 1
      have z2 : w5.cell? ⟨w.heap.size + 1, 2, none⟩ = some (.int .i64 0) := HG2.out.cell 2
      have f1 := fun i => HG1.out.frozen i
      have f2 := fun i => HG2.out.frozen i
      have hl5 := HG2.out.lt
      have hlb := hb5.lt
      have HZ1 : Blk (((((((((w5.setCell ⟨w.heap.size, 0, none⟩ (.int .u64 (c2.frame : Int))).setCell ⟨w.heap.size, 1, none⟩ (.slice c2.parts.a c2.parts.l.length c2.parts.c)).setCell ⟨w.heap.size, 2, none⟩ (.slice c2.wins.a c2.wins.l.length c2.wins.c)).setCell ⟨w.heap.size, 3, none⟩ (.slice c2.regs.a c2.regs.l.length c2.regs.c)).setCell ⟨w.heap.size, 4, none⟩ (.slice c2.ports.a c2.ports.l.length c2.ports.c)).setCell ⟨w.heap.size, 5, none⟩ (.slice c2.chans.a c2.chans.l.length c2.chans.c)).setCell ⟨w.heap.size + 1, 0, none⟩ (.int .i64 0)).setCell ⟨w.heap.size + 1, 1, none⟩ (.int .i64 0)).setCell ⟨w.heap.size + 1, 2, none⟩ (.int .i64 0)) w.heap.size 29 #[.int .u64 (c2.frame : Int), .slice c2.parts.a c2.parts.l.length c2.parts.c, .slice c2.wins.a c2.wins.l.length c2.wins.c, .slice c2.regs.a c2.regs.l.length c2.regs.c, .slice c2.ports.a c2.ports.l.length c2.ports.c, .slice c2.chans.a c2.chans.l.length c2.chans.c] := (((((((((HG1.out.set_ 0 (.int .u64 (c2.frame : Int))).set_ 1 (.slice c2.parts.a c2.parts.l.length c2.parts.c)).set_ 2 (.slice c2.wins.a c2.wins.l.length c2.wins.c)).set_ 3 (.slice c2.regs.a c2.regs.l.length c2.regs.c)).set_ 4 (.slice c2.ports.a c2.ports.l.length c2.ports.c)).set_ 5 (.slice c2.chans.a c2.chans.l.length c2.chans.c)).far (p := ⟨w.heap.size + 1, 0, none⟩) (by simp) (.int .i64 0)).far (p := ⟨w.heap.size + 1, 1, none⟩) (by simp) (.int .i64 0)).far (p := ⟨w.heap.size + 1, 2, none⟩) (by simp) (.int .i64 0))
      have HZ2 : Blk (((((((((w5.setCell ⟨w.heap.size, 0, none⟩ (.int .u64 (c2.frame : Int))).setCell ⟨w.heap.size, 1, none⟩ (.slice c2.parts.a c2.parts.l.length c2.parts.c)).setCell ⟨w.heap.size, 2, none⟩ (.slice c2.wins.a c2.wins.l.length c2.wins.c)).setCell ⟨w.heap.size, 3, none⟩ (.slice c2.regs.a c2.regs.l.length c2.regs.c)).setCell ⟨w.heap.size, 4, none⟩ (.slice c2.ports.a c2.ports.l.length c2.ports.c)).setCell ⟨w.heap.size, 5, none⟩ (.slice c2.chans.a c2.chans.l.length c2.chans.c)).setCell ⟨w.heap.size + 1, 0, none⟩ (.int .i64 0)).setCell ⟨w.heap.size + 1, 1, none⟩ (.int .i64 0)).setCell ⟨w.heap.size + 1, 2, none⟩ (.int .i64 0)) (w.heap.size + 1) 43 #[.int .i64 0, .int .i64 0, .int .i64 0] := (((((((((HG2.out.far (p := ⟨w.heap.size, 0, none⟩) (by simp) (.int .u64 (c2.frame : Int))).far (p := ⟨w.heap.size, 1, none⟩) (by simp) (.slice c2.parts.a c2.parts.l.length c2.parts.c)).far (p := ⟨w.heap.size, 2, none⟩) (by simp) (.slice c2.wins.a c2.wins.l.length c2.wins.c)).far (p := ⟨w.heap.size, 3, none⟩) (by simp) (.slice c2.regs.a c2.regs.l.length c2.regs.c)).far (p := ⟨w.heap.size, 4, none⟩) (by simp) (.slice c2.ports.a c2.ports.l.length c2.ports.c)).far (p := ⟨w.heap.size, 5, none⟩) (by simp) (.slice c2.chans.a c2.chans.l.length c2.chans.c)).set_ 0 (.int .i64 0)).set_ 1 (.int .i64 0)).set_ 2 (.int .i64 0))
      have HZ3 : Below w.heap.size w (((((((((w5.setCell ⟨w.heap.size, 0, none⟩ (.int .u64 (c2.frame : Int))).setCell ⟨w.heap.size, 1, none⟩ (.slice c2.parts.a c2.parts.l.length c2.parts.c)).setCell ⟨w.heap.size, 2, none⟩ (.slice c2.wins.a c2.wins.l.length c2.wins.c)).setCell ⟨w.heap.size, 3, none⟩ (.slice c2.regs.a c2.regs.l.length c2.regs.c)).setCell ⟨w.heap.size, 4, none⟩ (.slice c2.ports.a c2.ports.l.length c2.ports.c)).setCell ⟨w.heap.size, 5, none⟩ (.slice c2.chans.a c2.chans.l.length c2.chans.c)).setCell ⟨w.heap.size + 1, 0, none⟩ (.int .i64 0)).setCell ⟨w.heap.size + 1, 1, none⟩ (.int .i64 0)).setCell ⟨w.heap.size + 1, 2, none⟩ (.int .i64 0)) := (((((((((HG3.out.setCell (p := ⟨w.heap.size, 0, none⟩) (Nat.le_refl _) (.int .u64 (c2.frame : Int))).setCell (p := ⟨w.heap.size, 1, none⟩) (Nat.le_refl _) (.slice c2.parts.a c2.parts.l.length c2.parts.c)).setCell (p := ⟨w.heap.size, 2, none⟩) (Nat.le_refl _) (.slice c2.wins.a c2.wins.l.length c2.wins.c)).setCell (p := ⟨w.heap.size, 3, none⟩) (Nat.le_refl _) (.slice c2.regs.a c2.regs.l.length c2.regs.c)).setCell (p := ⟨w.heap.size, 4, none⟩) (Nat.le_refl _) (.slice c2.ports.a c2.ports.l.length c2.ports.c)).setCell (p := ⟨w.heap.size, 5, none⟩) (Nat.le_refl _) (.slice c2.chans.a c2.chans.l.length c2.chans.c)).setCell (p := ⟨w.heap.size + 1, 0, none⟩) (by simp) (.int .i64 0)).setCell (p := ⟨w.heap.size + 1, 1, none⟩) (by simp) (.int .i64 0)).setCell (p := ⟨w.heap.size + 1, 2, none⟩) (by simp) (.int .i64 0))
      have HZ4 : OwnC (w2.heap.size + 1) c2 (((((((((w5.setCell ⟨w.heap.size, 0, none⟩ (.int .u64 (c2.frame : Int))).setCell ⟨w.heap.size, 1, none⟩ (.slice c2.parts.a c2.parts.l.length c2.parts.c)).setCell ⟨w.heap.size, 2, none⟩ (.slice c2.wins.a c2.wins.l.length c2.wins.c)).setCell ⟨w.heap.size, 3, none⟩ (.slice c2.regs.a c2.regs.l.length c2.regs.c)).setCell ⟨w.heap.size, 4, none⟩ (.slice c2.ports.a c2.ports.l.length c2.ports.c)).setCell ⟨w.heap.size, 5, none⟩ (.slice c2.chans.a c2.chans.l.length c2.chans.c)).setCell ⟨w.heap.size + 1, 0, none⟩ (.int .i64 0)).setCell ⟨w.heap.size + 1, 1, none⟩ (.int .i64 0)).setCell ⟨w.heap.size + 1, 2, none⟩ (.int .i64 0)) := (((((((((HG4.out.setLowP (p := ⟨w.heap.size, 0, none⟩) (by simp; omega) (.int .u64 (c2.frame : Int))).setLowP (p := ⟨w.heap.size, 1, none⟩) (by simp; omega) (.slice c2.parts.a c2.parts.l.length c2.parts.c)).setLowP (p := ⟨w.heap.size, 2, none⟩) (by simp; omega) (.slice c2.wins.a c2.wins.l.length c2.wins.c)).setLowP (p := ⟨w.heap.size, 3, none⟩) (by simp; omega) (.slice c2.regs.a c2.regs.l.length c2.regs.c)).setLowP (p := ⟨w.heap.size, 4, none⟩) (by simp; omega) (.slice c2.ports.a c2.ports.l.length c2.ports.c)).setLowP (p := ⟨w.heap.size, 5, none⟩) (by simp; omega) (.slice c2.chans.a c2.chans.l.length c2.chans.c)).setLowP (p := ⟨w.heap.size + 1, 0, none⟩) (by simp; omega) (.int .i64 0)).setLowP (p := ⟨w.heap.size + 1, 1, none⟩) (by simp; omega) (.int .i64 0)).setLowP (p := ⟨w.heap.size + 1, 2, none⟩) (by simp; omega) (.int .i64 0))
      have HR : PrunV (endT m l) w (.returned (.tuple #[cfgV c2, .agg #[.int .i64 0, .int .i64 0, .int .i64 0]])) (((((((((w5.setCell ⟨w.heap.size, 0, none⟩ (.int .u64 (c2.frame : Int))).setCell ⟨w.heap.size, 1, none⟩ (.slice c2.parts.a c2.parts.l.length c2.parts.c)).setCell ⟨w.heap.size, 2, none⟩ (.slice c2.wins.a c2.wins.l.length c2.wins.c)).setCell ⟨w.heap.size, 3, none⟩ (.slice c2.regs.a c2.regs.l.length c2.regs.c)).setCell ⟨w.heap.size, 4, none⟩ (.slice c2.ports.a c2.ports.l.length c2.ports.c)).setCell ⟨w.heap.size, 5, none⟩ (.slice c2.chans.a c2.chans.l.length c2.chans.c)).setCell ⟨w.heap.size + 1, 0, none⟩ (.int .i64 0)).setCell ⟨w.heap.size + 1, 1, none⟩ (.int .i64 0)).setCell ⟨w.heap.size + 1, 2, none⟩ (.int .i64 0)) := ⟨HZ3, by rw [hE]; exact ⟨c2, rfl, HZ4.base (by omega), rfl⟩⟩
      have HZ1 := hide HZ1
      have HZ2 := hide HZ2
      have HR := hide HR
      clear HZ3 HZ4 hE HTK HO4 HM ho5 hk hb5
      go_wp2_with fail
      refine leaves_cons (f := 76) (args := #[.pointer (some ⟨w.heap.size, 0, none⟩), .pointer (some ⟨w.heap.size + 1, 0, none⟩)]) (by simp) (by simp [go_sem]) ?_
      refine (catch_idle _ _ _).mono ?_
      rintro e u' w9 ⟨rfl, rfl, rfl⟩
      exact ⟨_, res_cells rfl _ _ w.heap.size (w.heap.size + 1) _ _ rfl rfl (load_cfgP HZ1.out rfl) (pload_fault HZ2.out rfl), HR.out⟩
end Go.Proofs.YtcnihmlmaigkdaaGreatDoor
namespace Go.Proofs.YtcnihmlmaigkdaaGreatDoor
open Go.RowKit Go.Lib
set_option linter.unusedVariables false

theorem parseO_run (x : ByteArray) : parseO x = runO moduleT x := by unfold parseO runO parseT; cases outOf x <;> rfl
theorem parseRO_run (x : ByteArray) : parseRO x = runO (allRecT zeroPC) x := by unfold parseRO runO parseRecT; cases outOf x <;> rfl
theorem PrunV.shape {o : Except Flt PC} {w w' : World} {e : Ending} (h : PrunV o w e w') : ∃ c f1 f2 f3, e = .returned (.tuple #[cfgV c, .agg #[.int .i64 f1, .int .i64 f2, .int .i64 f3]]) := by
  obtain ⟨_, h⟩ := h
  cases o with
  | error f => exact ⟨zeroC, _, _, _, h⟩
  | ok pc => obtain ⟨c, h, _⟩ := h; exact ⟨c, _, _, _, h⟩
theorem PrunV.more {o : Except Flt PC} {w W w2 w' : World} {e : Ending} (h : PrunV o W e w2) (hb : Below w.heap.size w w') (ho : ∀ c, OwnC W.heap.size c w2 → OwnC w.heap.size c w') : PrunV o w e w' := by
  obtain ⟨_, h⟩ := h
  refine ⟨hb, ?_⟩
  cases o with
  | error f => exact h
  | ok pc => obtain ⟨c, h, h2, h3⟩ := h; exact ⟨c, h, ho c h2, h3⟩
theorem run_calls (m : PM PC) (F : FuncId) (x : ByteArray) (w : World) (hv : Vars w) (eF : ∀ args w, (callFunc F args).run Tryz.prog w = .ok (.enter F args) w)
    (hF : ∀ X l W, PrAt X l zeroC 0 W → TxtLe l → Calls Tryz.prog F #[.pointer (some ⟨X, 0, none⟩)] W (PmV m X l W)) :
    Calls Tryz.prog 38 #[.string x, .func (.func F) #[] #[]] w (PrunV (runO m x) w) := by
  cases ho : outOf x with
  | bad c0 i0 j0 => exact run_bad m F x c0 i0 j0 (out_code ho) ho w hv
  | ok l => exact run_good m F x l ho (out_txt ho) w hv eF (fun X W hW => hF X l W hW (out_txt ho))
set_option maxRecDepth 100000 in
set_option maxHeartbeats 2000000 in
theorem PParse_calls (x : ByteArray) (w : World) (hv : Vars w) : Calls Tryz.prog 19 #[.string x] w (PrunV (parseO x) w) := by
  rw [parseO_run]
  have eF : ∀ args w, (callFunc 39 args).run Tryz.prog w = .ok (.enter 39 args) w := enters_of Tryz.func39 (by kernel_rfl) rfl
  have HRN := hide (fun W (hW : Vars W) => run_calls moduleT 39 x W hW eF (fun X l W hP hT => module_pm X l W hP hT))
  have HV := hide hv
  obtain ⟨o, ho⟩ : ∃ o, o = runO moduleT x := ⟨_, rfl⟩
  rw [← ho] at HRN ⊢
  clear hv eF ho
  have HVB := hide (((Below.refl w.heap.size w).alloc (Nat.le_refl _) (.cells #[.int .u64 0, .slice none 0 0, .slice none 0 0, .slice none 0 0, .slice none 0 0, .slice none 0 0] 29)).alloc (by simp) (.cells #[.int .i64 0, .int .i64 0, .int .i64 0] 43))
  have HB1 := hide ((Blk.new w 29 #[.int .u64 0, .slice none 0 0, .slice none 0 0, .slice none 0 0, .slice none 0 0, .slice none 0 0]).alloc (.cells #[.int .i64 0, .int .i64 0, .int .i64 0] 43))
  have HB2 : Hid (Blk ((w.alloc (.cells #[.int .u64 0, .slice none 0 0, .slice none 0 0, .slice none 0 0, .slice none 0 0, .slice none 0 0] 29)).alloc (.cells #[.int .i64 0, .int .i64 0, .int .i64 0] 43)) (w.heap.size + 1) 43 #[.int .i64 0, .int .i64 0, .int .i64 0]) := hide (by have := Blk.new (w.alloc (.cells #[.int .u64 0, .slice none 0 0, .slice none 0 0, .slice none 0 0, .slice none 0 0, .slice none 0 0] 29)) 43 #[.int .i64 0, .int .i64 0, .int .i64 0]; simpa using this)
  go_enter Tryz.func19, Tryz.ntmps19
  go_wp2_with fail
  refine (HRN.out _ (HV.out.below HVB.out)).mono ?_
  intro e w5 hP
  obtain ⟨c2, f1, f2, f3, rfl⟩ := hP.shape
  have hb5 := hP.1
  have HG1 := hide (HB1.out.below hb5 HB1.out.lt)
  have HG2 := hide (HB2.out.below hb5 HB2.out.lt)
  have HG3 := hide (HVB.out.trans (hb5.mono (by simp; omega)))
  have y0 : w5.cell? ⟨w.heap.size, 0, none⟩ = some (.int .u64 0) := HG1.out.cell 0
  have y1 : w5.cell? ⟨w.heap.size, 1, none⟩ = some (.slice none 0 0) := HG1.out.cell 1
  have y2 : w5.cell? ⟨w.heap.size, 2, none⟩ = some (.slice none 0 0) := HG1.out.cell 2
  have y3 : w5.cell? ⟨w.heap.size, 3, none⟩ = some (.slice none 0 0) := HG1.out.cell 3
  have y4 : w5.cell? ⟨w.heap.size, 4, none⟩ = some (.slice none 0 0) := HG1.out.cell 4
  have y5 : w5.cell? ⟨w.heap.size, 5, none⟩ = some (.slice none 0 0) := HG1.out.cell 5
  have z0 : w5.cell? ⟨w.heap.size + 1, 0, none⟩ = some (.int .i64 0) := HG2.out.cell 0
  have z1 : w5.cell? ⟨w.heap.size + 1, 1, none⟩ = some (.int .i64 0) := HG2.out.cell 1
  have z2 : w5.cell? ⟨w.heap.size + 1, 2, none⟩ = some (.int .i64 0) := HG2.out.cell 2
  have g1 := fun i => HG1.out.frozen i
  have g2 := fun i => HG2.out.frozen i
  have hl5 := HG2.out.lt
  have HZ1 : Hid (Blk (((((((((w5.setCell ⟨w.heap.size, 0, none⟩ (.int .u64 (c2.frame : Int))).setCell ⟨w.heap.size, 1, none⟩ (.slice c2.parts.a c2.parts.l.length c2.parts.c)).setCell ⟨w.heap.size, 2, none⟩ (.slice c2.wins.a c2.wins.l.length c2.wins.c)).setCell ⟨w.heap.size, 3, none⟩ (.slice c2.regs.a c2.regs.l.length c2.regs.c)).setCell ⟨w.heap.size, 4, none⟩ (.slice c2.ports.a c2.ports.l.length c2.ports.c)).setCell ⟨w.heap.size, 5, none⟩ (.slice c2.chans.a c2.chans.l.length c2.chans.c)).setCell ⟨w.heap.size + 1, 0, none⟩ (.int .i64 f1)).setCell ⟨w.heap.size + 1, 1, none⟩ (.int .i64 f2)).setCell ⟨w.heap.size + 1, 2, none⟩ (.int .i64 f3)) w.heap.size 29 #[.int .u64 (c2.frame : Int), .slice c2.parts.a c2.parts.l.length c2.parts.c, .slice c2.wins.a c2.wins.l.length c2.wins.c, .slice c2.regs.a c2.regs.l.length c2.regs.c, .slice c2.ports.a c2.ports.l.length c2.ports.c, .slice c2.chans.a c2.chans.l.length c2.chans.c]) := hide (((((((((HG1.out.set_ 0 (.int .u64 (c2.frame : Int))).set_ 1 (.slice c2.parts.a c2.parts.l.length c2.parts.c)).set_ 2 (.slice c2.wins.a c2.wins.l.length c2.wins.c)).set_ 3 (.slice c2.regs.a c2.regs.l.length c2.regs.c)).set_ 4 (.slice c2.ports.a c2.ports.l.length c2.ports.c)).set_ 5 (.slice c2.chans.a c2.chans.l.length c2.chans.c)).far (p := ⟨w.heap.size + 1, 0, none⟩) (by simp) (.int .i64 f1)).far (p := ⟨w.heap.size + 1, 1, none⟩) (by simp) (.int .i64 f2)).far (p := ⟨w.heap.size + 1, 2, none⟩) (by simp) (.int .i64 f3))
  have HZ2 : Hid (Blk (((((((((w5.setCell ⟨w.heap.size, 0, none⟩ (.int .u64 (c2.frame : Int))).setCell ⟨w.heap.size, 1, none⟩ (.slice c2.parts.a c2.parts.l.length c2.parts.c)).setCell ⟨w.heap.size, 2, none⟩ (.slice c2.wins.a c2.wins.l.length c2.wins.c)).setCell ⟨w.heap.size, 3, none⟩ (.slice c2.regs.a c2.regs.l.length c2.regs.c)).setCell ⟨w.heap.size, 4, none⟩ (.slice c2.ports.a c2.ports.l.length c2.ports.c)).setCell ⟨w.heap.size, 5, none⟩ (.slice c2.chans.a c2.chans.l.length c2.chans.c)).setCell ⟨w.heap.size + 1, 0, none⟩ (.int .i64 f1)).setCell ⟨w.heap.size + 1, 1, none⟩ (.int .i64 f2)).setCell ⟨w.heap.size + 1, 2, none⟩ (.int .i64 f3)) (w.heap.size + 1) 43 #[.int .i64 f1, .int .i64 f2, .int .i64 f3]) := hide (((((((((HG2.out.far (p := ⟨w.heap.size, 0, none⟩) (by simp) (.int .u64 (c2.frame : Int))).far (p := ⟨w.heap.size, 1, none⟩) (by simp) (.slice c2.parts.a c2.parts.l.length c2.parts.c)).far (p := ⟨w.heap.size, 2, none⟩) (by simp) (.slice c2.wins.a c2.wins.l.length c2.wins.c)).far (p := ⟨w.heap.size, 3, none⟩) (by simp) (.slice c2.regs.a c2.regs.l.length c2.regs.c)).far (p := ⟨w.heap.size, 4, none⟩) (by simp) (.slice c2.ports.a c2.ports.l.length c2.ports.c)).far (p := ⟨w.heap.size, 5, none⟩) (by simp) (.slice c2.chans.a c2.chans.l.length c2.chans.c)).set_ 0 (.int .i64 f1)).set_ 1 (.int .i64 f2)).set_ 2 (.int .i64 f3))
  have HR : Hid (PrunV o w (.returned (.tuple #[cfgV c2, .agg #[.int .i64 f1, .int .i64 f2, .int .i64 f3]])) (((((((((w5.setCell ⟨w.heap.size, 0, none⟩ (.int .u64 (c2.frame : Int))).setCell ⟨w.heap.size, 1, none⟩ (.slice c2.parts.a c2.parts.l.length c2.parts.c)).setCell ⟨w.heap.size, 2, none⟩ (.slice c2.wins.a c2.wins.l.length c2.wins.c)).setCell ⟨w.heap.size, 3, none⟩ (.slice c2.regs.a c2.regs.l.length c2.regs.c)).setCell ⟨w.heap.size, 4, none⟩ (.slice c2.ports.a c2.ports.l.length c2.ports.c)).setCell ⟨w.heap.size, 5, none⟩ (.slice c2.chans.a c2.chans.l.length c2.chans.c)).setCell ⟨w.heap.size + 1, 0, none⟩ (.int .i64 f1)).setCell ⟨w.heap.size + 1, 1, none⟩ (.int .i64 f2)).setCell ⟨w.heap.size + 1, 2, none⟩ (.int .i64 f3))) := hide (hP.more (((((((((HG3.out.setCell (p := ⟨w.heap.size, 0, none⟩) (by simp) (.int .u64 (c2.frame : Int))).setCell (p := ⟨w.heap.size, 1, none⟩) (by simp) (.slice c2.parts.a c2.parts.l.length c2.parts.c)).setCell (p := ⟨w.heap.size, 2, none⟩) (by simp) (.slice c2.wins.a c2.wins.l.length c2.wins.c)).setCell (p := ⟨w.heap.size, 3, none⟩) (by simp) (.slice c2.regs.a c2.regs.l.length c2.regs.c)).setCell (p := ⟨w.heap.size, 4, none⟩) (by simp) (.slice c2.ports.a c2.ports.l.length c2.ports.c)).setCell (p := ⟨w.heap.size, 5, none⟩) (by simp) (.slice c2.chans.a c2.chans.l.length c2.chans.c)).setCell (p := ⟨w.heap.size + 1, 0, none⟩) (by simp) (.int .i64 f1)).setCell (p := ⟨w.heap.size + 1, 1, none⟩) (by simp) (.int .i64 f2)).setCell (p := ⟨w.heap.size + 1, 2, none⟩) (by simp) (.int .i64 f3)) (fun c ho => OwnC.base (B := ((w.alloc (.cells #[.int .u64 0, .slice none 0 0, .slice none 0 0, .slice none 0 0, .slice none 0 0, .slice none 0 0] 29)).alloc (.cells #[.int .i64 0, .int .i64 0, .int .i64 0] 43)).heap.size) (((((((((ho.setLowP (p := ⟨w.heap.size, 0, none⟩) (by simp <;> omega) (.int .u64 (c2.frame : Int))).setLowP (p := ⟨w.heap.size, 1, none⟩) (by simp <;> omega) (.slice c2.parts.a c2.parts.l.length c2.parts.c)).setLowP (p := ⟨w.heap.size, 2, none⟩) (by simp <;> omega) (.slice c2.wins.a c2.wins.l.length c2.wins.c)).setLowP (p := ⟨w.heap.size, 3, none⟩) (by simp <;> omega) (.slice c2.regs.a c2.regs.l.length c2.regs.c)).setLowP (p := ⟨w.heap.size, 4, none⟩) (by simp <;> omega) (.slice c2.ports.a c2.ports.l.length c2.ports.c)).setLowP (p := ⟨w.heap.size, 5, none⟩) (by simp <;> omega) (.slice c2.chans.a c2.chans.l.length c2.chans.c)).setLowP (p := ⟨w.heap.size + 1, 0, none⟩) (by simp <;> omega) (.int .i64 f1)).setLowP (p := ⟨w.heap.size + 1, 1, none⟩) (by simp <;> omega) (.int .i64 f2)).setLowP (p := ⟨w.heap.size + 1, 2, none⟩) (by simp <;> omega) (.int .i64 f3)) (by simp; omega)))
  clear hP hb5 HG3
  unfold cfgV
  go_wp2_with fail
  exact ⟨rfl, _, res_cells rfl _ _ w.heap.size (w.heap.size + 1) _ _ rfl rfl (load_cfgP HZ1.out rfl) (pload_fault HZ2.out rfl), HR.out⟩
set_option maxRecDepth 100000 in
set_option maxHeartbeats 2000000 in
theorem PRecords_calls (x : ByteArray) (w : World) (hv : Vars w) : Calls Tryz.prog 20 #[.string x] w (PrunV (parseRO x) w) := by
  rw [parseRO_run]
  have eF : ∀ args w, (callFunc 40 args).run Tryz.prog w = .ok (.enter 40 args) w := enters_of Tryz.func40 (by kernel_rfl) rfl
  have HRN := hide (fun W (hW : Vars W) => run_calls (allRecT zeroPC) 40 x W hW eF (fun X l W hP hT => records_pm X l W hP hT))
  have HV := hide hv
  obtain ⟨o, ho⟩ : ∃ o, o = runO (allRecT zeroPC) x := ⟨_, rfl⟩
  rw [← ho] at HRN ⊢
  clear hv eF ho
  have HVB := hide (((Below.refl w.heap.size w).alloc (Nat.le_refl _) (.cells #[.int .u64 0, .slice none 0 0, .slice none 0 0, .slice none 0 0, .slice none 0 0, .slice none 0 0] 29)).alloc (by simp) (.cells #[.int .i64 0, .int .i64 0, .int .i64 0] 43))
  have HB1 := hide ((Blk.new w 29 #[.int .u64 0, .slice none 0 0, .slice none 0 0, .slice none 0 0, .slice none 0 0, .slice none 0 0]).alloc (.cells #[.int .i64 0, .int .i64 0, .int .i64 0] 43))
  have HB2 : Hid (Blk ((w.alloc (.cells #[.int .u64 0, .slice none 0 0, .slice none 0 0, .slice none 0 0, .slice none 0 0, .slice none 0 0] 29)).alloc (.cells #[.int .i64 0, .int .i64 0, .int .i64 0] 43)) (w.heap.size + 1) 43 #[.int .i64 0, .int .i64 0, .int .i64 0]) := hide (by have := Blk.new (w.alloc (.cells #[.int .u64 0, .slice none 0 0, .slice none 0 0, .slice none 0 0, .slice none 0 0, .slice none 0 0] 29)) 43 #[.int .i64 0, .int .i64 0, .int .i64 0]; simpa using this)
  go_enter Tryz.func20, Tryz.ntmps20
  go_wp2_with fail
  refine (HRN.out _ (HV.out.below HVB.out)).mono ?_
  intro e w5 hP
  obtain ⟨c2, f1, f2, f3, rfl⟩ := hP.shape
  have hb5 := hP.1
  have HG1 := hide (HB1.out.below hb5 HB1.out.lt)
  have HG2 := hide (HB2.out.below hb5 HB2.out.lt)
  have HG3 := hide (HVB.out.trans (hb5.mono (by simp; omega)))
  have y0 : w5.cell? ⟨w.heap.size, 0, none⟩ = some (.int .u64 0) := HG1.out.cell 0
  have y1 : w5.cell? ⟨w.heap.size, 1, none⟩ = some (.slice none 0 0) := HG1.out.cell 1
  have y2 : w5.cell? ⟨w.heap.size, 2, none⟩ = some (.slice none 0 0) := HG1.out.cell 2
  have y3 : w5.cell? ⟨w.heap.size, 3, none⟩ = some (.slice none 0 0) := HG1.out.cell 3
  have y4 : w5.cell? ⟨w.heap.size, 4, none⟩ = some (.slice none 0 0) := HG1.out.cell 4
  have y5 : w5.cell? ⟨w.heap.size, 5, none⟩ = some (.slice none 0 0) := HG1.out.cell 5
  have z0 : w5.cell? ⟨w.heap.size + 1, 0, none⟩ = some (.int .i64 0) := HG2.out.cell 0
  have z1 : w5.cell? ⟨w.heap.size + 1, 1, none⟩ = some (.int .i64 0) := HG2.out.cell 1
  have z2 : w5.cell? ⟨w.heap.size + 1, 2, none⟩ = some (.int .i64 0) := HG2.out.cell 2
  have g1 := fun i => HG1.out.frozen i
  have g2 := fun i => HG2.out.frozen i
  have hl5 := HG2.out.lt
  have HZ1 : Hid (Blk (((((((((w5.setCell ⟨w.heap.size, 0, none⟩ (.int .u64 (c2.frame : Int))).setCell ⟨w.heap.size, 1, none⟩ (.slice c2.parts.a c2.parts.l.length c2.parts.c)).setCell ⟨w.heap.size, 2, none⟩ (.slice c2.wins.a c2.wins.l.length c2.wins.c)).setCell ⟨w.heap.size, 3, none⟩ (.slice c2.regs.a c2.regs.l.length c2.regs.c)).setCell ⟨w.heap.size, 4, none⟩ (.slice c2.ports.a c2.ports.l.length c2.ports.c)).setCell ⟨w.heap.size, 5, none⟩ (.slice c2.chans.a c2.chans.l.length c2.chans.c)).setCell ⟨w.heap.size + 1, 0, none⟩ (.int .i64 f1)).setCell ⟨w.heap.size + 1, 1, none⟩ (.int .i64 f2)).setCell ⟨w.heap.size + 1, 2, none⟩ (.int .i64 f3)) w.heap.size 29 #[.int .u64 (c2.frame : Int), .slice c2.parts.a c2.parts.l.length c2.parts.c, .slice c2.wins.a c2.wins.l.length c2.wins.c, .slice c2.regs.a c2.regs.l.length c2.regs.c, .slice c2.ports.a c2.ports.l.length c2.ports.c, .slice c2.chans.a c2.chans.l.length c2.chans.c]) := hide (((((((((HG1.out.set_ 0 (.int .u64 (c2.frame : Int))).set_ 1 (.slice c2.parts.a c2.parts.l.length c2.parts.c)).set_ 2 (.slice c2.wins.a c2.wins.l.length c2.wins.c)).set_ 3 (.slice c2.regs.a c2.regs.l.length c2.regs.c)).set_ 4 (.slice c2.ports.a c2.ports.l.length c2.ports.c)).set_ 5 (.slice c2.chans.a c2.chans.l.length c2.chans.c)).far (p := ⟨w.heap.size + 1, 0, none⟩) (by simp) (.int .i64 f1)).far (p := ⟨w.heap.size + 1, 1, none⟩) (by simp) (.int .i64 f2)).far (p := ⟨w.heap.size + 1, 2, none⟩) (by simp) (.int .i64 f3))
  have HZ2 : Hid (Blk (((((((((w5.setCell ⟨w.heap.size, 0, none⟩ (.int .u64 (c2.frame : Int))).setCell ⟨w.heap.size, 1, none⟩ (.slice c2.parts.a c2.parts.l.length c2.parts.c)).setCell ⟨w.heap.size, 2, none⟩ (.slice c2.wins.a c2.wins.l.length c2.wins.c)).setCell ⟨w.heap.size, 3, none⟩ (.slice c2.regs.a c2.regs.l.length c2.regs.c)).setCell ⟨w.heap.size, 4, none⟩ (.slice c2.ports.a c2.ports.l.length c2.ports.c)).setCell ⟨w.heap.size, 5, none⟩ (.slice c2.chans.a c2.chans.l.length c2.chans.c)).setCell ⟨w.heap.size + 1, 0, none⟩ (.int .i64 f1)).setCell ⟨w.heap.size + 1, 1, none⟩ (.int .i64 f2)).setCell ⟨w.heap.size + 1, 2, none⟩ (.int .i64 f3)) (w.heap.size + 1) 43 #[.int .i64 f1, .int .i64 f2, .int .i64 f3]) := hide (((((((((HG2.out.far (p := ⟨w.heap.size, 0, none⟩) (by simp) (.int .u64 (c2.frame : Int))).far (p := ⟨w.heap.size, 1, none⟩) (by simp) (.slice c2.parts.a c2.parts.l.length c2.parts.c)).far (p := ⟨w.heap.size, 2, none⟩) (by simp) (.slice c2.wins.a c2.wins.l.length c2.wins.c)).far (p := ⟨w.heap.size, 3, none⟩) (by simp) (.slice c2.regs.a c2.regs.l.length c2.regs.c)).far (p := ⟨w.heap.size, 4, none⟩) (by simp) (.slice c2.ports.a c2.ports.l.length c2.ports.c)).far (p := ⟨w.heap.size, 5, none⟩) (by simp) (.slice c2.chans.a c2.chans.l.length c2.chans.c)).set_ 0 (.int .i64 f1)).set_ 1 (.int .i64 f2)).set_ 2 (.int .i64 f3))
  have HR : Hid (PrunV o w (.returned (.tuple #[cfgV c2, .agg #[.int .i64 f1, .int .i64 f2, .int .i64 f3]])) (((((((((w5.setCell ⟨w.heap.size, 0, none⟩ (.int .u64 (c2.frame : Int))).setCell ⟨w.heap.size, 1, none⟩ (.slice c2.parts.a c2.parts.l.length c2.parts.c)).setCell ⟨w.heap.size, 2, none⟩ (.slice c2.wins.a c2.wins.l.length c2.wins.c)).setCell ⟨w.heap.size, 3, none⟩ (.slice c2.regs.a c2.regs.l.length c2.regs.c)).setCell ⟨w.heap.size, 4, none⟩ (.slice c2.ports.a c2.ports.l.length c2.ports.c)).setCell ⟨w.heap.size, 5, none⟩ (.slice c2.chans.a c2.chans.l.length c2.chans.c)).setCell ⟨w.heap.size + 1, 0, none⟩ (.int .i64 f1)).setCell ⟨w.heap.size + 1, 1, none⟩ (.int .i64 f2)).setCell ⟨w.heap.size + 1, 2, none⟩ (.int .i64 f3))) := hide (hP.more (((((((((HG3.out.setCell (p := ⟨w.heap.size, 0, none⟩) (by simp) (.int .u64 (c2.frame : Int))).setCell (p := ⟨w.heap.size, 1, none⟩) (by simp) (.slice c2.parts.a c2.parts.l.length c2.parts.c)).setCell (p := ⟨w.heap.size, 2, none⟩) (by simp) (.slice c2.wins.a c2.wins.l.length c2.wins.c)).setCell (p := ⟨w.heap.size, 3, none⟩) (by simp) (.slice c2.regs.a c2.regs.l.length c2.regs.c)).setCell (p := ⟨w.heap.size, 4, none⟩) (by simp) (.slice c2.ports.a c2.ports.l.length c2.ports.c)).setCell (p := ⟨w.heap.size, 5, none⟩) (by simp) (.slice c2.chans.a c2.chans.l.length c2.chans.c)).setCell (p := ⟨w.heap.size + 1, 0, none⟩) (by simp) (.int .i64 f1)).setCell (p := ⟨w.heap.size + 1, 1, none⟩) (by simp) (.int .i64 f2)).setCell (p := ⟨w.heap.size + 1, 2, none⟩) (by simp) (.int .i64 f3)) (fun c ho => OwnC.base (B := ((w.alloc (.cells #[.int .u64 0, .slice none 0 0, .slice none 0 0, .slice none 0 0, .slice none 0 0, .slice none 0 0] 29)).alloc (.cells #[.int .i64 0, .int .i64 0, .int .i64 0] 43)).heap.size) (((((((((ho.setLowP (p := ⟨w.heap.size, 0, none⟩) (by simp <;> omega) (.int .u64 (c2.frame : Int))).setLowP (p := ⟨w.heap.size, 1, none⟩) (by simp <;> omega) (.slice c2.parts.a c2.parts.l.length c2.parts.c)).setLowP (p := ⟨w.heap.size, 2, none⟩) (by simp <;> omega) (.slice c2.wins.a c2.wins.l.length c2.wins.c)).setLowP (p := ⟨w.heap.size, 3, none⟩) (by simp <;> omega) (.slice c2.regs.a c2.regs.l.length c2.regs.c)).setLowP (p := ⟨w.heap.size, 4, none⟩) (by simp <;> omega) (.slice c2.ports.a c2.ports.l.length c2.ports.c)).setLowP (p := ⟨w.heap.size, 5, none⟩) (by simp <;> omega) (.slice c2.chans.a c2.chans.l.length c2.chans.c)).setLowP (p := ⟨w.heap.size + 1, 0, none⟩) (by simp <;> omega) (.int .i64 f1)).setLowP (p := ⟨w.heap.size + 1, 1, none⟩) (by simp <;> omega) (.int .i64 f2)).setLowP (p := ⟨w.heap.size + 1, 2, none⟩) (by simp <;> omega) (.int .i64 f3)) (by simp; omega)))
  clear hP hb5 HG3
  unfold cfgV
  go_wp2_with fail
  exact ⟨rfl, _, res_cells rfl _ _ w.heap.size (w.heap.size + 1) _ _ rfl rfl (load_cfgP HZ1.out rfl) (pload_fault HZ2.out rfl), HR.out⟩
end Go.Proofs.YtcnihmlmaigkdaaGreatDoor
