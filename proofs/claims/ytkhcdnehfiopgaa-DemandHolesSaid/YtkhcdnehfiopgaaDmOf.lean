/- demand.of (chapter 16). -/
import Derived.Test.YtkhcdnehfiopgaaDmClone
import Derived.Test.YtkhcdnehfiopgaaDmPer
import Derived.Laws.ResultCell
import Derived.Laws.Tables
namespace Go.Proofs.Ytkhcdnehfiopgaa
open Go.RowKit Go.Sort
set_option linter.unusedVariables false

def partC (x : PartR) : Array Value := #[.int .u16 (x.id : Int), .string x.name, .int .u64 (x.per : Int), .int .u64 (x.dur : Int)]
theorem res_cellD {fn : Func} {p : Tmp} {ty : TypeId} (h : fn.results = #[.cell p ty]) (tmps : Array Value) (w : World) (g : Nat) (cs : Array Value)
    (hp : tmps.getD p undef = .pointer (some ⟨g, 0, none⟩)) (hl : (loadVar ty ⟨g, 0, none⟩).run Try.prog w = .ok (.agg cs) w) :
    (results fn tmps).run Try.prog w = .ok (.agg cs) w := by
  have hp' : tmps[p]?.getD undef = .pointer (some ⟨g, 0, none⟩) := by simpa using hp
  simp [results, h, hp', asAddr, hl]
theorem load_pw {w : World} {g : Nat} {cs : Array Value} (hg : Blk w g 58 cs) (hc : cs.size = 6) : (loadVar 58 ⟨g, 0, none⟩).run Try.prog w = .ok (.agg cs) w :=
  run_loadVar_row (P := Try.prog) w g 58 58 cs (0, 0) _ hg Try.underlying58 rfl (by rw [hc]; kernel_rfl)
theorem own_max {w : World} {base n c : Nat} {e : TypeId} {size : Nat} {A : Option Addr} {xs : List Value} (h : w.ownsRow base e size (.slice A n c) n xs) : c ≤ 9223372036854775807 := by
  rcases h.2 with ⟨h0, _⟩ | ⟨g, cap, cur, hv, _, _, h1, h2, _⟩
  · injection h0 with _ _ e3; omega
  · injection hv with _ _ e3
    unfold maxLen at h2
    omega
theorem row_own {w : World} {base : Nat} {l : List WinR} {a : Option Addr} {c : Nat} (h : w.ownsRow base 49 3 (.slice a l.length c) l.length (l.flatMap winL)) : RowAt winL 3 w.heap.size ⟨l, a, c⟩ w :=
  ⟨Reads.of_own h, own_cap2 h, own_max h⟩
/-- The windows of a partition in their order. -/
structure OfL (c : Cfg) (id : Nat) (l : List WinR) : Prop where
  perm : l.Perm (c.wins.l.filter fun y => decide (y.part = id))
  asc : AscW l
theorem OfL.len {c : Cfg} {id : Nat} {l : List WinR} (h : OfL c id l) : l.length ≤ c.wins.l.length := by rw [h.perm.length_eq]; exact List.length_filter_le _ _
def OfV (c : Cfg) (x : PartR) (w : World) (e : Ending) (w' : World) : Prop :=
  ∃ r : Row WinR, e = .returned (.agg (pwC x c.frame r)) ∧ OfL c x.id r.l ∧ RowAt winL 3 w'.heap.size r w' ∧ Below w.heap.size w w'
set_option maxRecDepth 100000 in
set_option maxHeartbeats 4000000 in
theorem Of_calls (c : Cfg) (x : PartR) (w : World) (h : CfgAt w.heap.size c w) (hsm : c.Small) :
    Calls Try.prog 29 #[cfgV c, .agg (partC x)] w (OfV c x w) := by
  have hlen : c.wins.l.length ≤ 1048576 := by unfold Cfg.Small at hsm; omega
  have hwin := h.wins
  obtain ⟨W0, hW0⟩ : ∃ W0, W0 = ((w.alloc (.cells (cfgC c) 29)).alloc (.cells (partC x) 40)).alloc (.cells #[.int .u16 0, .string ⟨#[]⟩, .int .u64 0, .int .u64 0, .int .u64 0, .slice none 0 0] 58) := ⟨_, rfl⟩
  have hb0 : Below w.heap.size w W0 := by rw [hW0]; exact (((Below.refl _ w).alloc (Nat.le_refl _) _).alloc (by simp) _).alloc (by simp; omega) _
  have hz0 : W0.heap.size = w.heap.size + 3 := by rw [hW0]; simp
  have k0 : Blk W0 w.heap.size 29 (cfgC c) := by rw [hW0]; exact ((Blk.new w _ _).alloc _).alloc _
  have k1 : Blk W0 (w.heap.size + 1) 40 (partC x) := by
    have := Blk.new (w.alloc (.cells (cfgC c) 29)) 40 (partC x)
    rw [World.size_alloc] at this
    rw [hW0]; exact this.alloc _
  have k2 : Blk W0 (w.heap.size + 2) 58 #[.int .u16 0, .string ⟨#[]⟩, .int .u64 0, .int .u64 0, .int .u64 0, .slice none 0 0] := by
    have := Blk.new ((w.alloc (.cells (cfgC c) 29)).alloc (.cells (partC x) 40)) 58 #[.int .u16 0, .string ⟨#[]⟩, .int .u64 0, .int .u64 0, .int .u64 0, .slice none 0 0]
    rw [World.size_alloc, World.size_alloc] at this
    rw [hW0]; exact this
  have HCL := hide (Clone_calls c.wins W0 (RowAt.more (hwin.below hb0) (by omega)) hlen)
  have HB0 := hide hb0
  have HZ0 := hide hz0
  have HK0 := hide k0
  have HK1 := hide k1
  have HK2 := hide k2
  have HL := hide hlen
  have HDE := hide (fun (L : List WinR) n (hLn : n = L.length) a cc W B (own : W.ownsRow B 49 3 (.slice a n cc) n (L.flatMap winL)) (hp : w.heap.size + 1 < B) (hB : B ≤ W.heap.size) (hc : W.cell? ⟨w.heap.size + 1, 0, none⟩ = some (.int .u16 (x.id : Int))) (hl : L.length ≤ 1048576) => (show Calls Try.prog 44 #[.slice a n cc, .func (.func 46) #[] #[.pointer (some ⟨w.heap.size + 1, 0, none⟩)]] W (DelV B (L.filter fun y => decide (y.part = x.id)) W) from by subst hLn; exact Delete_calls B (w.heap.size + 1) x.id L a cc W own hp hB hc hl))
  have HFR := hide (fun W (hW : Below W0.heap.size W0 W) => (⟨hW.trans (Below.refl _ _), (k0.below hW k0.lt).cell 0, (k1.below hW k1.lt).cell 0, (k1.below hW k1.lt).cell 1, (k1.below hW k1.lt).cell 2, (k1.below hW k1.lt).cell 3, k2.below hW k2.lt⟩ : Below W0.heap.size W0 W ∧ W.cell? ⟨w.heap.size, 0, none⟩ = some (.int .u64 (c.frame : Int)) ∧ W.cell? ⟨w.heap.size + 1, 0, none⟩ = some (.int .u16 (x.id : Int)) ∧ W.cell? ⟨w.heap.size + 1, 1, none⟩ = some (.string x.name) ∧ W.cell? ⟨w.heap.size + 1, 2, none⟩ = some (.int .u64 (x.per : Int)) ∧ W.cell? ⟨w.heap.size + 1, 3, none⟩ = some (.int .u64 (x.dur : Int)) ∧ Blk W (w.heap.size + 2) 58 #[.int .u16 0, .string ⟨#[]⟩, .int .u64 0, .int .u64 0, .int .u64 0, .slice none 0 0]))
  have HSO := hide (fun B ps a cc W own hl => SortW_calls B ps a cc W own hl)
  obtain ⟨n, hn⟩ : ∃ n, n = c.wins.l.length := ⟨_, rfl⟩
  have HN := hide hn
  have eC : ∀ args w, (callFunc 48 args).run Try.prog w = .ok (.enter 48 args) w := enters_of Try.func48 (by kernel_rfl) rfl
  unfold WinsV at HCL
  rw [← hn] at HCL
  obtain ⟨id, nm, per, dur⟩ := x
  unfold cfgV
  unfold cfgC partC at hW0
  unfold partC
  simp only at hW0 ⊢
  rw [← hn] at hW0 ⊢
  have HW0 := hide hW0
  clear h hsm hlen hwin hb0 hz0 k0 k1 k2 hn hW0
  go_enter Try.func29, Try.ntmps29
  go_wp2_with (first
    | (go_at_call 45; rw [← HW0.out]; refine HCL.out.mono ?_; rintro e w1 ⟨a1, c1, rfl, ho, hb⟩; have HO1 := hide ho; have HB1 := hide hb; have HDD := hide (HDE.out c.wins.l n HN.out a1 c1 w1 W0.heap.size ho (by have := HZ0.out; omega) hb.size (HFR.out w1 hb).2.2.1 HL.out); clear ho hb; simp only [Nat.add_assoc, Nat.reduceAdd])
    | (go_at_call 44; refine HDD.out.mono ?_; rintro e w2 ⟨a2, c2, rfl, ho, hb⟩; have HO2 := hide ho; have HB2 := hide (HB1.out.trans hb); have HSS := hide (HSO.out W0.heap.size _ a2 c2 w2 ho (Nat.le_trans (List.length_filter_le _ _) (by have := HL.out; omega))); clear ho hb)
    | (go_at_call 47; refine HSS.out.mono ?_; rintro e w3 ⟨rfl, out, hp, ha, ho, hb⟩; have HP3 := hide hp; have HA3 := hide ha; have HO3 := hide ho; have HB3 := hide (HB2.out.trans (hb.below HB2.out.size (fun k hk h => by have := own_block ho k h; omega))); clear hp ha ho hb; obtain ⟨_, q0, q1, q2, q3, q4, q5⟩ := HFR.out w3 HB3.out; have HQ5 := hide q5; have s0 : w3.frozen? ⟨w.heap.size + 2, 0, none⟩ = false := q5.frozen 0; have s1 : w3.frozen? ⟨w.heap.size + 2, 1, none⟩ = false := q5.frozen 1; have s2 : w3.frozen? ⟨w.heap.size + 2, 2, none⟩ = false := q5.frozen 2; have s3 : w3.frozen? ⟨w.heap.size + 2, 3, none⟩ = false := q5.frozen 3; have s4 : w3.frozen? ⟨w.heap.size + 2, 4, none⟩ = false := q5.frozen 4; have s5 : w3.frozen? ⟨w.heap.size + 2, 5, none⟩ = false := q5.frozen 5; have t0 : w3.cell? ⟨w.heap.size + 2, 0, none⟩ = some (.int .u16 0) := q5.cell 0; have t1 : w3.cell? ⟨w.heap.size + 2, 1, none⟩ = some (.string ⟨#[]⟩) := q5.cell 1; have t2 : w3.cell? ⟨w.heap.size + 2, 2, none⟩ = some (.int .u64 0) := q5.cell 2; have t3 : w3.cell? ⟨w.heap.size + 2, 3, none⟩ = some (.int .u64 0) := q5.cell 3; have t4 : w3.cell? ⟨w.heap.size + 2, 4, none⟩ = some (.int .u64 0) := q5.cell 4; have t5 : w3.cell? ⟨w.heap.size + 2, 5, none⟩ = some (.slice none 0 0) := q5.cell 5; clear q5))
  have hlen3 : out.length = (c.wins.l.filter fun y => decide (y.part = id)).length := HP3.out.length_eq
  have ho3 := HO3.out
  rw [← hlen3] at ho3
  rw [← hlen3]
  have HBK := hide ((((((HQ5.out.set_ 0 (.int .u16 (id : Int))).set_ 1 (.string nm)).set_ 2 (.int .u64 (per : Int))).set_ 3 (.int .u64 (dur : Int))).set_ 4 (.int .u64 (c.frame : Int))).set_ 5 (.slice a2 out.length c2))
  have hbut := ((((((But.refl (fun k => k = w.heap.size + 2) w3).setCell (p := ⟨w.heap.size + 2, 0, none⟩) (.inl rfl) (.int .u16 (id : Int))).setCell (p := ⟨w.heap.size + 2, 1, none⟩) (.inl rfl) (.string nm)).setCell (p := ⟨w.heap.size + 2, 2, none⟩) (.inl rfl) (.int .u64 (per : Int))).setCell (p := ⟨w.heap.size + 2, 3, none⟩) (.inl rfl) (.int .u64 (dur : Int))).setCell (p := ⟨w.heap.size + 2, 4, none⟩) (.inl rfl) (.int .u64 (c.frame : Int))).setCell (p := ⟨w.heap.size + 2, 5, none⟩) (.inl rfl) (.slice a2 out.length c2)
  refine bodyPost_ret (res_cellD rfl _ _ (w.heap.size + 2) (pwC ⟨id, nm, per, dur⟩ c.frame ⟨out, a2, c2⟩) rfl (load_pw HBK.out rfl)) rfl ⟨⟨out, a2, c2⟩, rfl, ⟨HP3.out, HA3.out⟩, row_own (own_but ho3 hbut (fun k hk e => by have := own_block ho3 k hk; have := HZ0.out; omega)), ?_⟩
  exact HB0.out.trans ((HB3.out.mono HB0.out.size).trans (hbut.below (by have := HB3.out.size; have := HB0.out.size; omega) (fun k hk e => by omega)))
end Go.Proofs.Ytkhcdnehfiopgaa
