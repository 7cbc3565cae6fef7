/- The walks of the queue's Push and Pop (chapter 14). -/
import Derived.Test.YthccadabblkalaaSwQ2
import Derived.Deep.AppendLies
import Derived.Deep.RegionLaw
namespace Go.Proofs.Ythccadabblkalaa
open Go.RowKit Go.Sort

theorem item_info3 : (Try.prog.info? 110).map (fun i => (i.zero, i.size, i.bytes)) = some (some (.agg #[.int .u64 0, .int .u64 0, .int .i64 0]), 3, 24) := by kernel_rfl
theorem own_row {w : World} {base : Nat} {e : TypeId} {size g n cap : Nat} {xs : List Value} (h : w.ownsRow base e size (.slice (some ⟨g, 0, none⟩) n cap) n xs) :
    ∃ cs, Blk w g e cs ∧ cs.size = cap * size ∧ n ≤ cap ∧ cap ≤ maxLen ∧ cs.toList.take (n * size) = xs := by
  rcases h.2 with ⟨h0, _⟩ | ⟨g', cap', cur, hv, hb, hg, h1, h2, h3, h4⟩
  · cases h0
  · injection hv with e1 e2 e3
    injection e1 with e1
    injection e1 with e1
    subst e1 e3
    exact ⟨cur, hg, h3, h1, h2, h4⟩
section
variable {w : World} {Q fn : Nat} {R : Option Nat} {d : Array Itm}
theorem Que.own (h : Que w Q fn R d) : ∃ cap, Blk w Q 129 #[.slice (R.map fun g => ⟨g, 0, none⟩) d.size cap, .func (.func fn) #[] #[]] ∧
    w.ownsRow 0 110 3 (.slice (R.map fun g => ⟨g, 0, none⟩) d.size cap) d.size (d.toList.flatMap itL) ∧ (Value.slice (R.map fun g => ⟨g, 0, none⟩) d.size cap).ownBlock = R ∧ R ≠ some Q := by
  obtain ⟨cap, hb, h1, h2, h3⟩ := h
  have hl : (d.toList.flatMap itL).length = d.size * 3 := (flat_len itL 3 itL_len d.toList).trans (by rw [Array.length_toList])
  refine ⟨cap, hb, ?_⟩
  cases R with
  | none =>
    subst h3
    have h0 : d.size = 0 := by omega
    refine ⟨⟨hl, .inl ⟨by rw [h0]; rfl, h0⟩⟩, rfl, by simp⟩
  | some g =>
    obtain ⟨hn, cs, hg, hs, hr⟩ := h3
    refine ⟨⟨hl, .inr ⟨g, cap, cs, rfl, Nat.zero_le _, hg, h1, h2, hs, ?_⟩⟩, rfl, by intro e; injection e with e; exact hn e⟩
    exact (rowK_take itL_len).1 hr
end
theorem Que.of_own {w : World} {Q fn g cap : Nat} {d : Array Itm} (hb : Blk w Q 129 #[.slice (some ⟨g, 0, none⟩) d.size cap, .func (.func fn) #[] #[]]) (hn : g ≠ Q)
    (h : w.ownsRow 0 110 3 (.slice (some ⟨g, 0, none⟩) d.size cap) d.size (d.toList.flatMap itL)) : Que w Q fn (some g) d := by
  obtain ⟨cs, h1, h2, h3, h4, h5⟩ := own_row h
  exact ⟨cap, hb, h3, h4, hn, cs, h1, h2, (rowK_take itL_len).2 h5⟩
theorem it_cells (w : World) (x : Itm) (t : TypeId) : ∀ j u, (itL x)[j]? = some u → (w.alloc (.cells (itA x) t)).cell? ((⟨w.heap.size, 0, none⟩ : Addr).add j) = some u := by
  intro j u hu
  have h := (Blk.new w t (itA x)).cell j
  have e : ((⟨w.heap.size, 0, none⟩ : Addr).add j) = ⟨w.heap.size, j, none⟩ := by unfold Addr.add; split <;> simp_all
  have e2 : itA x = (itL x).toArray := rfl
  rw [e, h, ← hu, e2]
  simp
theorem it_one (x : Itm) : ∀ u ∈ itL x, u.oneCell' = true := by
  intro u hu
  simp only [itL, List.mem_cons, List.not_mem_nil, or_false] at hu
  rcases hu with rfl | rfl | rfl <;> rfl
theorem assert_item (xt : TypeId) (v : Value) (w : World) : (Instr.typeAssert (.iface 110 v) xt 110 false).run Try.prog w = .ok v w := by
  simp [Instr.typeAssert, go_sem]
set_option maxRecDepth 100000 in
set_option maxHeartbeats 4000000 in
theorem Push_calls (Q fn : Nat) (R : Option Nat) (d : Array Itm) (x : Itm) (w : World) (h : Que w Q fn R d) (hsz : d.size ≤ 1000000) :
    Calls Try.prog 65 #[.pointer (some ⟨Q, 0, none⟩), .iface 110 (.agg (itA x))] w fun e w' => e = .returned (.tuple #[]) ∧
      ∃ g, Que w' Q fn (some g) (d.push x) ∧ (R = some g ∨ w.heap.size ≤ g) ∧ But (qset Q R) w w' := by
  obtain ⟨cap, hb, hown, hob, hRQ⟩ := h.own
  obtain ⟨i0, hi, hz0, hz1, hz2⟩ := info_parts item_info3
  have hQ := hb.lt
  generalize hv : Value.slice (R.map fun g => (⟨g, 0, none⟩ : Addr)) d.size cap = v at *
  have hvs : ∃ a n c, v = .slice a n c := ⟨_, _, _, hv.symm⟩
  obtain ⟨a, n, c, rfl⟩ := hvs
  have k0 : w.cell? ⟨Q, 0, none⟩ = some (.slice a n c) := hb.cell 0
  have kf := fun i => hb.frozen i
  have hxx : itA x = #[.int .u64 (x.lo : Int), .int .u64 (x.len : Int), .int .i64 (x.idx : Int)] := rfl
  have HX := hide hxx
  have HB := hide hb
  have HO := hide hown
  have HOB := hide hob
  have HC := hide (it_cells w x 110)
  have H1 := hide (it_one x)
  have HRQ := hide hRQ
  have ha := fun xt v W => assert_item xt v W
  rw [hxx]
  clear hb hown hob hv h hxx hRQ
  go_enter Try.func65, Try.ntmps65
  go_wp2_with fail
  go_region_law (refine step_append_lies _ rfl (.tmp 8) (.tmp 11) 111 rfl 0 110 i0 _ 3 24 Try.underlying111 hi hz0 hz1 hz2 rfl (by decide) (.slice a n c) d.size (d.toList.flatMap itL) (by simp [Act.eval]) (HO.out.alloc _) ⟨w.heap.size, 0, none⟩ 1 1 (itL x) (by simp [Act.eval]) rfl HC.out H1.out (by decide) (by simp only [maxLen]; omega) (by omega) (Nat.zero_le _) (w.heap.size + 1) (by simp) ?_; intro g cap' w4 ho4 hg4 hgg hg4l; have hB4 := Blk.grown ((HB.out.alloc (.cells (itA x) 110)).drew) hg4 (by rw [HOB.out]; exact fun e => HRQ.out e.symm); have q0 : w4.cell? ⟨Q, 0, none⟩ = some (.slice a n c) := hB4.cell 0; have qf := fun i => hB4.frozen i; have HB4 := hide hB4; have HO4 := hide ho4; have HG4 := hide (((But.refl (qset Q R) w).alloc (.cells (itA x) 110)).drew.grown hg4 (fun r hr => by rw [HOB.out] at hr; exact .inl (.inr hr))); have HGG := hide hgg; clear ho4 hg4 hgg hB4)
  all_goals
    go_end0
    have hne : g ≠ Q := fun e => own_blk_ne (t := 129) HO4.out HB4.out (by decide) (by rw [e]; rfl)
    have hsp : (d.push x).size = d.size + 1 := by simp
    have hlp : (d.push x).toList.flatMap itL = d.toList.flatMap itL ++ itL x := by simp
    refine ⟨rfl, g, Que.of_own (cap := cap') ?_ hne ?_, ?_, ?_⟩
    · rw [hsp]; exact HB4.out.set_ 0 _
    · rw [hsp, hlp]
      exact ownsRow_setCell_other HO4.out (by intro e; injection e with e; exact hne e) _
    · have h9 := HGG.out
      rw [HOB.out] at h9
      rcases h9 with h9 | h9
      · exact .inl h9
      · exact .inr (by omega)
    · exact HG4.out.setCell (.inl (.inl rfl)) _

set_option maxRecDepth 100000 in
set_option maxHeartbeats 4000000 in
theorem QPop_calls (Q fn g : Nat) (d : Array Itm) (w : World) (h : Que w Q fn (some g) d) (h0 : 0 < d.size) (hsz : d.size ≤ 1000000) :
    Calls Try.prog 112 #[.pointer (some ⟨Q, 0, none⟩)] w fun e w' => e = .returned (.iface 110 (.agg (itA d[d.size - 1]!))) ∧
      Que w' Q fn (some g) d.pop ∧ But (· = Q) w w' := by
  obtain ⟨cap, hb, hc1, hc2, hn, cs, hg, hs, hr⟩ := h
  obtain ⟨m, hm⟩ : ∃ m, d.size = m + 1 := ⟨d.size - 1, by omega⟩
  have i0 := hr m (by omega)
  rw [three] at i0
  have hm1 : d.size - 1 = m := by omega
  rw [hm1]
  obtain ⟨x, hx⟩ : ∃ x, x = d[m]! := ⟨_, rfl⟩
  rw [← hx] at i0 ⊢
  clear hx
  obtain ⟨xlo, xlen, xi⟩ := x
  rw [hm] at hb
  have k0 : w.cell? ⟨Q, 0, none⟩ = some (.slice (some ⟨g, 0, none⟩) (m + 1) cap) := hb.cell 0
  have kf := fun i => hb.frozen i
  have p0 : w.cell? ⟨g, m * 3, none⟩ = some (.int .u64 (xlo : Int)) := (hg.cell _).trans i0.1
  have p1 : w.cell? ⟨g, m * 3 + 1, none⟩ = some (.int .u64 (xlen : Int)) := (hg.cell _).trans i0.2.1
  have p2 : w.cell? ⟨g, m * 3 + 2, none⟩ = some (.int .i64 (xi : Int)) := (hg.cell _).trans i0.2.2
  have hcap : m + 1 ≤ cap := by omega
  have hmb : (m : Int) ≤ 1000000 := by omega
  have hQ := hb.lt
  have hgl := hg.lt
  have HB := hide hb
  have HG := hide hg
  have HR := hide (And.intro hs hr)
  have HM := hide hm
  have HC := hide hc2
  show Calls Try.prog 112 #[.pointer (some ⟨Q, 0, none⟩)] w fun e w' => e = .returned (.iface 110 (.agg #[.int .u64 (xlo : Int), .int .u64 (xlen : Int), .int .i64 (xi : Int)])) ∧ _
  clear hb hg hr hs hm hc1 hc2 hm1 i0 hsz h0
  go_enter Try.func112, Try.ntmps112
  go_wp2
  go_ret
  have hB2 := ((HB.out.set_ 0 (.slice (some ⟨g, 0, none⟩) m cap)).alloc (.cells #[.int .u64 (xlo : Int), .int .u64 (xlen : Int), .int .i64 (xi : Int)] 110))
  have hbt := ((But.refl (· = Q) w).setCell (p := ⟨Q, 0, none⟩) (.inl rfl) (.slice (some ⟨g, 0, none⟩) m cap)).alloc (.cells #[.int .u64 (xlo : Int), .int .u64 (xlen : Int), .int .i64 (xi : Int)] 110)
  have hsp : d.pop.size = m := by rw [Array.size_pop, HM.out]; rfl
  refine ⟨rfl, ⟨cap, by rw [hsp]; exact hB2, by omega, HC.out, hn, cs, hbt.blk HG.out hn, HR.out.1, ?_⟩, hbt⟩
  intro k hk j hj
  rw [hsp] at hk
  have := HR.out.2 k (by have := HM.out; omega) j hj
  rw [pop_get d k (by have := HM.out; omega)]
  exact this
end Go.Proofs.Ythccadabblkalaa
