/- The reference's Sorted (chapter 15). -/
import Derived.Test.YthccadabblkalaaGreatFrFillLaw
import Derived.Test.YthccadabblkalaaGreatAppAny
import Derived.Deep.RegionHeld3
import Derived.Deep.QuietTactic
import Derived.BigQuiet
import Derived.IntWalk
namespace Go.Proofs.YthccadabblkalaaGreat
open Go.RowKit Go.Sort
set_option linter.unusedVariables false

theorem flat_cut {α : Type} (enc : α → List Value) (m : Nat) (hm : ∀ x, (enc x).length = m) (L : List α) (p : Nat) (hp : p ≤ L.length) : (L.flatMap enc).take (p * m) = (L.take p).flatMap enc ∧ (L.flatMap enc).drop (p * m) = (L.drop p).flatMap enc := by
  have e : L.flatMap enc = (L.take p).flatMap enc ++ (L.drop p).flatMap enc := by rw [← List.flatMap_append, List.take_append_drop]
  have hl : ∀ l : List α, (l.flatMap enc).length = l.length * m := by
    intro l
    induction l with
    | nil => simp
    | cons x l ih => rw [List.flatMap_cons, List.length_append, ih, hm, List.length_cons, Nat.add_mul]; omega
  have h : ((L.take p).flatMap enc).length = p * m := by rw [hl, List.length_take, Nat.min_eq_left hp]
  rw [e]
  exact ⟨by rw [List.take_append_of_le_length (by omega), List.take_of_length_le (by omega)], by rw [List.drop_append_of_le_length (by omega), List.drop_of_length_le (by omega), List.nil_append]⟩
theorem Reads.pre {w : World} {B size n : Nat} {A : Option Addr} {xs : List Value} (h : Reads w B size A n xs) {k : Nat} (hk : k ≤ n) : Reads w B size A k (xs.take (k * size)) := by
  refine ⟨by rw [List.length_take, h.1]; exact Nat.min_eq_left (Nat.mul_le_mul_right _ hk), fun hn => ?_⟩
  obtain ⟨ad, e, hb, hc⟩ := h.2 (by omega)
  refine ⟨ad, e, hb, fun j u hu => hc j u ?_⟩
  rw [List.getElem?_take] at hu
  split at hu
  · exact hu
  · cases hu
theorem own_zero (w : World) (base : Nat) (e : TypeId) (size : Nat) (hb : base ≤ w.heap.size) : (w.alloc (.cells #[] e)).ownsRow base e size (.slice (some ⟨w.heap.size, 0, none⟩) 0 0) 0 [] :=
  ⟨by simp, .inr ⟨w.heap.size, 0, #[], rfl, hb, Blk.new w e #[], Nat.le_refl _, Nat.zero_le _, by simp, by simp⟩⟩
theorem winL_one (L : List WinR) : ∀ u ∈ L.flatMap winL, u.oneCell' = true := by
  intro u hu
  obtain ⟨x, _, hx⟩ := List.mem_flatMap.1 hu
  exact wn_one x u hx
theorem win_reads (w : World) (x : WinR) (t : TypeId) : Reads (w.alloc (.cells #[.int .u64 (x.st : Int), .int .u64 (x.len : Int), .int .u16 (x.part : Int)] t)) (w.heap.size + 1) 3 (some ⟨w.heap.size, 0, none⟩) 1 (winL x) :=
  ⟨rfl, fun _ => ⟨_, rfl, Nat.lt_succ_self _, wn_cells_at w x t w.heap.size rfl⟩⟩
theorem rd_pre {w W : World} {base n c : Nat} {e : TypeId} {A : Option Addr} {L : List WinR} (h : w.ownsRow base e 3 (.slice A n c) n (L.flatMap winL)) (hL : L.length = n) (hW : Below w.heap.size w W) {p : Nat} (hp : p ≤ n) : Reads W w.heap.size 3 A p ((L.take p).flatMap winL) := by
  rw [← (flat_cut winL 3 winL_len L p (by omega)).1]
  exact ((Reads.of_own h).below hW).pre hp
theorem rd_post {w W : World} {base n c : Nat} {e : TypeId} {A : Option Addr} {L : List WinR} (h : w.ownsRow base e 3 (.slice A n c) n (L.flatMap winL)) (hL : L.length = n) (hc : n ≤ c) (hW : Below w.heap.size w W) {p : Nat} (hp : p ≤ n) : Reads W w.heap.size 3 (if c = p then A else A.map (·.add (p * 3))) (n - p) ((L.drop p).flatMap winL) := by
  rw [← (flat_cut winL 3 winL_len L p (by omega)).2]
  exact ((Reads.of_own h).below hW).cut hp hc
theorem own_cap {w : World} {base n c : Nat} {e : TypeId} {size : Nat} {A : Option Addr} {xs : List Value} (h : w.ownsRow base e size (.slice A n c) n xs) : n ≤ c := by
  rcases h.2 with ⟨_, h0⟩ | ⟨g, cap, cur, hv, _, _, h1, _⟩
  · omega
  · injection hv with _ _ e3
    omega
theorem own_baseS {w : World} {base base' n : Nat} {e : TypeId} {size : Nat} {v : Value} {xs : List Value} (h : w.ownsRow base e size v n xs) (hb : base' ≤ base) : w.ownsRow base' e size v n xs := by
  refine ⟨h.1, ?_⟩
  rcases h.2 with h0 | ⟨g, cap, cur, hv, hg, h1⟩
  · exact .inl h0
  · exact .inr ⟨g, cap, cur, hv, Nat.le_trans hb hg, h1⟩
theorem ins_asc {L : List WinR} {x : WinR} {p : Nat} (h : AscW L) (hp : p ≤ L.length) (hlo : ∀ j, (hj : j < L.length) → j < p → L[j].st ≤ x.st) (hhi : ∀ j, (hj : j < L.length) → p ≤ j → x.st ≤ L[j].st) : AscW (L.take p ++ [x] ++ L.drop p) := by
  unfold AscW at *
  rw [List.append_assoc, List.pairwise_append]
  refine ⟨h.sublist (List.take_sublist _ _), ?_, ?_⟩
  · rw [List.singleton_append, List.pairwise_cons]
    refine ⟨fun y hy => ?_, h.sublist (List.drop_sublist _ _)⟩
    obtain ⟨i, hi, rfl⟩ := List.getElem_of_mem hy
    rw [List.length_drop] at hi
    rw [List.getElem_drop]
    exact hhi _ (by omega) (by omega)
  · intro a ha b hb
    obtain ⟨i, hi, rfl⟩ := List.getElem_of_mem ha
    rw [List.length_take] at hi
    rw [List.getElem_take]
    rw [List.singleton_append, List.mem_cons] at hb
    rcases hb with rfl | hb
    · exact hlo i (by omega) (by omega)
    · obtain ⟨j, hj, rfl⟩ := List.getElem_of_mem hb
      rw [List.length_drop] at hj
      rw [List.getElem_drop]
      exact List.pairwise_iff_getElem.1 h i (p + j) (by omega) (by omega) (by omega)
theorem ins_perm {L M : List WinR} {x : WinR} (p : Nat) (h : L.Perm M) : (L.take p ++ [x] ++ L.drop p).Perm (M ++ [x]) := by
  rw [List.append_assoc, List.singleton_append]
  refine (List.perm_middle).trans ?_
  rw [List.take_append_drop]
  exact ((List.Perm.cons x h)).trans (List.perm_append_singleton x M).symm
theorem asc_lo {L : List WinR} {s q : Nat} (h : AscW L) (hq : q < L.length) (hs : L[q].st ≤ s) : ∀ j, (hj : j < L.length) → j < q + 1 → L[j].st ≤ s := by
  intro j hj hjq
  by_cases e : j = q
  · subst e; exact hs
  · exact Nat.le_trans (List.pairwise_iff_getElem.1 h j q hj hq (by omega)) hs
set_option maxRecDepth 100000 in
set_option maxHeartbeats 8000000 in
theorem Sorted_calls (c : Cfg) (w : World) (h : CfgAt w.heap.size c w) (hw : c.wins.l.length ≤ 1000) :
    Calls Tryz.prog 8 #[cfgV c] w fun e w' => ∃ out : List WinR, out.Perm c.wins.l ∧ AscW out ∧ WinsV out w e w' := by
  have HCF := hide (fun W (hW : Boxed1 w c W) => hW.cfg h)
  have hB0 := Boxed1.start w c
  have hcap := h.wins.2
  obtain ⟨n, hn⟩ : ∃ n, n = c.wins.l.length := ⟨_, rfl⟩
  obtain ⟨wa, hwa⟩ : ∃ a, a = c.wins.a := ⟨_, rfl⟩
  have hnI : (n : Int) ≤ 1000 := by omega
  have hcI : (n : Int) ≤ (c.wins.c : Int) := by omega
  have HN := hide hn
  have HWA := hide hwa
  have HBC := hide (fun W (hW : Boxed1 w c W) => hW.cells.2.2.1)
  obtain ⟨i0, hi, hz0, hz1, hz2⟩ := info_parts win_info3
  have HII := hide hi
  unfold cfgV
  unfold cfgC at hB0
  rw [← hn, ← hwa] at HBC hB0 ⊢
  have HB0 := hide hB0
  clear h hw hcap hn hB0 hwa hi
  go_enter Tryz.func8, Tryz.ntmps8
  go_wp2
  generalize w.alloc (.cells #[.int .u64 (c.frame : Int), .slice c.parts.a c.parts.l.length c.parts.c, .slice wa n c.wins.c, .slice c.regs.a c.regs.l.length c.regs.c, .slice c.ports.a c.ports.l.length c.ports.c, .slice c.chans.a c.chans.l.length c.chans.c] 29) = W0 at *
  go_loopw [3, 4] (fun o v wr => ∃ (k : Nat) (a : Option Addr) (c' : Nat) (L : List WinR), k ≤ n ∧ v = .int .i64 (k : Int) ∧ o = .slice a k c' ∧ (k : Int) ≤ (c' : Int) ∧ Hid (Boxed1 w c wr ∧ wr.ownsRow (w.heap.size + 1) 36 3 (.slice a k c') k (L.flatMap winL) ∧ L.length = k ∧ L.Perm (c.wins.l.take k) ∧ AscW L)) (fun _ v _ => n - (intOf v).toNat)
  case atStart => exact ⟨0, none, 0, [], Nat.zero_le _, rfl, rfl, by decide, hide ⟨HB0.out, World.ownsRow_nil _ _ _ _, rfl, by rw [List.take_zero], List.Pairwise.nil⟩⟩
  case round =>
    obtain ⟨k, a, c', L, hk, rfl, rfl, hkc, hrel⟩ := hrel
    have b2 := HBC.out wr hrel.out.1
    by_cases hlt : k < n
    · have hlt2 : (k : Int) < (n : Int) := by omega
      have hkl : k < c.wins.l.length := by have := HN.out; omega
      obtain ⟨b, o, ha, hab, x0, x1, x2⟩ := win_at (HCF.out wr hrel.out.1).wins k hkl
      obtain rfl : wa = some ⟨b, o, none⟩ := HWA.out.trans ha
      have hz : w.heap.size < wr.heap.size := hrel.out.1.2.lt
      have hbz := cell_lt x0
      have HHA := hide ha
      have HX0 := hide x0
      have HX1 := hide x1
      have HX2 := hide x2
      have htk : c.wins.l.take (k + 1) = c.wins.l.take k ++ [c.wins.l[k]] := List.take_succ_eq_append_getElem hkl
      have HTK := hide htk
      generalize c.wins.l[k] = x at *
      obtain ⟨lo, len, part⟩ := x
      simp only at HX0 HX1 HX2
      clear ha hab x0 x1 x2 htk
      have hbz' : b < wr.heap.size := hbz
      go_wp2
      obtain ⟨w1, rfl⟩ : ∃ w1 : World, w1 = wr := ⟨_, rfl⟩
      have HB1 := hide hrel.out.1
      have HO1 := hide hrel.out.2.1
      have HL := hide hrel.out.2.2.1
      have HP := hide hrel.out.2.2.2.1
      have HA := hide hrel.out.2.2.2.2
      clear hrel b2
      go_loopw [5] (fun v wr => ∃ p : Nat, p ≤ k ∧ v = .int .i64 (p : Int) ∧ Hid (Below w1.heap.size w1 wr ∧ ∀ j, (hj : j < L.length) → p ≤ j → lo ≤ L[j].st)) (fun v _ => (intOf v).toNat)
      case atStart => exact ⟨k, Nat.le_refl _, rfl, hide ⟨Below.refl _ _, fun j hj hp => absurd hj (by have := HL.out; omega)⟩⟩
      case round =>
        obtain ⟨p, hp, rfl, hrel⟩ := hrel
        have HW := hide hrel.out.1
        have HH := hide hrel.out.2
        have b2 := HBC.out wr (HB1.out.below hrel.out.1)
        have x0 : wr.cell? ⟨b, o + k * 3, none⟩ = some (.int .u64 (lo : Int)) := (hrel.out.1.cell (p := ⟨b, o + k * 3, none⟩) hbz').trans HX0.out
        clear hrel
        by_cases hcont : ∃ q, ∃ hq : q < L.length, p = q + 1 ∧ lo < L[q].st
        · obtain ⟨q, hql, hpq, hlo⟩ := hcont
          obtain ⟨g, rfl, _, _, hgl, hcell⟩ := own_cells (enc := winL) winL_len (own_below HO1.out HW.out) HL.out q hql
          have y0 : wr.cell? ⟨g, q * 3, none⟩ = some (.int .u64 (L[q].st : Int)) := hcell 0 (by omega)
          have p0 : decide ((0 : Int) < (p : Int)) = true := by simp; omega
          have p1 : decide (0 < p) = true := by simp; omega
          have hs : IntKind.i64.wrap ((p : Int) - 1) = (q : Int) := by
            have e : (p : Int) - 1 = (q : Int) := by omega
            rw [e]
            exact IntWalk.i64_in _ (by omega)
          have hqk : (q : Int) < (k : Int) := by omega
          have HH2 : Hid (∀ j, (hj : j < L.length) → q ≤ j → lo ≤ L[j].st) := hide (fun j hj hq => by
            by_cases e : j = q
            · subst e; omega
            · exact HH.out j hj (by omega))
          have e1 : decide ((lo : Int) < (L[q].st : Int)) = true := by simpa using hlo
          have e2 : decide (lo < L[q].st) = true := by simpa using hlo
          generalize L[q].st = s at *
          clear hlo hcell
          go_wp2
          go_quiet (fail)
          have HW2 : Hid (Below w1.heap.size w1 (wr.drewN nq)) := hide (below_drewN HW.out nq)
          go_wp2
          go_roundw
          case rel => exact ⟨q, by omega, by go_num, hide ⟨HW2.out, HH2.out⟩⟩
          case measure => simp [intOf]; omega
        · have hexit : p = 0 ∨ ∃ q, ∃ hq : q < L.length, p = q + 1 ∧ ¬ lo < L[q].st := by
            by_cases h0 : p = 0
            · exact .inl h0
            · exact .inr ⟨p - 1, by have := HL.out; omega, by omega, fun hlo => hcont ⟨p - 1, by have := HL.out; omega, by omega, hlo⟩⟩
          clear hcont
          rcases hexit with h0 | hexit
          case' inl =>
            have p0 : decide ((0 : Int) < (p : Int)) = false := by simp; omega
            have p1 : decide (0 < p) = false := by simp; omega
            have HLP : Hid (∀ j, (hj : j < L.length) → j < p → L[j].st ≤ lo) := hide (fun j _ hj => absurd hj (by omega))
            clear h0
            go_wp2
            go_quiet (fail)
          case' inr =>
            obtain ⟨q, hql, hpq, hlo⟩ := hexit
            obtain ⟨g, rfl, _, _, hgl, hcell⟩ := own_cells (enc := winL) winL_len (own_below HO1.out HW.out) HL.out q hql
            have y0 : wr.cell? ⟨g, q * 3, none⟩ = some (.int .u64 (L[q].st : Int)) := hcell 0 (by omega)
            have p0 : decide ((0 : Int) < (p : Int)) = true := by simp; omega
            have p1 : decide (0 < p) = true := by simp; omega
            have hs : IntKind.i64.wrap ((p : Int) - 1) = (q : Int) := by
              have e : (p : Int) - 1 = (q : Int) := by omega
              rw [e]
              exact IntWalk.i64_in _ (by omega)
            have hqk : (q : Int) < (k : Int) := by omega
            have HLP : Hid (∀ j, (hj : j < L.length) → j < p → L[j].st ≤ lo) := hide (fun j hj hjp => asc_lo HA.out hql (s := lo) (by omega) j hj (by omega))
            have e1 : decide ((lo : Int) < (L[q].st : Int)) = false := by simpa using hlo
            have e2 : decide (lo < L[q].st) = false := by simpa using hlo
            generalize L[q].st = s at *
            clear hlo hcell
            go_wp2
            go_quiet (fail)
            clear y0 p0 p1 hs hqk e1 e2 hpq hql hgl
          all_goals
            have HW2 : Hid (Below w1.heap.size w1 (wr.drewN nq)) := hide (below_drewN HW.out nq)
            have HSX : Hid (∀ W, Below w1.heap.size w1 W → (W.cell? ⟨w.heap.size, 2, none⟩ = some (.slice (some ⟨b, o, none⟩) n c.wins.c) ∧ W.cell? ⟨b, o + k * 3, none⟩ = some (.int .u64 (lo : Int)) ∧ W.cell? ⟨b, o + k * 3 + 1, none⟩ = some (.int .u64 (len : Int)) ∧ W.cell? ⟨b, o + k * 3 + 2, none⟩ = some (.int .u16 (part : Int)) ∧ Below w1.heap.size w1 W)) := hide (fun W hW => ⟨HBC.out W (HB1.out.below hW), (hW.cell (p := ⟨b, o + k * 3, none⟩) hbz').trans HX0.out, (hW.cell (p := ⟨b, o + k * 3 + 1, none⟩) hbz').trans HX1.out, (hW.cell (p := ⟨b, o + k * 3 + 2, none⟩) hbz').trans HX2.out, hW⟩)
            generalize wr.drewN nq = w8 at *
            have HZ : Hid ((w8.alloc (.cells #[] 36)).ownsRow (w.heap.size + 1) 36 3 (.slice (some ⟨w8.heap.size, 0, none⟩) 0 0) 0 []) := hide (own_zero _ _ _ _ (by have := HW2.out.size; omega))
            have HZ3 : Hid (((w8.alloc (.cells #[.int .u64 (lo : Int), .int .u64 (len : Int), .int .u16 (part : Int)] 36)).alloc (.cells #[] 36)).ownsRow (w.heap.size + 1) 36 3 (.slice (some ⟨w8.heap.size + 1, 0, none⟩) 0 0) 0 []) := hide (by have := own_zero (w8.alloc (.cells #[.int .u64 (lo : Int), .int .u64 (len : Int), .int .u16 (part : Int)] 36)) (w.heap.size + 1) 36 3 (by have := HW2.out.size; simp; omega); rw [World.size_alloc] at this; exact this)
            have HRD := hide (fun W (hW : Below w1.heap.size w1 W) => rd_pre HO1.out HL.out hW hp)
            have HRP := hide (fun W (hW : Below w1.heap.size w1 W) => rd_post HO1.out HL.out (by omega) hW hp)
            have HHP : Hid (∀ j, (hj : j < L.length) → p ≤ j → lo ≤ L[j].st) := HH
            have hpk : (p : Int) ≤ (k : Int) := by omega
            have hpc : (p : Int) ≤ (c' : Int) := by omega
            have hz8 : w1.heap.size ≤ w8.heap.size := HW2.out.size
            clear b2 x0 HH
            go_wp2
            go_region_held3 (fun W => (W.cell? ⟨w.heap.size, 2, none⟩ = some (.slice (some ⟨b, o, none⟩) n c.wins.c) ∧ W.cell? ⟨b, o + k * 3, none⟩ = some (.int .u64 (lo : Int)) ∧ W.cell? ⟨b, o + k * 3 + 1, none⟩ = some (.int .u64 (len : Int)) ∧ W.cell? ⟨b, o + k * 3 + 2, none⟩ = some (.int .u16 (part : Int)) ∧ Below w1.heap.size w1 W))
              (first | assumption | exact HSX.out _ HK4.out | exact HSX.out _ (HK2.out.alloc HK2.out.size _) | exact HSX.out _ HK3.out | exact HSX.out _ HK2.out | exact HSX.out _ HW2.out.drew | exact HSX.out _ ((HW2.out.alloc HW2.out.size _).alloc (by simp; omega) _).drew | exact HSX.out _ (HW2.out.alloc HW2.out.size _).drew | exact HSX.out _ (HW2.out.alloc HW2.out.size _))
              (first
                | (refine step_append_any _ rfl (.tmp 34) (.tmp 37) 24 rfl (w.heap.size + 1) 36 i0 _ 3 24 Tryz.underlying24 HII.out hz0 hz1 hz2 rfl (by decide) (.slice (some ⟨w8.heap.size, 0, none⟩) 0 0) 0 [] (by simp [Act.eval]) (own_below HZ.out (Below.drew (Below.refl _ _))) w1.heap.size _ p _ _ (by simp [Act.eval]; rfl) (HRD.out _ (And.right (And.right (And.right (And.right (by assumption)))))) (winL_one _) (by simp only [maxLen]; omega) (by omega) (by simp; omega) ?_; intro v2 w2 hown2 hg2 hat2; obtain ⟨a2, c2, rfl⟩ := own_slice hown2; have HO2 := hide hown2; have HK2 : Hid (Below w1.heap.size w1 w2) := hide (Below.grown (And.right (And.right (And.right (And.right (by assumption))))) hg2 (by simp; omega) (fun r hr => by injection hr with hr; simp at hr; omega)); have HA2 : Hid (∀ r, (Value.slice a2 (0 + p) c2).ownBlock = some r → w1.heap.size ≤ r) := hide (fun r hr => by rcases hat2 with h | h <;> (rw [h] at hr; injection hr with hr; simp at hr; omega)); have hz2' : w8.heap.size ≤ w2.heap.size := (by have h := hg2.size; simp at h; omega); clear hown2 hg2 hat2)
                | (refine step_append_any _ rfl (.tmp 34) (.tmp 37) 24 rfl (w.heap.size + 1) 36 i0 _ 3 24 Tryz.underlying24 HII.out hz0 hz1 hz2 rfl (by decide) (.slice (some ⟨w8.heap.size + 1, 0, none⟩) 0 0) 0 [] (by simp [Act.eval]) (own_below HZ3.out (Below.drew (Below.refl _ _))) w1.heap.size _ p _ _ (by simp [Act.eval]; rfl) (HRD.out _ (And.right (And.right (And.right (And.right (by assumption)))))) (winL_one _) (by simp only [maxLen]; omega) (by omega) (by simp; omega) ?_; intro v2 w2 hown2 hg2 hat2; obtain ⟨a2, c2, rfl⟩ := own_slice hown2; have HO2 := hide hown2; have HK2 : Hid (Below w1.heap.size w1 w2) := hide (Below.grown (And.right (And.right (And.right (And.right (by assumption))))) hg2 (by simp; omega) (fun r hr => by injection hr with hr; simp at hr; omega)); have HA2 : Hid (∀ r, (Value.slice a2 (0 + p) c2).ownBlock = some r → w1.heap.size ≤ r) := hide (fun r hr => by rcases hat2 with h | h <;> (rw [h] at hr; injection hr with hr; simp at hr; omega)); have hz2' : w8.heap.size ≤ w2.heap.size := (by have h := hg2.size; simp at h; omega); have HWM : Hid (Blk w2 w8.heap.size 36 #[.int .u64 (lo : Int), .int .u64 (len : Int), .int .u16 (part : Int)]) := hide (Blk.grown (w := ((w8.alloc (.cells #[.int .u64 (lo : Int), .int .u64 (len : Int), .int .u16 (part : Int)] 36)).alloc (.cells #[] 36)).drew) ((Blk.new w8 36 #[.int .u64 (lo : Int), .int .u64 (len : Int), .int .u16 (part : Int)]).alloc _) hg2 (fun e => by injection e with e; simp at e)); clear hown2 hg2 hat2)
                | (refine step_append_any _ rfl (.tmp 34) (.tmp 37) 24 rfl (w.heap.size + 1) 36 i0 _ 3 24 Tryz.underlying24 HII.out hz0 hz1 hz2 rfl (by decide) (.slice (some ⟨w8.heap.size, 0, none⟩) 0 0) 0 [] (by simp [Act.eval]) (own_below HZ.out (Below.drew (Below.alloc (Below.refl _ _) (Nat.le_refl _) _))) w1.heap.size _ p _ _ (by simp [Act.eval]; rfl) (HRD.out _ (And.right (And.right (And.right (And.right (by assumption)))))) (winL_one _) (by simp only [maxLen]; omega) (by omega) (by simp; omega) ?_; intro v2 w2 hown2 hg2 hat2; obtain ⟨a2, c2, rfl⟩ := own_slice hown2; have HO2 := hide hown2; have HK2 : Hid (Below w1.heap.size w1 w2) := hide (Below.grown (And.right (And.right (And.right (And.right (by assumption))))) hg2 (by simp; omega) (fun r hr => by injection hr with hr; simp at hr; omega)); have HA2 : Hid (∀ r, (Value.slice a2 (0 + p) c2).ownBlock = some r → w1.heap.size ≤ r) := hide (fun r hr => by rcases hat2 with h | h <;> (rw [h] at hr; injection hr with hr; simp at hr; omega)); have hz2' : w8.heap.size ≤ w2.heap.size := (by have h := hg2.size; simp at h; omega); have HWN : Hid (Blk w2 (w8.heap.size + 1) 36 #[.int .u64 (lo : Int), .int .u64 (len : Int), .int .u16 (part : Int)]) := hide (Blk.grown (w := ((w8.alloc (.cells #[] 36)).alloc (.cells #[.int .u64 (lo : Int), .int .u64 (len : Int), .int .u16 (part : Int)] 36)).drew) (by have := Blk.new (w8.alloc (.cells #[] 36)) 36 #[.int .u64 (lo : Int), .int .u64 (len : Int), .int .u16 (part : Int)]; rw [World.size_alloc] at this; exact this) hg2 (fun e => by injection e with e; simp at e)); clear hown2 hg2 hat2)
                | (refine step_append_any _ rfl (.tmp 38) (.tmp 44) 24 rfl (w.heap.size + 1) 36 i0 _ 3 24 Tryz.underlying24 HII.out hz0 hz1 hz2 rfl (by decide) (.slice a2 (0 + p) c2) (0 + p) ([] ++ (L.take p).flatMap winL) (by simp [Act.eval]) HO2.out w2.heap.size (some ⟨w8.heap.size, 0, none⟩) 1 1 (winL ⟨lo, len, part⟩) (by simp [Act.eval]) (reads_blk HWM.out HWM.out.lt rfl rfl) (wn_one _) (by simp only [maxLen]; omega) (by omega) (by omega) ?_; intro v3 w3 hown3 hg3 hat3; obtain ⟨a3, c3, rfl⟩ := own_slice hown3; have HO3 := hide hown3; have HK3 : Hid (Below w1.heap.size w1 w3) := hide (Below.grown HK2.out hg3 (by omega) (fun r hr => HA2.out r hr)); have HA3 : Hid (∀ r, (Value.slice a3 (0 + p + 1) c3).ownBlock = some r → w1.heap.size ≤ r) := hide (fun r hr => by rcases hat3 with h | h; exact HA2.out r (by rw [← h]; exact hr); (rw [h] at hr; injection hr with hr; first | (simp at hr; omega) | omega)); have hz3' : w8.heap.size ≤ w3.heap.size := (Nat.le_trans hz2' hg3.size); clear hown3 hg3 hat3)
                | (refine step_append_any _ rfl (.tmp 38) (.tmp 44) 24 rfl (w.heap.size + 1) 36 i0 _ 3 24 Tryz.underlying24 HII.out hz0 hz1 hz2 rfl (by decide) (.slice a2 (0 + p) c2) (0 + p) ([] ++ (L.take p).flatMap winL) (by simp [Act.eval]) HO2.out w2.heap.size (some ⟨w8.heap.size + 1, 0, none⟩) 1 1 (winL ⟨lo, len, part⟩) (by simp [Act.eval]) (reads_blk HWN.out HWN.out.lt rfl rfl) (wn_one _) (by simp only [maxLen]; omega) (by omega) (by omega) ?_; intro v3 w3 hown3 hg3 hat3; obtain ⟨a3, c3, rfl⟩ := own_slice hown3; have HO3 := hide hown3; have HK3 : Hid (Below w1.heap.size w1 w3) := hide (Below.grown HK2.out hg3 (by omega) (fun r hr => HA2.out r hr)); have HA3 : Hid (∀ r, (Value.slice a3 (0 + p + 1) c3).ownBlock = some r → w1.heap.size ≤ r) := hide (fun r hr => by rcases hat3 with h | h; exact HA2.out r (by rw [← h]; exact hr); (rw [h] at hr; injection hr with hr; first | (simp at hr; omega) | omega)); have hz3' : w8.heap.size ≤ w3.heap.size := (Nat.le_trans hz2' hg3.size); clear hown3 hg3 hat3)
                | (refine step_append_any _ rfl (.tmp 38) (.tmp 44) 24 rfl (w.heap.size + 1) 36 i0 _ 3 24 Tryz.underlying24 HII.out hz0 hz1 hz2 rfl (by decide) (.slice a2 (0 + p) c2) (0 + p) ([] ++ (L.take p).flatMap winL) (by simp [Act.eval]) (HO2.out.alloc _) (w2.heap.size + 1) (some ⟨w2.heap.size, 0, none⟩) 1 1 (winL ⟨lo, len, part⟩) (by simp [Act.eval]) (win_reads w2 ⟨lo, len, part⟩ 36) (wn_one _) (by simp only [maxLen]; omega) (by omega) (by simp; omega) ?_; intro v3 w3 hown3 hg3 hat3; obtain ⟨a3, c3, rfl⟩ := own_slice hown3; have HO3 := hide hown3; have HK3 : Hid (Below w1.heap.size w1 w3) := hide (Below.grown (HK2.out.alloc HK2.out.size _) hg3 (by simp; omega) (fun r hr => HA2.out r hr)); have HA3 : Hid (∀ r, (Value.slice a3 (0 + p + 1) c3).ownBlock = some r → w1.heap.size ≤ r) := hide (fun r hr => by rcases hat3 with h | h; exact HA2.out r (by rw [← h]; exact hr); (rw [h] at hr; injection hr with hr; first | (simp at hr; omega) | omega)); have hz3' : w8.heap.size ≤ w3.heap.size := (by have h := hg3.size; first | (simp at h; omega) | omega); clear hown3 hg3 hat3)
                | (refine step_append_any _ rfl (.tmp 45) (.tmp 48) 24 rfl (w.heap.size + 1) 36 i0 _ 3 24 Tryz.underlying24 HII.out hz0 hz1 hz2 rfl (by decide) (.slice a3 (0 + p + 1) c3) (0 + p + 1) ([] ++ (L.take p).flatMap winL ++ winL ⟨lo, len, part⟩) (by simp [Act.eval]) HO3.out w1.heap.size _ (k - p) (c' - p) _ (by simp [Act.eval, addr_plain]) (HRP.out _ HK3.out) (winL_one _) (by simp only [maxLen]; omega) (by omega) (by omega) ?_; intro v4 w4 hown4 hg4 hat4; obtain ⟨a4, c4, rfl⟩ := own_slice hown4; have HO4 := hide hown4; have HK4 : Hid (Below w1.heap.size w1 w4) := hide (Below.grown HK3.out hg4 (by omega) (fun r hr => HA3.out r hr)); clear hown4 hg4 hat4))
            all_goals
              have hl : 0 + p + 1 + (k - p) = k + 1 := by omega
              have hfl : [] ++ (L.take p).flatMap winL ++ winL (⟨lo, len, part⟩ : WinR) ++ (L.drop p).flatMap winL = (L.take p ++ [(⟨lo, len, part⟩ : WinR)] ++ L.drop p).flatMap winL := by simp only [List.flatMap_append, List.nil_append, List.flatMap_cons, List.flatMap_nil, List.append_nil]
              have HCAP := hide (own_cap HO4.out)
              have HFIN : Hid (w4.ownsRow (w.heap.size + 1) 36 3 (.slice a4 (k + 1) c4) (k + 1) ((L.take p ++ [(⟨lo, len, part⟩ : WinR)] ++ L.drop p).flatMap winL)) := hide (by have := HO4.out; rw [hl, hfl] at this; exact this)
              have HLEN : Hid ((L.take p ++ [(⟨lo, len, part⟩ : WinR)] ++ L.drop p).length = k + 1) := hide (by have := HL.out; simp only [List.length_append, List.length_take, List.length_drop, List.length_cons, List.length_nil]; omega)
              have HPP : Hid ((L.take p ++ [(⟨lo, len, part⟩ : WinR)] ++ L.drop p).Perm (c.wins.l.take (k + 1))) := hide (by rw [HTK.out]; exact ins_perm p HP.out)
              have HAA : Hid (AscW (L.take p ++ [(⟨lo, len, part⟩ : WinR)] ++ L.drop p)) := hide (ins_asc HA.out (by have := HL.out; omega) HLP.out (fun j hj hjp => HHP.out j hj hjp))
              clear hfl
              go_wp2
              go_roundw
              case rel => exact ⟨k + 1, a4, c4, L.take p ++ [(⟨lo, len, part⟩ : WinR)] ++ L.drop p, by omega, by go_num, congrArg (fun z => Value.slice a4 z c4) (by omega), by have := HCAP.out; omega, hide ⟨HB1.out.below HK4.out, HFIN.out, HLEN.out, HPP.out, HAA.out⟩⟩
              case measure => simp [intOf]; omega
    · have hkn : k = n := by omega
      subst hkn
      have HE := hide hrel.out
      clear hlt hk hrel
      go_wp2
      go_ret
      refine ⟨L, ?_, HE.out.2.2.2.2, a, c', by rw [HE.out.2.2.1]; rfl, by rw [HE.out.2.2.1]; exact own_baseS HE.out.2.1 (by omega), HE.out.1.1⟩
      have := HE.out.2.2.2.1
      rwa [List.take_of_length_le (by rw [HN.out]; exact Nat.le_refl _)] at this
end Go.Proofs.YthccadabblkalaaGreat
