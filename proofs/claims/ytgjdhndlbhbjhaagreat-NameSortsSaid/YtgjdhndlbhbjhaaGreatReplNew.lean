/- The walk of the replacer's maker and of its front: 'NewReplacer(..).Replace(s)' at the two pairs of a quoted name. -/
import Derived.Test.YtgjdhndlbhbjhaaGreatReplOnce
import Derived.Test.YtgjdhndlbhbjhaaGreatReplRun
import Derived.Test.YtgjdhndlbhbjhaaGreatReplLong
import Derived.Test.YtgjdhndlbhbjhaaGreatNmValid
import Derived.OwnWalk
import Derived.Maps.AppendAt
import Derived.Deep.RegionWith
namespace Go.Proofs.YtgjdhndlbhbjhaaGreat
open Go.RowKit Go.Lib

/-- The four strings lie in memory. -/
def Pairs (w : World) (o : Nat) : Prop :=
  w.cell? ⟨o, 0, none⟩ = some (.string ⟨#[92]⟩) ∧ w.cell? ⟨o, 1, none⟩ = some (.string ⟨#[92, 92]⟩) ∧ w.cell? ⟨o, 2, none⟩ = some (.string ⟨#[34]⟩) ∧ w.cell? ⟨o, 3, none⟩ = some (.string ⟨#[92, 34]⟩)
def pairL : List Value := [.string ⟨#[92]⟩, .string ⟨#[92, 92]⟩, .string ⟨#[34]⟩, .string ⟨#[92, 34]⟩]

theorem string_info : (Tryz.prog.info? 9).map (fun i => (i.zero, i.size, i.bytes)) = some (some (.string ⟨#[]⟩), 1, 16) := by kernel_rfl

/-- What lies behind 'NewReplacer'. -/
def Fresh (w : World) (e : Ending) (w' : World) : Prop :=
  ∃ b o2 c, e = .returned (.pointer (some ⟨b, 0, none⟩)) ∧ w.heap.size ≤ b ∧ b ≠ o2 ∧
      Blk w' b 65 #[.int .u32 0, .int .i32 0, .int .u32 0, .nilIface, .slice (some ⟨o2, 0, none⟩) 4 c] ∧ Pairs w' o2 ∧ Below w.heap.size w w'

set_option maxRecDepth 100000 in
set_option maxHeartbeats 1000000 in
theorem NewReplacer_calls (o : Nat) (w : World) (hp : Pairs w o) :
    Calls Tryz.prog 16 #[.slice (some ⟨o, 0, none⟩) 4 4] w (Fresh w) := by
  obtain ⟨i0, hi, hz0, hz1, hz2⟩ := info_parts string_info
  have hc : ∀ j v, pairL[j]? = some v → w.cell? ((⟨o, 0, none⟩ : Addr).add j) = some v := by
    intro j v hj
    obtain ⟨p0, p1, p2, p3⟩ := hp
    match j, hj with
    | 0, hj => simp [pairL] at hj; rw [← hj]; exact p0
    | 1, hj => simp [pairL] at hj; rw [← hj]; exact p1
    | 2, hj => simp [pairL] at hj; rw [← hj]; exact p2
    | 3, hj => simp [pairL] at hj; rw [← hj]; exact p3
    | j + 4, hj => simp [pairL] at hj
  have h1 : ∀ u ∈ pairL, u.oneCell' = true := by
    intro u hu
    simp only [pairL, List.mem_cons, List.not_mem_nil, or_false] at hu
    rcases hu with rfl | rfl | rfl | rfl <;> rfl
  clear hp
  have Hc := hide hc
  have H1 := hide h1
  clear hc h1
  go_enter Tryz.func16, Tryz.ntmps16
  go_wp2_with (at_builtin; go_loud (refine wpList_append_own_at _ rfl (.const (.slice none 0 0)) (.tmp 8) 22 rfl w.heap.size 9 i0 _ 1 16 Tryz.underlying22 hi hz0 hz1 hz2 rfl (by decide) (.slice none 0 0) 0 [] rfl (World.ownsRow_nil _ _ _ _) ⟨o, 0, none⟩ 4 4 pairL rfl rfl Hc.out H1.out (by simp only [maxLen]; omega) (by omega) (Nat.le_refl _) ?_); intro v' w1 hown hg hnl hat; obtain ⟨g, cap, hv, hgb, hgl, _, _, hgc, _⟩ := own_form hown (by omega); rw [hv]; clear hv hown hat hnl)
  go_ret
  have hb := (Below.refl _ w).grown hg (Nat.le_refl _) (by simp [Value.ownBlock])
  have hbs := hb.size
  refine ⟨w1.heap.size, g, cap, rfl, hb.size, by omega, Blk.new w1 _ _, ?_, hb.alloc hb.size _⟩
  have hk : ∀ j, (w1.alloc (.cells #[.int .u32 0, .int .i32 0, .int .u32 0, .nilIface, .slice (some ⟨g, 0, none⟩) 4 cap] 65)).cell? ⟨g, j, none⟩ = w1.cell? ⟨g, j, none⟩ := fun j => World.cell?_alloc_lt w1 _ _ hgl
  exact ⟨(hk 0).trans (hgc 0 _ rfl), (hk 1).trans (hgc 1 _ rfl), (hk 2).trans (hgc 2 _ rfl), (hk 3).trans (hgc 3 _ rfl)⟩
theorem bsReplace_calls (G : Nat) (cs : Array Value) (s0 s1 : Value) (s : ByteArray) (w : World) (hS : Stage G w 2 cs s0 s1) (hs : s.size ≤ 100) :
    Calls Tryz.prog 114 #[.pointer (some ⟨G + 1, 0, none⟩), .string s] w fun e w' => e = .returned (.string ⟨(quoteL s.data.toList).toArray⟩) ∧ Below w.heap.size w w' := by
  by_cases h : s.size < 16
  · exact Replace_short G cs s0 s1 s w hS h
  · exact Replace_long G cs s0 s1 s w hS hs (by omega)

set_option maxHeartbeats 1000000 in
theorem Front_calls (b o c : Nat) (s : ByteArray) (w : World) (hs : s.size ≤ 100) (hbo : b ≠ o)
    (hB : Blk w b 65 #[.int .u32 0, .int .i32 0, .int .u32 0, .nilIface, .slice (some ⟨o, 0, none⟩) 4 c]) (hp : Pairs w o) :
    Calls Tryz.prog 17 #[.pointer (some ⟨b, 0, none⟩), .string s] w fun e w' => e = .returned (.string ⟨(quoteL s.data.toList).toArray⟩) ∧ w.grownBy w' (some b) := by
  obtain ⟨g0, g1, g2, g3⟩ := hp
  have H := hide (Do_calls b o c w hB hbo g0 g1 g2 g3)
  have hmf : ∀ (fn : Fn) (first cap : Array Value) (w : World), (Instr.makeFunc fn first cap).run Tryz.prog w = .ok (.func fn first cap) w := fun _ _ _ _ => rfl
  have k0 : w.cell? ⟨b, 0, none⟩ = some (.int .u32 0) := hB.cell 0
  clear g0 g1 g2 g3 hB
  go_enter Tryz.func17, Tryz.ntmps17
  go_wp2_with (first | (go_at_call 24; refine H.out.mono ?_; rintro e w2 ⟨rfl, hg2, G, cs, s0, s1, hG, hB2, hS⟩; have k3 : w2.cell? ⟨b, 3, none⟩ = some (.iface 101 (.pointer (some ⟨G + 1, 0, none⟩))) := hB2.cell 3) | (go_at_call 114; refine (bsReplace_calls G cs s0 s1 s _ hS hs).mono ?_; rintro e w3 ⟨rfl, hb3⟩))
  go_ret
  exact ⟨rfl, hg2.trans (only_of_below hb3 _)⟩

theorem quoteL_size (s : ByteArray) (hs : s.size ≤ 100) : (quoteL s.data.toList).length ≤ 200 := by
  have := quoteL_length s.data.toList
  have h2 : s.data.toList.length = s.size := by simp
  omega
theorem quote_join (s : ByteArray) (h : validS s = true) : (⟨#[34]⟩ : ByteArray) ++ ⟨(quoteL s.data.toList).toArray⟩ ++ ⟨#[34]⟩ = quoteS s := by
  rw [quoteS_yes s h]
  apply ByteArray.ext
  apply Array.ext'
  simp
theorem validS_size (s : ByteArray) (h : validS s = true) : s.size ≤ 30 := by
  simp only [validS, validL, Bool.and_eq_true, decide_eq_true_eq] at h
  simpa using h.1.2

set_option maxRecDepth 100000 in
set_option maxHeartbeats 1000000 in
theorem Quote_calls (s : ByteArray) (w : World) :
    Calls Tryz.prog 9 #[.string s] w fun e w' => e = .returned (.string (quoteS s)) ∧ Below w.heap.size w w' := by
  cases hv : validS s
  · have Hv := hide hv
    have Hq := hide (quoteS_not s hv)
    clear hv
    go_enter Tryz.func9, Tryz.ntmps9
    go_wp2_with (go_at_call 10; refine (Valid_calls _ _).mono ?_; rintro e w1 ⟨rfl, hb1⟩; rw [Hv.out])
    go_ret
    exact ⟨by rw [Hq.out]; rfl, hb1⟩
  · have Hv := hide hv
    have Hq := hide (quote_join s hv)
    have hsz := validS_size s hv
    have hqs := quoteL_size s (by omega)
    clear hv
    go_enter Tryz.func9, Tryz.ntmps9
    go_wp2_with (first
      | (go_at_call 10; refine (Valid_calls _ _).mono ?_; rintro e w1 ⟨rfl, hb1⟩; rw [Hv.out])
      | (go_at_call 16; refine (NewReplacer_calls _ _ ⟨by go_simp, by go_simp, by go_simp, by go_simp⟩).mono ?_; rintro e w2 ⟨b, o2, c, rfl, hbb, hbo, hB, hP, hb2⟩)
      | (go_at_call 17; refine (Front_calls b o2 c s _ (by omega) hbo hB hP).mono ?_; rintro e w3 ⟨rfl, hg3⟩))
    have hbx : w1.heap.size ≤ b := by simp at hbb; omega
    go_ret
    refine ⟨by rw [← Hq.out]; rfl, ?_⟩
    have h2 := ((hb1.alloc hb1.size _).trans (hb2.mono (by simp; have := hb1.size; omega)))
    exact h2.grown hg3 h2.size (fun k hk => by cases hk; have := hb1.size; omega)
end Go.Proofs.YtgjdhndlbhbjhaaGreat
