/- The walk of slices.Reverse at spans (chapter 14). -/
import Derived.Test.YtakehbljldjndaaSwEq
namespace Go.Proofs.Ytakehbljldjndaa
open Go.RowKit Go.Sort
set_option linter.unusedVariables false

def toI (s : Nat × Nat) : Itm := ⟨s.1, s.2, 0⟩
def eI (x : Itm) : List Value := spL (x.lo, x.len)
theorem eI_len (x : Itm) : (eI x).length = 2 := rfl
theorem toI_flat (l : List (Nat × Nat)) : (l.map toI).flatMap eI = l.flatMap spL := by rw [List.flatMap_map]; rfl
theorem two {P : Nat → Prop} : (∀ j, j < 2 → P j) ↔ P 0 ∧ P 1 :=
  ⟨fun h => ⟨h 0 (by omega), h 1 (by omega)⟩, fun h j hj => by
    match j, hj with
    | 0, _ => exact h.1
    | 1, _ => exact h.2⟩
def put2 (cs : Array Value) (i : Nat) (x : Itm) : Array Value := (cs.setIfInBounds (i * 2) (.int .u64 (x.lo : Int))).setIfInBounds (i * 2 + 1) (.int .u64 (x.len : Int))
theorem put2_size (cs : Array Value) (i : Nat) (x : Itm) : (put2 cs i x).size = cs.size := by simp [put2]
theorem put2_get (cs : Array Value) (i k m : Nat) (x : Itm) (hi : i * 2 + 1 < cs.size) (hm : m < 2) : (put2 cs i x)[k * 2 + m]? = if k = i then (eI x)[m]? else cs[k * 2 + m]? := by
  unfold put2
  simp only [Array.getElem?_setIfInBounds, Array.size_setIfInBounds]
  by_cases hk : k = i
  · subst hk
    rw [if_pos rfl]
    match m, hm with
    | 0, _ => rw [if_neg (by omega), if_pos (by omega), if_pos (by omega)]; rfl
    | 1, _ => rw [if_pos (by omega), if_pos (by omega)]; rfl
  · rw [if_neg hk, if_neg (by omega), if_neg (by omega)]
/-- What a row holds when k exchanges are over. -/
def RevAt (l : List (Nat × Nat)) (k : Nat) (d : Array Itm) : Prop := d.size = l.length ∧ ∀ i, i < l.length → d[i]! = if i < k ∨ l.length - k ≤ i then toI l[l.length - 1 - i]! else toI l[i]!
theorem rev_next {l : List (Nat × Nat)} {k m : Nat} {d : Array Itm} (h : RevAt l k d) (hk : k + m + 1 = l.length) (hlt : k < m) : RevAt l (k + 1) (swp d k m) := by
  refine ⟨by rw [size_swp]; exact h.1, fun i hi => ?_⟩
  rw [swp_get d k m i (by rw [h.1]; omega) (by rw [h.1]; omega)]
  by_cases h1 : i = m
  · rw [if_pos h1, h.2 k (by omega), if_neg (by omega), if_pos (by omega)]
    have : l.length - 1 - i = k := by omega
    rw [this]
  · rw [if_neg h1]
    by_cases h2 : i = k
    · rw [if_pos h2, h.2 m (by omega), if_neg (by omega), if_pos (by omega)]
      have : l.length - 1 - i = m := by omega
      rw [this]
    · rw [if_neg h2, h.2 i hi]
      by_cases h3 : i < k ∨ l.length - k ≤ i
      · rw [if_pos h3, if_pos (by omega)]
      · rw [if_neg h3, if_neg (by omega)]
theorem rev_done {l : List (Nat × Nat)} {k m : Nat} {d : Array Itm} (h : RevAt l k d) (hk : k + m + 1 = l.length) (hge : m ≤ k) (hk2 : k ≤ m + 1) : d.toList = l.reverse.map toI := by
  apply List.ext_getElem
  · rw [Array.length_toList, List.length_map, List.length_reverse, h.1]
  · intro i h1 h2
    rw [Array.length_toList] at h1
    have hi : i < l.length := by rw [h.1] at h1; exact h1
    have e := h.2 i hi
    rw [getElem!_pos d i h1] at e
    rw [List.getElem_map, List.getElem_reverse, Array.getElem_toList, e]
    by_cases h3 : i < k ∨ l.length - k ≤ i
    · rw [if_pos h3, getElem!_pos l _ (by omega)]
    · rw [if_neg h3]
      have : i = l.length - 1 - i := by omega
      rw [getElem!_pos l _ hi]
      congr 1
      exact getElem_congr_idx this
set_option maxRecDepth 100000 in
set_option maxHeartbeats 4000000 in
theorem Reverse_calls (l : List (Nat × Nat)) (base c : Nat) (A : Option Addr) (w : World) (h : w.ownsRow base 38 2 (.slice A l.length c) l.length (l.flatMap spL)) (hl : l.length ≤ 1000000) :
    Calls Try.prog 23 #[.slice A l.length c] w fun e w' => e = .returned (.tuple #[]) ∧
      w'.ownsRow base 38 2 (.slice A l.length c) l.length (l.reverse.flatMap spL) ∧ But (fun k => (Value.slice A l.length c).ownBlock = some k) w w' := by
  rcases Nat.eq_zero_or_pos l.length with h0 | h0
  · have hn : l = [] := List.eq_nil_of_length_eq_zero h0
    subst hn
    have HO := hide h
    simp only [List.length_nil] at *
    clear h hl h0
    go_enter Try.func23, Try.ntmps23
    go_wp2
    go_loopw [2, 3] (fun i j wr => i = .int .i64 0 ∧ j = .int .i64 (-1) ∧ w = wr) (fun _ _ _ => 0)
    case atStart => exact ⟨rfl, rfl, rfl⟩
    case round =>
      obtain ⟨rfl, rfl, rfl⟩ := hrel
      go_wp2
      go_end0
      exact ⟨rfl, HO.out, But.refl _ _⟩
  · rcases h.2 with ⟨_, h1⟩ | ⟨g, cap, cur, hv, hbs, hg, h1, h2, h3, h4⟩
    · omega
    injection hv with e1 e2 e3
    subst e1 e3
    have hg' : Blk w g 38 cur := hg
    have hR0 : RowK eI 2 cur (l.map toI).toArray := by
      rw [rowK_take eI_len, List.size_toArray, List.length_map, h4, List.toList_toArray, toI_flat]
    have hV0 : RevAt l 0 (l.map toI).toArray := by
      refine ⟨by simp, fun i hi => ?_⟩
      rw [if_neg (by omega), getElem!_pos _ i (by simpa using hi), getElem!_pos l i hi]
      simp
    obtain ⟨n, hn⟩ : ∃ n, n = l.length := ⟨_, rfl⟩
    have HN := hide hn
    have HF := hide (And.intro hbs (And.intro h2 (And.intro h3 h1)))
    have H0 : Hid (∃ d cs, Blk w g 38 cs ∧ cs.size = c * 2 ∧ RowK eI 2 cs d ∧ RevAt l 0 d ∧ But (· = g) w w) := hide ⟨_, cur, hg', h3, hR0, hV0, But.refl _ _⟩
    rw [← hn] at hl h0 h1 ⊢
    have hnI : (n : Int) ≤ 1000000 := by omega
    have hn0 : (0 : Int) < (n : Int) := by omega
    have hcI : (n : Int) ≤ (c : Int) := by omega
    have HQ := hide (show 0 < n ∧ n ≤ c from ⟨h0, h1⟩)
    obtain ⟨q, hq⟩ : ∃ q, n = q + 1 := ⟨n - 1, by omega⟩
    have e9 : (n : Int) - 1 = (q : Int) := by omega
    have HQ2 := hide hq
    clear h hg hg' hR0 hV0 hn hbs h2 h3 h4 hl h0 h1 hq
    go_enter Try.func23, Try.ntmps23
    go_wp2
    clear e9
    go_loopw [2, 3] (fun i j wr => ∃ k m : Nat, k + m + 1 = n ∧ k ≤ m + 1 ∧ i = .int .i64 (k : Int) ∧ j = .int .i64 (m : Int) ∧ Hid (∃ d cs, Blk wr g 38 cs ∧ cs.size = c * 2 ∧ RowK eI 2 cs d ∧ RevAt l k d ∧ But (· = g) w wr)) (fun i _ _ => n - (intOf i).toNat)
    case atStart => exact ⟨0, q, by have := HQ2.out; omega, by omega, rfl, rfl, H0⟩
    case round =>
      obtain ⟨k, m, hkm, hk2, rfl, rfl, hrel⟩ := hrel
      obtain ⟨d, cs, hB, hcs, hR, hV, hbt⟩ := hrel.out
      by_cases hlt : k < m
      · have hlt2 : (k : Int) < (m : Int) := by omega
        have hmn : (m : Int) < (n : Int) := by omega
        have hkn : (k : Int) < (n : Int) := by omega
        have hds : d.size = n := by rw [hV.1, HN.out]
        have a1 := (hR k (by omega))
        have a2 := (hR m (by omega))
        rw [two] at a1 a2
        have p0 : wr.cell? ⟨g, k * 2, none⟩ = some (.int .u64 (d[k]!.lo : Int)) := (hB.cell _).trans a1.1
        have p1 : wr.cell? ⟨g, k * 2 + 1, none⟩ = some (.int .u64 (d[k]!.len : Int)) := (hB.cell _).trans a1.2
        have r0 : wr.cell? ⟨g, m * 2, none⟩ = some (.int .u64 (d[m]!.lo : Int)) := (hB.cell _).trans a2.1
        have r1 : wr.cell? ⟨g, m * 2 + 1, none⟩ = some (.int .u64 (d[m]!.len : Int)) := (hB.cell _).trans a2.2
        have hf := fun i => hB.frozen i
        have hm1 : (0 : Int) ≤ (m : Int) - 1 := by omega
        obtain ⟨p, hp⟩ : ∃ p, m = p + 1 := ⟨m - 1, by omega⟩
        have HB := hide hB
        have HR := hide (And.intro hcs hR)
        have HV := hide hV
        have HBT := hide hbt
        have HP := hide hp
        have HDS := hide hds
        have hfin : Hid (∀ W, W = ((((wr.setCell ⟨g, k * 2, none⟩ (.int .u64 (d[m]!.lo : Int))).setCell ⟨g, k * 2 + 1, none⟩ (.int .u64 (d[m]!.len : Int))).setCell ⟨g, m * 2, none⟩ (.int .u64 (d[k]!.lo : Int))).setCell ⟨g, m * 2 + 1, none⟩ (.int .u64 (d[k]!.len : Int))).drew →
            ∃ d cs, Blk W g 38 cs ∧ cs.size = c * 2 ∧ RowK eI 2 cs d ∧ RevAt l (k + 1) d ∧ But (· = g) w W) := by
          refine hide (fun W hW => ?_)
          subst hW
          refine ⟨swp d k m, put2 (put2 cs k d[m]!) m d[k]!, ((((HB.out.set_ _ _).set_ _ _).set_ _ _).set_ _ _).drew, by rw [put2_size, put2_size, hcs], ?_, rev_next hV (by rw [← HN.out]; omega) hlt, ((((hbt.setCell (p := ⟨g, k * 2, none⟩) (.inl rfl) _).setCell (p := ⟨g, k * 2 + 1, none⟩) (.inl rfl) _).setCell (p := ⟨g, m * 2, none⟩) (.inl rfl) _).setCell (p := ⟨g, m * 2 + 1, none⟩) (.inl rfl) _).drew⟩
          intro i hi j hj
          rw [size_swp] at hi
          have hqc := HQ.out.2
          rw [put2_get _ m i j _ (by rw [put2_size]; omega) hj, put2_get _ k i j _ (by omega) hj, swp_get d k m i (by omega) (by omega)]
          by_cases h1 : i = m
          · rw [if_pos h1, if_pos h1]
          · rw [if_neg h1, if_neg h1]
            by_cases h2 : i = k
            · rw [if_pos h2, if_pos h2]
            · rw [if_neg h2, if_neg h2]; exact hR i hi j hj
        generalize d[k]!.lo = xl at *
        generalize d[k]!.len = xn at *
        generalize d[m]!.lo = yl at *
        generalize d[m]!.len = yn at *
        clear a1 a2 hR hV hbt hp hds hcs hB hrel hlt
        have hne : k ≠ m := by omega
        go_wp2_with fail
        go_region
        go_wp2
        go_roundw
        case rel => exact ⟨k + 1, p, by have := HP.out; omega, by have := HP.out; omega, by go_num, by (have := HP.out; subst this; go_num), hide (hfin.out _ rfl)⟩
        case measure => simp [intOf]; omega
      · have HE : Hid (d.toList = l.reverse.map toI) := hide (rev_done hV (by rw [← HN.out]; omega) (by omega) hk2)
        have hnl : ¬ ((k : Int) < (m : Int)) := by omega
        have HB := hide hB
        have HR := hide (And.intro hcs hR)
        have HV := hide hV
        have HBT := hide hbt
        clear hB hcs hR hV hbt hrel hlt hk2 hkm
        have hd : decide ((k : Int) < (m : Int)) = false := by simpa using hnl
        go_wp2
        go_end0
        refine ⟨rfl, ⟨by rw [flat_len spL 2 spL_len, List.length_reverse, ← HN.out], .inr ⟨g, c, cs, rfl, HF.out.1, HB.out, HQ.out.2, HF.out.2.1, HR.out.1, ?_⟩⟩, HBT.out.mono (fun i _ hi => by rw [hi]; rfl)⟩
        have h5 := (rowK_take eI_len).1 HR.out.2
        rw [HE.out, toI_flat, HV.out.1, ← HN.out] at h5
        exact h5
end Go.Proofs.Ytakehbljldjndaa
