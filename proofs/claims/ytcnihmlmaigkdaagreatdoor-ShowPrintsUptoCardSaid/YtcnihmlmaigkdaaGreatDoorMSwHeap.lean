/- A heap of spans, in plain words: the steps of container/heap as functions on arrays, after their Go text (chapter 14). No program in sight. Spans, items and queues in memory (chapter 14). The walks of the queue's methods (chapter 14). -/
import Derived.Sort.LotB
import Derived.Test.YtcnihmlmaigkdaaGreatDoorMMem
import Derived.Test.YtcnihmlmaigkdaaGreatDoorChecked
import Derived.WalkKit
import Derived.WalkSpells
import Derived.WalkLawsBesides
import Derived.Deep.QuietTactic
import Derived.BigQuiet
import Derived.BigGuardPart
import Derived.BigRegion
import Derived.Outline
import Derived.Deep.DeepMust
import Derived.Deep.RegionHeld3
import Derived.StillTailTactics
import Derived.Laws.AppendOwn
import Derived.Laws.StructEq
import Derived.Great.BuildSlice
import Derived.OwnWalk
import Derived.Laws.Rows
namespace Go.Proofs.YtcnihmlmaigkdaaGreatDoor
open Go.Sort

structure Itm where
  lo : Nat
  len : Nat
  idx : Nat
instance : Inhabited Itm := ⟨⟨0, 0, 0⟩⟩
/-- The last number, as the machine reckons it. -/
def lastI (x : Itm) : Nat := (x.lo + x.len + 18446744073709551615) % 18446744073709551616
def ltK (key : Itm → Nat) (x y : Itm) : Bool := decide (key y < key x)
theorem ltK_swo (key : Itm → Nat) : SWO (ltK key) := by
  constructor
  · intro x; simp [ltK]
  · intro x y z h1 h2; simp [ltK] at *; omega
  · intro x y z h1 h2; simp [ltK] at *; omega
/-- A heap: no node's key is greater than a child's. -/
def IsHeap (key : Itm → Nat) (n : Nat) (d : Array Itm) : Prop := ∀ i, i < n → Ok (ltK key) 0 n d i

/-! ### down -/
def hdown (key : Itm → Nat) (n i : Nat) (d : Array Itm) : Array Itm := siftDown (ltK key) n 0 i d
/-- The child that down looks at. -/
def childOf (key : Itm → Nat) (n i : Nat) (d : Array Itm) : Nat := if 2 * i + 2 < n ∧ key d[2 * i + 2]! < key d[2 * i + 1]! then 2 * i + 2 else 2 * i + 1
theorem hdown_leaf (key : Itm → Nat) (n i : Nat) (d : Array Itm) (h : n ≤ 2 * i + 1) : hdown key n i d = d := by
  unfold hdown; rw [siftDown, dif_pos (by omega)]
theorem hdown_stop (key : Itm → Nat) (n i : Nat) (d : Array Itm) (h : 2 * i + 1 < n) (hc : key d[i]! ≤ key d[childOf key n i d]!) : hdown key n i d = d := by
  unfold hdown
  rw [siftDown, dif_neg (by omega)]
  simp only [Nat.zero_add]
  unfold childOf at hc
  by_cases h1 : 2 * i + 2 < n ∧ key d[2 * i + 2]! < key d[2 * i + 1]!
  · rw [if_pos h1] at hc
    rw [if_pos (by simp only [ltK, Bool.and_eq_true, decide_eq_true_eq]; exact h1), if_pos (by simp [ltK]; omega)]
  · rw [if_neg h1] at hc
    rw [if_neg (by simp only [ltK, Bool.and_eq_true, decide_eq_true_eq]; exact h1), if_pos (by simp [ltK]; omega)]
theorem hdown_step (key : Itm → Nat) (n i : Nat) (d : Array Itm) (h : 2 * i + 1 < n) (hc : key d[childOf key n i d]! < key d[i]!) :
    hdown key n i d = hdown key n (childOf key n i d) (swp d i (childOf key n i d)) := by
  conv => lhs; unfold hdown
  rw [siftDown, dif_neg (by omega)]
  simp only [Nat.zero_add]
  unfold childOf at hc ⊢
  by_cases h1 : 2 * i + 2 < n ∧ key d[2 * i + 2]! < key d[2 * i + 1]!
  · rw [if_pos h1] at hc ⊢
    rw [if_pos (by simp only [ltK, Bool.and_eq_true, decide_eq_true_eq]; exact h1), if_neg (by simp [ltK]; omega), dif_pos h1.1]
    rfl
  · rw [if_neg h1] at hc ⊢
    rw [if_neg (by simp only [ltK, Bool.and_eq_true, decide_eq_true_eq]; exact h1), if_neg (by simp [ltK]; omega)]
    rfl
theorem childOf_lt (key : Itm → Nat) (n i : Nat) (d : Array Itm) (h : 2 * i + 1 < n) : childOf key n i d < n ∧ i < childOf key n i d := by
  unfold childOf; split <;> omega
theorem hdown_size (key : Itm → Nat) (n : Nat) : ∀ (m i : Nat) (d : Array Itm), n - i ≤ m → (hdown key n i d).size = d.size := by
  intro m
  induction m with
  | zero => intro i d h; rw [hdown_leaf key n i d (by omega)]
  | succ m ih =>
    intro i d h
    by_cases h1 : 2 * i + 1 < n
    · by_cases h2 : key d[childOf key n i d]! < key d[i]!
      · rw [hdown_step key n i d h1 h2, ih _ _ (by have := childOf_lt key n i d h1; omega), size_swp]
      · rw [hdown_stop key n i d h1 (by omega)]
    · rw [hdown_leaf key n i d (by omega)]

/-! ### up -/
def hup (key : Itm → Nat) (j : Nat) (d : Array Itm) : Array Itm :=
  if h : j = 0 then d else
    if key d[j]! < key d[(j - 1) / 2]! then hup key ((j - 1) / 2) (swp d ((j - 1) / 2) j) else d
termination_by j
decreasing_by omega
theorem hup_zero (key : Itm → Nat) (d : Array Itm) : hup key 0 d = d := by rw [hup, dif_pos rfl]
theorem hup_stop (key : Itm → Nat) (j : Nat) (d : Array Itm) (h : key d[(j - 1) / 2]! ≤ key d[j]!) : hup key j d = d := by
  rw [hup]
  split
  · rfl
  · rw [if_neg (by omega)]
theorem hup_step (key : Itm → Nat) (j : Nat) (d : Array Itm) (h0 : 0 < j) (h : key d[j]! < key d[(j - 1) / 2]!) : hup key j d = hup key ((j - 1) / 2) (swp d ((j - 1) / 2) j) := by
  conv => lhs; rw [hup]
  rw [dif_neg (by omega), if_pos h]
/-- The heap but at a node that may lie too low. -/
theorem hup_heap (key : Itm → Nat) (n : Nat) : ∀ (m j : Nat) (d : Array Itm), j ≤ m → j < n → n ≤ d.size →
    (∀ i k, (k = 2 * i + 1 ∨ k = 2 * i + 2) → k < n → k ≠ j → key d[i]! ≤ key d[k]!) →
    (∀ p k, (j = 2 * p + 1 ∨ j = 2 * p + 2) → (k = 2 * j + 1 ∨ k = 2 * j + 2) → k < n → key d[p]! ≤ key d[k]!) →
    (∀ i k, (k = 2 * i + 1 ∨ k = 2 * i + 2) → k < n → key (hup key j d)[i]! ≤ key (hup key j d)[k]!) ∧ PermIn 0 n d (hup key j d) := by
  intro m
  induction m with
  | zero =>
    intro j d hj hjn hn P1 P2
    obtain rfl : j = 0 := by omega
    rw [hup_zero]
    exact ⟨fun i k hk hkn => P1 i k hk hkn (by omega), permIn_refl d _ _⟩
  | succ m ih =>
    intro j d hj hjn hn P1 P2
    by_cases h0 : j = 0
    · subst h0
      rw [hup_zero]
      exact ⟨fun i k hk hkn => P1 i k hk hkn (by omega), permIn_refl d _ _⟩
    · obtain ⟨p, hp⟩ : ∃ p, p = (j - 1) / 2 := ⟨_, rfl⟩
      have hpj : j = 2 * p + 1 ∨ j = 2 * p + 2 := by omega
      by_cases hlt : key d[j]! < key d[p]!
      · rw [hup_step key j d (by omega) (by rw [← hp]; exact hlt), ← hp]
        have gP : (swp d p j)[p]! = d[j]! := swp_left d p j (by omega) (by omega)
        have gJ : (swp d p j)[j]! = d[p]! := swp_right d p j (by omega)
        have gO : ∀ k, k ≠ p → k ≠ j → (swp d p j)[k]! = d[k]! := fun k h1 h2 => swp_other d p j k h1 h2
        obtain ⟨R1, R2⟩ := ih p (swp d p j) (by omega) (by omega) (by rw [size_swp]; exact hn) (by
          intro i k hk hkn hkp
          by_cases hkj : k = j
          · obtain rfl : i = p := by omega
            rw [gP, hkj, gJ]; omega
          · rw [gO k hkp hkj]
            by_cases hip : i = p
            · subst hip
              rw [gP]
              have h1 := P1 i k hk hkn hkj
              omega
            · by_cases hij : i = j
              · subst hij
                rw [gJ]
                exact P2 p k hpj hk hkn
              · rw [gO i hip hij]
                exact P1 i k hk hkn hkj) (by
          intro q k hq hk hkn
          rw [gO q (by omega) (by omega)]
          have hqp : key d[q]! ≤ key d[p]! := P1 q p hq (by omega) (by omega)
          by_cases hkj : k = j
          · rw [hkj, gJ]; exact hqp
          · rw [gO k (by omega) hkj]
            exact Nat.le_trans hqp (P1 p k hk hkn hkj))
        exact ⟨R1, permIn_trans _ _ _ _ _ (swp_permIn d 0 n p j (Nat.zero_le _) (by omega) (Nat.zero_le _) hjn hn) R2⟩
      · rw [hup_stop key j d (by rw [← hp]; omega)]
        refine ⟨fun i k hk hkn => ?_, permIn_refl d _ _⟩
        by_cases hkj : k = j
        · obtain rfl : i = p := by omega
          rw [hkj]; omega
        · exact P1 i k hk hkn hkj
theorem isHeap_of {key : Itm → Nat} {n : Nat} {d : Array Itm} (h : ∀ i k, (k = 2 * i + 1 ∨ k = 2 * i + 2) → k < n → key d[i]! ≤ key d[k]!) : IsHeap key n d := by
  intro i _ k hk hkn
  have := h i k hk hkn
  simp only [Nat.zero_add, ltK, decide_eq_false_iff_not]; omega
theorem IsHeap.at_ {key : Itm → Nat} {n : Nat} {d : Array Itm} (h : IsHeap key n d) (i k : Nat) (hk : k = 2 * i + 1 ∨ k = 2 * i + 2) (hkn : k < n) : key d[i]! ≤ key d[k]! := by
  have := h i (by omega) k hk hkn
  simp only [Nat.zero_add, ltK, decide_eq_false_iff_not] at this; omega
theorem IsHeap.root {key : Itm → Nat} {n : Nat} {d : Array Itm} (h : IsHeap key n d) (i : Nat) (hi : i < n) : key d[0]! ≤ key d[i]! := by
  have := root_max (ltK_swo key) (F := 0) h i i (Nat.le_refl _) hi
  simp only [Nat.zero_add, Nat.add_zero, ltK, decide_eq_false_iff_not] at this; omega

/-! ### Init, Pop, push behind Fix -/
def hinit (key : Itm → Nat) (d : Array Itm) : Array Itm := heapBuild (ltK key) d.size 0 (d.size / 2) d
theorem permIn_whole {d d' : Array Itm} (h : PermIn 0 d.size d d') : d'.toList.Perm d.toList := by
  have h1 := h.2.2
  have e1 : d.extract 0 d.size = d := by simp
  have e2 : d'.extract 0 d.size = d' := by rw [← h.1]; simp
  rwa [e1, e2] at h1
theorem hinit_heap (key : Itm → Nat) (d : Array Itm) : IsHeap key d.size (hinit key d) ∧ (hinit key d).toList.Perm d.toList ∧ (hinit key d).size = d.size := by
  obtain ⟨h1, h2⟩ := build (ltK_swo key) d.size 0 (d.size / 2) d (by omega) (fun i hi hn k hk hkn => by omega)
  rw [Nat.zero_add] at h2
  exact ⟨h1, permIn_whole h2, h2.1⟩
/-- What Pop leaves (the last element is still there), and what it hands back. -/
def hpopAll (key : Itm → Nat) (d : Array Itm) : Array Itm := hdown key (d.size - 1) 0 (swp d 0 (d.size - 1))
def hpop (key : Itm → Nat) (d : Array Itm) : Array Itm := (hpopAll key d).pop
theorem hpopAll_spec (key : Itm → Nat) (d : Array Itm) (h : IsHeap key d.size d) (h0 : 0 < d.size) :
    (hpopAll key d).size = d.size ∧ (hpopAll key d)[d.size - 1]! = d[0]! ∧ IsHeap key (d.size - 1) (hpopAll key d) ∧ PermIn 0 d.size d (hpopAll key d) := by
  have g1o : ∀ j, j ≠ 0 → j ≠ d.size - 1 → (swp d 0 (d.size - 1))[j]! = d[j]! := fun j h1 h2 => swp_other d _ _ _ h1 h2
  obtain ⟨R1, R2⟩ := sift (ltK_swo key) (d.size - 1) 0 0 (d.size - 1) 0 (swp d 0 (d.size - 1)) (by omega) (by rw [size_swp]; omega) (Nat.le_refl _)
    (fun i _ h2 h3 k hk hkn => by
      rw [Nat.zero_add, Nat.zero_add, g1o i h3 (by omega), g1o k (by omega) (by omega)]
      have := h i (by omega) k hk (by omega)
      rwa [Nat.zero_add, Nat.zero_add] at this)
    (fun p _ hp => by omega)
  rw [Nat.zero_add] at R2
  refine ⟨by rw [hpopAll, hdown_size key _ (d.size - 1) 0 _ (by omega), size_swp], ?_, fun i hi => R1 i (Nat.zero_le _) hi, ?_⟩
  · have := R2.2.1 (d.size - 1) (.inr (Nat.le_refl _))
    show (siftDown (ltK key) (d.size - 1) 0 0 (swp d 0 (d.size - 1)))[d.size - 1]! = _
    rw [this]
    exact swp_right d 0 (d.size - 1) (by omega)
  · exact permIn_trans _ _ _ _ _ (swp_permIn d 0 d.size 0 (d.size - 1) (Nat.le_refl _) h0 (Nat.zero_le _) (by omega) (Nat.le_refl _))
      (permIn_mono _ _ 0 (d.size - 1) 0 d.size (Nat.le_refl _) (by omega) (by rw [size_swp]; exact Nat.le_refl _) R2)
theorem pop_get (d : Array Itm) (i : Nat) (h : i < d.size - 1) : d.pop[i]! = d[i]! := by
  rw [getElem!_pos d.pop i (by simpa using h), getElem!_pos d i (by omega), Array.getElem_pop]
theorem hpop_spec (key : Itm → Nat) (d : Array Itm) (h : IsHeap key d.size d) (h0 : 0 < d.size) :
    (hpop key d).size = d.size - 1 ∧ IsHeap key (hpop key d).size (hpop key d) ∧ (d[0]! :: (hpop key d).toList).Perm d.toList := by
  obtain ⟨h1, h2, h3, h4⟩ := hpopAll_spec key d h h0
  have hs : (hpop key d).size = d.size - 1 := by rw [hpop, Array.size_pop, h1]
  refine ⟨hs, ?_, ?_⟩
  · rw [hs]
    intro i hi k hk hkn
    have := h3 i hi k hk hkn
    rw [Nat.zero_add, Nat.zero_add] at this ⊢
    unfold hpop
    rw [pop_get _ i (by rw [h1]; exact hi), pop_get _ k (by rw [h1]; exact hkn)]
    exact this
  · have hp := permIn_whole h4
    have e : (hpopAll key d).toList = (hpop key d).toList ++ [d[0]!] := by
      have h5 : (hpopAll key d).toList ≠ [] := by
        intro h6
        have := congrArg List.length h6
        rw [Array.length_toList, h1, List.length_nil] at this
        omega
      have h7 := List.dropLast_concat_getLast h5
      have h8 : (hpopAll key d).toList.getLast h5 = d[0]! := by
        rw [List.getLast_eq_getElem, ← h2, getElem!_pos _ _ (by rw [h1]; omega)]
        simp only [Array.length_toList, h1, Array.getElem_toList]
      rw [h8] at h7
      rw [← h7, hpop, Array.toList_pop]
    rw [e] at hp
    exact (List.perm_append_singleton _ _).symm.trans hp
def hpush (key : Itm → Nat) (d : Array Itm) (x : Itm) : Array Itm := hup key d.size (d.push x)
theorem push_get (d : Array Itm) (x : Itm) (i : Nat) (h : i < d.size) : (d.push x)[i]! = d[i]! := by
  rw [getElem!_pos _ i (by simp; omega), getElem!_pos d i h, Array.getElem_push_lt]
theorem hpush_spec (key : Itm → Nat) (d : Array Itm) (x : Itm) (h : IsHeap key d.size d) :
    (hpush key d x).size = d.size + 1 ∧ IsHeap key (hpush key d x).size (hpush key d x) ∧ (hpush key d x).toList.Perm (d.toList ++ [x]) := by
  obtain ⟨R1, R2⟩ := hup_heap key (d.size + 1) d.size d.size (d.push x) (Nat.le_refl _) (by omega) (by simp)
    (fun i k hk hkn hkj => by
      rw [push_get d x i (by omega), push_get d x k (by omega)]
      exact h.at_ i k hk (by omega))
    (fun p k _ hk hkn => by omega)
  have hs : (hpush key d x).size = d.size + 1 := by
    show (hup key d.size (d.push x)).size = _
    rw [R2.1]; simp
  refine ⟨hs, ?_, ?_⟩
  · rw [hs]
    exact isHeap_of R1
  · have := permIn_whole (d := d.push x) (d' := hup key d.size (d.push x)) (by simpa using R2)
    simpa [hpush] using this
end Go.Proofs.YtcnihmlmaigkdaaGreatDoor
namespace Go.Proofs.YtcnihmlmaigkdaaGreatDoor
open Go.RowKit Go.WideShapes Go.ChangeShapes

/-- The first cells of a block hold the elements of a list, each in k cells. -/
def RowK (enc : Itm → List Value) (k : Nat) (cs : Array Value) (d : Array Itm) : Prop := ∀ i, i < d.size → ∀ j, j < k → cs[i * k + j]? = (enc d[i]!)[j]?
theorem rowK_take {enc : Itm → List Value} {k : Nat} (hk : ∀ x, (enc x).length = k) {cs : Array Value} {d : Array Itm} : RowK enc k cs d ↔ cs.toList.take (d.size * k) = d.toList.flatMap enc := by
  have hlen : (d.toList.flatMap enc).length = d.size * k := (flat_len enc k hk d.toList).trans (by rw [Array.length_toList])
  constructor
  · intro h
    apply List.ext_getElem?
    intro m
    by_cases hm : m < d.size * k
    · have hk0 : 0 < k := by
        rcases Nat.eq_zero_or_pos k with h0 | h0
        · rw [h0, Nat.mul_zero] at hm; omega
        · exact h0
      have e : m = m / k * k + m % k := by have := Nat.div_add_mod m k; rw [Nat.mul_comm] at this; omega
      have hi : m / k < d.size := by rw [Nat.div_lt_iff_lt_mul hk0]; exact hm
      have hj := Nat.mod_lt m hk0
      have h1 := h (m / k) hi (m % k) hj
      have h2 := flat_get enc k hk d.toList (m / k) (m % k) (by simpa using hi) hj
      rw [← e] at h1 h2
      rw [List.getElem?_take, if_pos hm, h2, Array.getElem?_toList, h1, getElem!_pos d _ hi]
      simp
    · rw [List.getElem?_eq_none (by rw [List.length_take]; omega), List.getElem?_eq_none (by rw [hlen]; omega)]
  · intro h i hi j hj
    have hm : i * k + j < d.size * k := by
      have : (i + 1) * k ≤ d.size * k := Nat.mul_le_mul_right _ hi
      rw [Nat.succ_mul] at this; omega
    have h2 := flat_get enc k hk d.toList i j (by simpa using hi) hj
    rw [← h, List.getElem?_take, if_pos hm, Array.getElem?_toList] at h2
    rw [h2, getElem!_pos d i hi]
    simp

def itL (x : Itm) : List Value := [.int .u64 (x.lo : Int), .int .u64 (x.len : Int), .int .i64 (x.idx : Int)]
theorem itL_len (x : Itm) : (itL x).length = 3 := rfl
theorem three {P : Nat → Prop} : (∀ j, j < 3 → P j) ↔ P 0 ∧ P 1 ∧ P 2 :=
  ⟨fun h => ⟨h 0 (by omega), h 1 (by omega), h 2 (by omega)⟩, fun h j hj => by
    match j, hj with
    | 0, _ => exact h.1
    | 1, _ => exact h.2.1
    | 2, _ => exact h.2.2⟩
def qset (Q : Nat) (R : Option Nat) (k : Nat) : Prop := k = Q ∨ R = some k
section
variable {w w' : World} {Q fn : Nat} {R : Option Nat} {d : Array Itm}
end
end Go.Proofs.YtcnihmlmaigkdaaGreatDoor
namespace Go.Proofs.YtcnihmlmaigkdaaGreatDoor
open Go.RowKit

/-- The last number, as the machine reckons it: two equations for the walk. -/
theorem last_wrap (lo len : Nat) : ∃ S : Int, IntKind.u64.wrap ((lo : Int) + (len : Int)) = S ∧ IntKind.u64.wrap (S - 1) = (((lo + len + 18446744073709551615) % 18446744073709551616 : Nat) : Int) := by
  refine ⟨_, rfl, ?_⟩
  simp only [IntKind.wrap, IntKind.bits, IntKind.signed]
  simp
  omega
def itA (x : Itm) : Array Value := #[.int .u64 (x.lo : Int), .int .u64 (x.len : Int), .int .i64 (x.idx : Int)]
/-- An order's contract. -/
def Order (fn : Nat) (key : Itm → Nat) : Prop := ∀ (x y : Itm) (w : World), Calls Tryz.prog fn #[.agg (itA x), .agg (itA y)] w
    fun e w' => e = .returned (.bool (decide (key x < key y))) ∧ Below w.heap.size w w'
theorem two_kept {w W W' : World} {g h : Nat} {a b c d : Value} (hb : Below W.heap.size W W') (hs : W.cell? ⟨g, 0, none⟩ = some a ∧ W.cell? ⟨g, 1, none⟩ = some b ∧ W.cell? ⟨h, 0, none⟩ = some c ∧ W.cell? ⟨h, 1, none⟩ = some d ∧ Below w.heap.size w W) :
    W'.cell? ⟨g, 0, none⟩ = some a ∧ W'.cell? ⟨g, 1, none⟩ = some b ∧ W'.cell? ⟨h, 0, none⟩ = some c ∧ W'.cell? ⟨h, 1, none⟩ = some d ∧ Below w.heap.size w W' := by
  obtain ⟨h1, h2, h3, h4, h5⟩ := hs
  exact ⟨(hb.cell (p := ⟨g, 0, none⟩) (cell_lt h1)).trans h1, (hb.cell (p := ⟨g, 1, none⟩) (cell_lt h2)).trans h2, (hb.cell (p := ⟨h, 0, none⟩) (cell_lt h3)).trans h3, (hb.cell (p := ⟨h, 1, none⟩) (cell_lt h4)).trans h4, h5.trans (hb.mono h5.size)⟩
theorem two_new (w : World) (t : TypeId) (x y : Array Value) (a b c d : Value) (hx : x[0]? = some a ∧ x[1]? = some b) (hy : y[0]? = some c ∧ y[1]? = some d) :
    ((w.alloc (.cells x t)).alloc (.cells y t)).cell? ⟨w.heap.size, 0, none⟩ = some a ∧ ((w.alloc (.cells x t)).alloc (.cells y t)).cell? ⟨w.heap.size, 1, none⟩ = some b ∧
      ((w.alloc (.cells x t)).alloc (.cells y t)).cell? ⟨w.heap.size + 1, 0, none⟩ = some c ∧ ((w.alloc (.cells x t)).alloc (.cells y t)).cell? ⟨w.heap.size + 1, 1, none⟩ = some d ∧ Below w.heap.size w ((w.alloc (.cells x t)).alloc (.cells y t)) := by
  have h1 := (Blk.new w t x).alloc (.cells y t)
  have h2 : Blk ((w.alloc (.cells x t)).alloc (.cells y t)) (w.heap.size + 1) t y := by have := Blk.new (w.alloc (.cells x t)) t y; simpa using this
  exact ⟨(h1.cell 0).trans hx.1, (h1.cell 1).trans hx.2, (h2.cell 0).trans hy.1, (h2.cell 1).trans hy.2, ((Below.refl _ w).alloc (Nat.le_refl _) _).alloc (by simp) _⟩
theorem drew5 {w W : World} {p q r s : Addr} {a b c d : Value} (h : W.cell? p = some a ∧ W.cell? q = some b ∧ W.cell? r = some c ∧ W.cell? s = some d ∧ Below w.heap.size w W) :
    W.drew.cell? p = some a ∧ W.drew.cell? q = some b ∧ W.drew.cell? r = some c ∧ W.drew.cell? s = some d ∧ Below w.heap.size w W.drew :=
  ⟨h.1, h.2.1, h.2.2.1, h.2.2.2.1, h.2.2.2.2.drew⟩
end Go.Proofs.YtcnihmlmaigkdaaGreatDoor
