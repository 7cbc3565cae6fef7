/- The walks of slices.Index and slices.Contains at numbers, and of num's Add, Mul, Lcm, Divides, Align (chapter 01). -/
import Derived.Test.YtpagiomachamkaaDoorNuFold
namespace Go.Proofs.YtpagiomachamkaaDoor
open Go.RowKit Go.Lib

theorem reads_here {w : World} {A : Option Addr} {len k : Nat} {l : List Nat} (hr : Reads w w.heap.size 1 A len (l.map U64)) (hl : l.length = len) (hk : k < len) :
    ∃ (ad : Addr) (x : Nat), A = some ad ∧ w.cell? (ad.add k) = some (.int .u64 (x : Int)) ∧ l.drop k = x :: l.drop (k + 1) := by
  obtain ⟨ad, u, hA, hbk, hu, hc⟩ := hr.at_ hk
  have hk2 : k < l.length := by omega
  rw [List.getElem?_map, List.getElem?_eq_getElem hk2] at hu
  injection hu with hu
  subst hu
  exact ⟨ad, l[k], hA, hc, List.drop_eq_getElem_cons hk2⟩
/-- What Index returns for 0: an index, or -1. -/
def IdxV (l : List Nat) (w : World) (e : Ending) (w' : World) : Prop := w = w' ∧ ((0 ∈ l ∧ ∃ k : Nat, e = .returned (.int .i64 (k : Int))) ∨ (0 ∉ l ∧ e = .returned (.int .i64 (-1))))
theorem IdxV.has {l : List Nat} {w w' : World} {e : Ending} (h : IdxV l w e w') (h0 : 0 ∈ l) : ∃ k : Nat, e = .returned (.int .i64 (k : Int)) ∧ w = w' := by
  rcases h.2 with ⟨_, k, hk⟩ | ⟨hn, _⟩
  · exact ⟨k, hk, h.1⟩
  · exact absurd h0 hn
theorem IdxV.hasnot {l : List Nat} {w w' : World} {e : Ending} (h : IdxV l w e w') (h0 : 0 ∉ l) : e = .returned (.int .i64 (-1)) ∧ w = w' := by
  rcases h.2 with ⟨hn, _⟩ | ⟨_, he⟩
  · exact absurd hn h0
  · exact ⟨he, h.1⟩
theorem Index0_calls (A : Option Addr) (len cap : Nat) (l : List Nat) (hl : l.length = len) (hlen : len ≤ 9223372036854775807) (w : World) (hr : Reads w w.heap.size 1 A len (l.map U64)) :
    Calls Tryd.prog 43 #[.slice A len cap, .int .u64 0] w (IdxV l w) := by
  have HL := hide hl
  have HR := hide hr
  clear hl hr
  go_enter Tryd.func43, Tryd.ntmps43
  go_wp2
  go_loop [8] (fun i => ∃ k : Nat, k ≤ len ∧ i = .int .i64 (k : Int) ∧ Hid (0 ∈ l ↔ 0 ∈ l.drop k)) (fun i => len - (RowKit.intOf i).toNat)
  case atStart => exact ⟨0, Nat.zero_le _, rfl, Iff.rfl⟩
  case round =>
    obtain ⟨k, hk, rfl, hH⟩ := hrel
    by_cases hlt : k < len
    · obtain ⟨ad, x, hA, hcell, hdrop⟩ := reads_here HR.out HL.out hlt
      subst hA
      have HDR := hide hdrop
      clear hdrop
      by_cases hx : x = 0
      · subst hx
        have h0 : Hid (0 ∈ l) := hH.out.2 (by rw [HDR.out]; simp)
        go_wp2
        go_ret
        exact ⟨rfl, .inl ⟨h0.out, k, rfl⟩⟩
      · have h1 : Hid (0 ∈ l ↔ 0 ∈ l.drop (k + 1)) := by
          show _ ↔ _
          rw [hH.out, HDR.out, List.mem_cons]
          exact ⟨fun h => h.elim (fun e => absurd e.symm hx) id, .inr⟩
        have h2 : ((0 : Int) == (x : Int)) = false := by simp; omega
        clear hx
        go_wp2
        go_round
        case rel => exact ⟨k + 1, by omega, by go_num, h1⟩
        case measure => simp [RowKit.intOf]; omega
    · obtain rfl : k = len := by omega
      have h0 : Hid (0 ∉ l) := fun h => by
        have := hH.out.1 h
        rw [List.drop_of_length_le (by rw [HL.out]; omega)] at this
        cases this
      go_wp2
      go_ret
      exact ⟨rfl, .inr ⟨h0.out, rfl⟩⟩
theorem Contains0_calls (A : Option Addr) (len cap : Nat) (l : List Nat) (hl : l.length = len) (hlen : len ≤ 9223372036854775807) (w : World) (hr : Reads w w.heap.size 1 A len (l.map U64)) :
    Calls Tryd.prog 36 #[.slice A len cap, .int .u64 0] w fun e w' => e = .returned (.bool (decide (0 ∈ l))) ∧ w = w' := by
  have hI := Index0_calls A len cap l hl hlen w hr
  by_cases h : 0 ∈ l
  · have H := hide h
    have HI := hide hI
    clear h hI
    go_enter Tryd.func36, Tryd.ntmps36
    go_wp2_with (go_at_call 43; refine HI.out.mono ?_; rintro e w' hO; obtain ⟨k, rfl, rfl⟩ := hO.has H.out)
    go_ret
    exact ⟨by rw [decide_eq_true H.out]; simp, rfl⟩
  · have H := hide h
    have HI := hide hI
    clear h hI
    go_enter Tryd.func36, Tryd.ntmps36
    go_wp2_with (go_at_call 43; refine HI.out.mono ?_; rintro e w' hO; obtain ⟨rfl, rfl⟩ := hO.hasnot H.out)
    go_ret
    exact ⟨by rw [decide_eq_false H.out]; simp, rfl⟩

/-- What Add, Mul, Lcm come to. -/
def mulL (l : List Nat) : Option Nat := if 0 ∈ l then some 0 else foldO timesO 1 l
theorem optV_shape (r : Option Nat) : ∃ (m : Nat) (k : Bool), optV r = .tuple #[.int .u64 (m : Int), .bool k] := by
  cases r with
  | none => exact ⟨0, false, rfl⟩
  | some m => exact ⟨m, true, rfl⟩
theorem Add_calls (A : Option Addr) (len cap : Nat) (l : List Nat) (hl : l.length = len) (hlen : len ≤ 9223372036854775807) (hx : ∀ x ∈ l, x < top64) (w : World) (hr : Reads w w.heap.size 1 A len (l.map U64)) :
    Calls Tryd.prog 10 #[.slice A len cap] w (FoldV (foldO plusO 0 l) w) := by
  have hf := foldW_plus 0 (by decide) A len cap l hl hlen hx w hr
  unfold FoldV at hf ⊢
  obtain ⟨m, k, hv⟩ := optV_shape (foldO plusO 0 l)
  rw [hv] at hf ⊢
  have H := hide hf
  clear hr hx hl hf hv
  go_enter Tryd.func10, Tryd.ntmps10
  go_wp2_with (go_at_call 26; refine H.out.mono ?_; rintro e w' ⟨rfl, hb⟩)
  go_ret2
  exact ⟨rfl, hb⟩
theorem Lcm_calls (A : Option Addr) (len cap : Nat) (l : List Nat) (hl : l.length = len) (hlen : len ≤ 9223372036854775807) (hx : ∀ x ∈ l, x < top64) (w : World) (hr : Reads w w.heap.size 1 A len (l.map U64)) :
    Calls Tryd.prog 18 #[.slice A len cap] w (FoldV (foldO commonO 1 l) w) := by
  have hf := foldW_common 1 (by decide) A len cap l hl hlen hx w hr
  unfold FoldV at hf ⊢
  obtain ⟨m, k, hv⟩ := optV_shape (foldO commonO 1 l)
  rw [hv] at hf ⊢
  have H := hide hf
  clear hr hx hl hf hv
  go_enter Tryd.func18, Tryd.ntmps18
  go_wp2_with (go_at_call 26; refine H.out.mono ?_; rintro e w' ⟨rfl, hb⟩)
  go_ret2
  exact ⟨rfl, hb⟩
theorem Mul_calls (A : Option Addr) (len cap : Nat) (l : List Nat) (hl : l.length = len) (hlen : len ≤ 9223372036854775807) (hx : ∀ x ∈ l, x < top64) (w : World) (hr : Reads w w.heap.size 1 A len (l.map U64)) :
    Calls Tryd.prog 23 #[.slice A len cap] w (FoldV (mulL l) w) := by
  have hc := Contains0_calls A len cap l hl hlen w hr
  by_cases h0 : 0 ∈ l
  · rw [decide_eq_true h0] at hc
    have hv : Hid (mulL l = some 0) := by show _ = _; unfold mulL; rw [if_pos h0]
    have H := hide hc
    clear hr hx hl hc h0
    go_enter Tryd.func23, Tryd.ntmps23
    go_wp2_with (go_at_call 36; refine H.out.mono ?_; rintro e w' ⟨rfl, rfl⟩)
    go_ret2
    exact ⟨by rw [hv.out]; rfl, Below.refl _ _⟩
  · rw [decide_eq_false h0] at hc
    have hf := foldW_times 1 (by decide) A len cap l hl hlen hx w hr
    have hv : mulL l = foldO timesO 1 l := by unfold mulL; rw [if_neg h0]
    rw [hv]
    unfold FoldV at hf ⊢
    obtain ⟨m, k, hv⟩ := optV_shape (foldO timesO 1 l)
    rw [hv] at hf ⊢
    have H := hide hc
    have H2 := hide hf
    clear hr hx hl hc h0 hf hv
    go_enter Tryd.func23, Tryd.ntmps23
    go_wp2_with (first
      | (go_at_call 36; refine H.out.mono ?_; rintro e w' ⟨rfl, rfl⟩)
      | (go_at_call 26; refine H2.out.mono ?_; rintro e w' ⟨rfl, hb⟩))
    go_ret2
    exact ⟨rfl, hb⟩

/-- Two numbers in a new slice. -/
theorem reads_two (w : World) (a b : Nat) (t : TypeId) : Reads (w.alloc (.cells #[.int .u64 (a : Int), .int .u64 (b : Int)] t)) (w.alloc (.cells #[.int .u64 (a : Int), .int .u64 (b : Int)] t)).heap.size 1 (some ⟨w.heap.size, 0, none⟩) 2 ([a, b].map U64) := by
  refine ⟨rfl, fun _ => ⟨_, rfl, by simp, fun j u hu => ?_⟩⟩
  have hB := Blk.new w t #[.int .u64 (a : Int), .int .u64 (b : Int)]
  have e : (⟨w.heap.size, 0, none⟩ : Addr).add j = ⟨w.heap.size, j, none⟩ := by unfold Addr.add; split <;> simp_all
  rw [e, hB.cell, ← Array.getElem?_toList]
  exact hu
def divB (a b : Nat) : Bool := decide (0 < a ∧ b % a = 0)
theorem divB_zero (b : Nat) : divB 0 b = false := rfl
theorem divB_pos (a b : Nat) (h : 0 < a) : divB a b = ((b : Int) % (a : Int) == 0) := by
  unfold divB
  rw [Bool.eq_iff_iff]
  simp
  omega
theorem Divides_calls (a b : Nat) (w : World) :
    Calls Tryd.prog 20 #[.int .u64 (a : Int), .int .u64 (b : Int)] w fun e w' => e = .returned (.bool (divB a b)) ∧ w = w' := by
  by_cases h : a = 0
  · subst h
    go_enter Tryd.func20, Tryd.ntmps20
    go_wp2
    go_ret
    exact ⟨by rw [divB_zero]; simp, rfl⟩
  · have z1 : ((a : Int) == 0) = false := by simp; omega
    have z2 : ((a : Int) != 0) = true := by simp; omega
    have z3 : 0 < a := by omega
    rw [divB_pos a b z3]
    go_enter Tryd.func20, Tryd.ntmps20
    go_wp2
    go_ret
    exact ⟨rfl, rfl⟩
theorem RefDivides_calls (a b : Nat) (w : World) :
    Calls Tryd.prog 25 #[.int .u64 (a : Int), .int .u64 (b : Int)] w fun e w' => e = .returned (.bool (divB a b)) ∧ w = w' := by
  by_cases h : a = 0
  · subst h
    go_enter Tryd.func25, Tryd.ntmps25
    go_wp2
    go_ret
    exact ⟨by rw [divB_zero]; rfl, rfl⟩
  · have z1 : ((a : Int) == 0) = false := by simp; omega
    have z3 : 0 < a := by omega
    rw [divB_pos a b z3]
    go_enter Tryd.func25, Tryd.ntmps25
    go_wp2
    go_ret
    exact ⟨rfl, rfl⟩
theorem foldO_two_plus (a b : Nat) (ha : a < top64) : foldO plusO 0 [a, b] = plusO a b := by
  have h1 : plusO 0 a = some a := by unfold plusO fitO; rw [Nat.zero_add, if_pos ha]
  simp only [foldO, h1]
  cases plusO a b <;> rfl
/-- num.Add at two numbers in a new slice. -/
theorem Add_two (a b : Nat) (ha : a < top64) (hb : b < top64) (w : World) (t : TypeId) :
    Calls Tryd.prog 10 #[.slice (some ⟨w.heap.size, 0, none⟩) 2 2] (w.alloc (.cells #[.int .u64 (a : Int), .int .u64 (b : Int)] t)) fun e w' => e = .returned (optV (plusO a b)) ∧ Below w.heap.size w w' :=
  (Add_calls _ 2 2 [a, b] rfl (by omega) (by intro x hx; simp at hx; rcases hx with rfl | rfl <;> assumption) _ (reads_two w a b t)).mono fun e w' ⟨he, hb⟩ =>
    ⟨by rw [he, foldO_two_plus a b ha], ((Below.refl _ w).alloc (Nat.le_refl _) _).trans (hb.mono (by simp))⟩
theorem Align_calls (x y : Nat) (hx : x < top64) (hy : y < top64) (w : World) :
    Calls Tryd.prog 21 #[.int .u64 (x : Int), .int .u64 (y : Int)] w fun e w' => e = .returned (optV (alignO x y)) ∧ Below w.heap.size w w' := by
  by_cases h : y = 0
  · subst h
    have hv : Hid (alignO x 0 = none) := by show _ = _; unfold alignO; rw [if_pos rfl]
    clear hx hy
    go_enter Tryd.func21, Tryd.ntmps21
    go_wp2
    go_ret2
    exact ⟨by rw [hv.out]; rfl, Below.refl _ _⟩
  · have z1 : ((y : Int) == 0) = false := by simp; omega
    have z3 : 0 < y := by omega
    obtain ⟨r, hr⟩ : ∃ r, r = x % y := ⟨_, rfl⟩
    have hm : (x : Int) % (y : Int) = (r : Int) := by rw [hr]; exact (Int.natCast_emod _ _).symm
    by_cases h0 : r = 0
    · have hv : Hid (alignO x y = some x) := by show _ = _; unfold alignO; rw [if_neg h, if_pos (by omega)]
      clear h hx hy hr
      subst h0
      go_enter Tryd.func21, Tryd.ntmps21
      go_wp2
      go_ret2
      exact ⟨by rw [hv.out]; rfl, Below.refl _ _⟩
    · have hv : alignO x y = plusO x (y - r) := by unfold alignO plusO; rw [if_neg h, if_neg (by omega), hr]
      have hrl : r < y := by rw [hr]; exact Nat.mod_lt _ z3
      have hd : IntKind.u64.wrap ((y : Int) - (r : Int)) = ((y - r : Nat) : Int) := by
        unfold top64 at hy; rw [IntKind.wrap_u64]; omega
      have hA := fun W => Add_two x (y - r) hx (by omega) W 24
      obtain ⟨d, hdd⟩ : ∃ d, d = y - r := ⟨_, rfl⟩
      rw [← hdd] at hd hA hv
      obtain ⟨m, k, hs⟩ := optV_shape (plusO x d)
      rw [hs] at hA
      have H := hide hA
      have HV := hide (hv)
      have HS := hide hs
      have hr0 : 0 < r := by omega
      clear h hx hy hr hA hv hs hdd h0
      go_enter Tryd.func21, Tryd.ntmps21
      go_wp2_with (go_at_call 10; refine (H.out _).mono ?_; rintro e w' ⟨rfl, hb⟩)
      go_ret2
      exact ⟨by rw [HV.out, HS.out]; rfl, hb⟩
end Go.Proofs.YtpagiomachamkaaDoor
