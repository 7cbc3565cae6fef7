/- The walks of num's word.times and word.common: the product, and the least common multiple, of two numbers (chapter 01). The walks of num.fold at word.plus, word.times, word.common (chapter 01). The walks of slices.Index and slices.Contains at numbers, and of num's Add, Mul, Lcm, Divides, Align (chapter 01). -/
import Derived.Test.YtkhcdnehfiopgaaNuWord
import Derived.Test.YtkhcdnehfiopgaaShelf
import Derived.Test.YtkhcdnehfiopgaaNuV
namespace Go.Proofs.Ytkhcdnehfiopgaa
open Go.RowKit Go.Lib

theorem times_calls (a b : Nat) (ha : a < top64) (hb : b < top64) (w : World) :
    Calls Try.prog 68 #[.int .u64 (a : Int), .int .u64 (b : Int)] w (OpV (timesO a b) w) := by
  have hm := fun W => Try.bits_Mul64 a b ha hb W
  by_cases h : a * b < top64
  · have e1 : a * b % 18446744073709551616 = a * b := Nat.mod_eq_of_lt h
    have e2 : a * b / 18446744073709551616 = 0 := Nat.div_eq_of_lt h
    rw [e1, e2] at hm
    have hp : timesO a b = some (a * b) := by unfold timesO fitO; rw [if_pos h]
    obtain ⟨m, hmm⟩ : ∃ m, m = a * b := ⟨_, rfl⟩
    rw [← hmm] at hm hp
    have Hp := hide hp
    have Hm := hide hm
    clear hp hm hmm e1 e2 h ha hb
    go_enter Try.func68, Try.ntmps68
    go_wp2_with (go_at_call 82; refine (Hm.out _).mono ?_; rintro e w' ⟨rfl, rfl⟩)
    go_ret2
    exact OpV.mk_yes Hp.out (Below.refl _ _)
  · have e2 : 0 < a * b / 18446744073709551616 := Nat.div_pos (by unfold top64 at h; omega) (by decide)
    have hp : timesO a b = none := by unfold timesO fitO; rw [if_neg h]
    obtain ⟨m, hmm⟩ : ∃ m, m = a * b % 18446744073709551616 := ⟨_, rfl⟩
    obtain ⟨k, hk⟩ : ∃ k, k = a * b / 18446744073709551616 := ⟨_, rfl⟩
    rw [← hmm, ← hk] at hm
    rw [← hk] at e2
    have hk0 : ((k : Int) == 0) = false := by simp; omega
    have Hp := hide hp
    have Hm := hide hm
    clear hp hm hmm hk e2 h ha hb
    go_enter Try.func68, Try.ntmps68
    go_wp2_with (go_at_call 82; refine (Hm.out _).mono ?_; rintro e w' ⟨rfl, rfl⟩)
    go_ret2
    exact OpV.mk_no Hp.out (Below.refl _ _)

end Go.Proofs.Ytkhcdnehfiopgaa
namespace Go.Proofs.Ytkhcdnehfiopgaa
open Go.RowKit Go.Lib

theorem fitO_lt {n m : Nat} (h : fitO n = some m) : m < top64 := by obtain ⟨rfl, h⟩ := fitO_some h; exact h
theorem plusO_lt {a b m : Nat} (h : plusO a b = some m) : m < top64 := fitO_lt h
theorem timesO_lt {a b m : Nat} (h : timesO a b = some m) : m < top64 := fitO_lt h
theorem commonO_lt {a b m : Nat} (h : commonO a b = some m) : m < top64 := by
  unfold commonO at h
  split at h
  · cases h
  · exact fitO_lt h
theorem reads_at {w wr : World} {A : Option Addr} {len k : Nat} {l : List Nat} (hr : Reads w w.heap.size 1 A len (l.map U64)) (hl : l.length = len) (hx : ∀ x ∈ l, x < top64) (hk : k < len) (hb : Below w.heap.size w wr) :
    ∃ (ad : Addr) (x : Nat), A = some ad ∧ ad.block < w.heap.size ∧ wr.cell? (ad.add k) = some (.int .u64 (x : Int)) ∧ x < top64 ∧ l.drop k = x :: l.drop (k + 1) := by
  obtain ⟨ad, u, hA, hbk, hu, hc⟩ := (hr.below hb).at_ hk
  have hk2 : k < l.length := by omega
  rw [List.getElem?_map, List.getElem?_eq_getElem hk2] at hu
  injection hu with hu
  subst hu
  exact ⟨ad, l[k], hA, hbk, hc, hx _ (List.getElem_mem hk2), List.drop_eq_getElem_cons hk2⟩

set_option maxHeartbeats 400000 in
theorem foldW_plus (n0 : Nat) (h0 : n0 < top64) (A : Option Addr) (len cap : Nat) (l : List Nat) (hl : l.length = len) (hlen : len ≤ 9223372036854775807) (hx : ∀ x ∈ l, x < top64) (w : World)
    (hr : Reads w w.heap.size 1 A len (l.map U64)) :
    Calls Try.prog 55 #[.int .u64 (n0 : Int), .func (.func 56) #[] #[], .slice A len cap] w (FoldV (foldO plusO n0 l) w) := by
  have HL := hide hl
  have HX := hide hx
  have HR := hide hr
  have H0 := hide h0
  clear hl hx hr h0
  go_enter Try.func55, Try.ntmps55
  go_wp2
  go_loopw [8, 15] (fun n i wr => ∃ k acc : Nat, k ≤ len ∧ n = .int .u64 (acc : Int) ∧ i = .int .i64 (k : Int) ∧ Hid (acc < top64 ∧ foldO plusO n0 l = foldO plusO acc (l.drop k)) ∧ Below w.heap.size w wr) (fun _ i _ => len - (RowKit.intOf i).toNat)
  case atStart => exact ⟨0, n0, Nat.zero_le _, rfl, rfl, ⟨H0.out, rfl⟩, Below.refl _ _⟩
  case round =>
    obtain ⟨k, acc, hk, rfl, rfl, hH, hbl⟩ := hrel
    by_cases hlt : k < len
    · obtain ⟨ad, x, hA, hbk, hcell, hxl, hdrop⟩ := reads_at HR.out HL.out HX.out hlt hbl
      subst hA
      have hP := fun W => plus_calls acc x hH.out.1 hxl W
      have e1 : foldO plusO n0 l = (match plusO acc x with | none => none | some m => foldO plusO m (l.drop (k + 1))) := by rw [hH.out.2, hdrop]; rfl
      have HP := hide hP
      have E1 := hide e1
      clear hP e1 hdrop hxl
      rcases hc : plusO acc x with _ | m
      · have e2 : foldO plusO n0 l = none := by rw [E1.out, hc]
        have HC := hide hc
        have E2 := hide e2
        clear hc e2
        go_wp2_with (go_at_call 56; refine (HP.out _).mono ?_; rintro e w' hO; obtain ⟨m, rfl, hb2⟩ := hO.no HC.out)
        go_ret2
        exact ⟨by rw [E2.out]; rfl, hbl.trans (hb2.mono hbl.size)⟩
      · have e2 : foldO plusO n0 l = foldO plusO m (l.drop (k + 1)) := by rw [E1.out, hc]
        have hm : m < top64 := plusO_lt hc
        have HC := hide hc
        have E2 := hide (And.intro hm e2)
        clear hc e2 hm
        go_wp2_with (go_at_call 56; refine (HP.out _).mono ?_; rintro e w' hO; obtain ⟨rfl, hb2⟩ := hO.yes HC.out)
        go_roundw
        case rel => exact ⟨k + 1, m, by omega, rfl, by go_num, E2.out, hbl.trans (hb2.mono hbl.size)⟩
        case measure => simp [RowKit.intOf]; omega
    · obtain rfl : k = len := by omega
      have e2 : foldO plusO n0 l = some acc := by rw [hH.out.2, List.drop_of_length_le (by rw [HL.out]; omega)]; rfl
      have E2 := hide e2
      clear e2
      go_wp2_with fail
      go_ret2
      exact ⟨by rw [E2.out]; rfl, hbl⟩

set_option maxHeartbeats 400000 in
theorem foldW_times (n0 : Nat) (h0 : n0 < top64) (A : Option Addr) (len cap : Nat) (l : List Nat) (hl : l.length = len) (hlen : len ≤ 9223372036854775807) (hx : ∀ x ∈ l, x < top64) (w : World)
    (hr : Reads w w.heap.size 1 A len (l.map U64)) :
    Calls Try.prog 55 #[.int .u64 (n0 : Int), .func (.func 68) #[] #[], .slice A len cap] w (FoldV (foldO timesO n0 l) w) := by
  have HL := hide hl
  have HX := hide hx
  have HR := hide hr
  have H0 := hide h0
  clear hl hx hr h0
  go_enter Try.func55, Try.ntmps55
  go_wp2
  go_loopw [8, 15] (fun n i wr => ∃ k acc : Nat, k ≤ len ∧ n = .int .u64 (acc : Int) ∧ i = .int .i64 (k : Int) ∧ Hid (acc < top64 ∧ foldO timesO n0 l = foldO timesO acc (l.drop k)) ∧ Below w.heap.size w wr) (fun _ i _ => len - (RowKit.intOf i).toNat)
  case atStart => exact ⟨0, n0, Nat.zero_le _, rfl, rfl, ⟨H0.out, rfl⟩, Below.refl _ _⟩
  case round =>
    obtain ⟨k, acc, hk, rfl, rfl, hH, hbl⟩ := hrel
    by_cases hlt : k < len
    · obtain ⟨ad, x, hA, hbk, hcell, hxl, hdrop⟩ := reads_at HR.out HL.out HX.out hlt hbl
      subst hA
      have hP := fun W => times_calls acc x hH.out.1 hxl W
      have e1 : foldO timesO n0 l = (match timesO acc x with | none => none | some m => foldO timesO m (l.drop (k + 1))) := by rw [hH.out.2, hdrop]; rfl
      have HP := hide hP
      have E1 := hide e1
      clear hP e1 hdrop hxl
      rcases hc : timesO acc x with _ | m
      · have e2 : foldO timesO n0 l = none := by rw [E1.out, hc]
        have HC := hide hc
        have E2 := hide e2
        clear hc e2
        go_wp2_with (go_at_call 68; refine (HP.out _).mono ?_; rintro e w' hO; obtain ⟨m, rfl, hb2⟩ := hO.no HC.out)
        go_ret2
        exact ⟨by rw [E2.out]; rfl, hbl.trans (hb2.mono hbl.size)⟩
      · have e2 : foldO timesO n0 l = foldO timesO m (l.drop (k + 1)) := by rw [E1.out, hc]
        have hm : m < top64 := timesO_lt hc
        have HC := hide hc
        have E2 := hide (And.intro hm e2)
        clear hc e2 hm
        go_wp2_with (go_at_call 68; refine (HP.out _).mono ?_; rintro e w' hO; obtain ⟨rfl, hb2⟩ := hO.yes HC.out)
        go_roundw
        case rel => exact ⟨k + 1, m, by omega, rfl, by go_num, E2.out, hbl.trans (hb2.mono hbl.size)⟩
        case measure => simp [RowKit.intOf]; omega
    · obtain rfl : k = len := by omega
      have e2 : foldO timesO n0 l = some acc := by rw [hH.out.2, List.drop_of_length_le (by rw [HL.out]; omega)]; rfl
      have E2 := hide e2
      clear e2
      go_wp2_with fail
      go_ret2
      exact ⟨by rw [E2.out]; rfl, hbl⟩

end Go.Proofs.Ytkhcdnehfiopgaa
namespace Go.Proofs.Ytkhcdnehfiopgaa
open Go.RowKit Go.Lib

theorem reads_here {w : World} {A : Option Addr} {len k : Nat} {l : List Nat} (hr : Reads w w.heap.size 1 A len (l.map U64)) (hl : l.length = len) (hk : k < len) :
    ∃ (ad : Addr) (x : Nat), A = some ad ∧ w.cell? (ad.add k) = some (.int .u64 (x : Int)) ∧ l.drop k = x :: l.drop (k + 1) := by
  obtain ⟨ad, u, hA, hbk, hu, hc⟩ := hr.at_ hk
  have hk2 : k < l.length := by omega
  rw [List.getElem?_map, List.getElem?_eq_getElem hk2] at hu
  injection hu with hu
  subst hu
  exact ⟨ad, l[k], hA, hc, List.drop_eq_getElem_cons hk2⟩
/-- What Index returns for 0: an index, or -1. -/
def IdxV (l : List Nat) (w : World) (e : Ending) (w' : World) : Prop := w = w' ∧ ((0 ∈ l ∧ ∃ k : Nat, e = .returned (.int .i64 (k : Int))) ∨ (0 ∉ l ∧ e = .returned (.int .i64 (-1))))
theorem IdxV.has {l : List Nat} {w w' : World} {e : Ending} (h : IdxV l w e w') (h0 : 0 ∈ l) : ∃ k : Nat, e = .returned (.int .i64 (k : Int)) ∧ w = w' := by
  rcases h.2 with ⟨_, k, hk⟩ | ⟨hn, _⟩
  · exact ⟨k, hk, h.1⟩
  · exact absurd h0 hn
theorem IdxV.hasnot {l : List Nat} {w w' : World} {e : Ending} (h : IdxV l w e w') (h0 : 0 ∉ l) : e = .returned (.int .i64 (-1)) ∧ w = w' := by
  rcases h.2 with ⟨hn, _⟩ | ⟨_, he⟩
  · exact absurd hn h0
  · exact ⟨he, h.1⟩
theorem Index0_calls (A : Option Addr) (len cap : Nat) (l : List Nat) (hl : l.length = len) (hlen : len ≤ 9223372036854775807) (w : World) (hr : Reads w w.heap.size 1 A len (l.map U64)) :
    Calls Try.prog 81 #[.slice A len cap, .int .u64 0] w (IdxV l w) := by
  have HL := hide hl
  have HR := hide hr
  clear hl hr
  go_enter Try.func81, Try.ntmps81
  go_wp2
  go_loop [8] (fun i => ∃ k : Nat, k ≤ len ∧ i = .int .i64 (k : Int) ∧ Hid (0 ∈ l ↔ 0 ∈ l.drop k)) (fun i => len - (RowKit.intOf i).toNat)
  case atStart => exact ⟨0, Nat.zero_le _, rfl, Iff.rfl⟩
  case round =>
    obtain ⟨k, hk, rfl, hH⟩ := hrel
    by_cases hlt : k < len
    · obtain ⟨ad, x, hA, hcell, hdrop⟩ := reads_here HR.out HL.out hlt
      subst hA
      have HDR := hide hdrop
      clear hdrop
      by_cases hx : x = 0
      · subst hx
        have h0 : Hid (0 ∈ l) := hH.out.2 (by rw [HDR.out]; simp)
        go_wp2
        go_ret
        exact ⟨rfl, .inl ⟨h0.out, k, rfl⟩⟩
      · have h1 : Hid (0 ∈ l ↔ 0 ∈ l.drop (k + 1)) := by
          show _ ↔ _
          rw [hH.out, HDR.out, List.mem_cons]
          exact ⟨fun h => h.elim (fun e => absurd e.symm hx) id, .inr⟩
        have h2 : ((0 : Int) == (x : Int)) = false := by simp; omega
        clear hx
        go_wp2
        go_round
        case rel => exact ⟨k + 1, by omega, by go_num, h1⟩
        case measure => simp [RowKit.intOf]; omega
    · obtain rfl : k = len := by omega
      have h0 : Hid (0 ∉ l) := fun h => by
        have := hH.out.1 h
        rw [List.drop_of_length_le (by rw [HL.out]; omega)] at this
        cases this
      go_wp2
      go_ret
      exact ⟨rfl, .inr ⟨h0.out, rfl⟩⟩
theorem Contains0_calls (A : Option Addr) (len cap : Nat) (l : List Nat) (hl : l.length = len) (hlen : len ≤ 9223372036854775807) (w : World) (hr : Reads w w.heap.size 1 A len (l.map U64)) :
    Calls Try.prog 67 #[.slice A len cap, .int .u64 0] w fun e w' => e = .returned (.bool (decide (0 ∈ l))) ∧ w = w' := by
  have hI := Index0_calls A len cap l hl hlen w hr
  by_cases h : 0 ∈ l
  · have H := hide h
    have HI := hide hI
    clear h hI
    go_enter Try.func67, Try.ntmps67
    go_wp2_with (go_at_call 81; refine HI.out.mono ?_; rintro e w' hO; obtain ⟨k, rfl, rfl⟩ := hO.has H.out)
    go_ret
    exact ⟨by rw [decide_eq_true H.out]; simp, rfl⟩
  · have H := hide h
    have HI := hide hI
    clear h hI
    go_enter Try.func67, Try.ntmps67
    go_wp2_with (go_at_call 81; refine HI.out.mono ?_; rintro e w' hO; obtain ⟨rfl, rfl⟩ := hO.hasnot H.out)
    go_ret
    exact ⟨by rw [decide_eq_false H.out]; simp, rfl⟩

/-- What Add, Mul, Lcm come to. -/
def mulL (l : List Nat) : Option Nat := if 0 ∈ l then some 0 else foldO timesO 1 l
theorem Add_calls (A : Option Addr) (len cap : Nat) (l : List Nat) (hl : l.length = len) (hlen : len ≤ 9223372036854775807) (hx : ∀ x ∈ l, x < top64) (w : World) (hr : Reads w w.heap.size 1 A len (l.map U64)) :
    Calls Try.prog 40 #[.slice A len cap] w (FoldV (foldO plusO 0 l) w) := by
  have hf := foldW_plus 0 (by decide) A len cap l hl hlen hx w hr
  unfold FoldV at hf ⊢
  obtain ⟨m, k, hv⟩ := optV_shape (foldO plusO 0 l)
  rw [hv] at hf ⊢
  have H := hide hf
  clear hr hx hl hf hv
  go_enter Try.func40, Try.ntmps40
  go_wp2_with (go_at_call 55; refine H.out.mono ?_; rintro e w' ⟨rfl, hb⟩)
  go_ret2
  exact ⟨rfl, hb⟩
theorem Mul_calls (A : Option Addr) (len cap : Nat) (l : List Nat) (hl : l.length = len) (hlen : len ≤ 9223372036854775807) (hx : ∀ x ∈ l, x < top64) (w : World) (hr : Reads w w.heap.size 1 A len (l.map U64)) :
    Calls Try.prog 53 #[.slice A len cap] w (FoldV (mulL l) w) := by
  have hc := Contains0_calls A len cap l hl hlen w hr
  by_cases h0 : 0 ∈ l
  · rw [decide_eq_true h0] at hc
    have hv : Hid (mulL l = some 0) := by show _ = _; unfold mulL; rw [if_pos h0]
    have H := hide hc
    clear hr hx hl hc h0
    go_enter Try.func53, Try.ntmps53
    go_wp2_with (go_at_call 67; refine H.out.mono ?_; rintro e w' ⟨rfl, rfl⟩)
    go_ret2
    exact ⟨by rw [hv.out]; rfl, Below.refl _ _⟩
  · rw [decide_eq_false h0] at hc
    have hf := foldW_times 1 (by decide) A len cap l hl hlen hx w hr
    have hv : mulL l = foldO timesO 1 l := by unfold mulL; rw [if_neg h0]
    rw [hv]
    unfold FoldV at hf ⊢
    obtain ⟨m, k, hv⟩ := optV_shape (foldO timesO 1 l)
    rw [hv] at hf ⊢
    have H := hide hc
    have H2 := hide hf
    clear hr hx hl hc h0 hf hv
    go_enter Try.func53, Try.ntmps53
    go_wp2_with (first
      | (go_at_call 67; refine H.out.mono ?_; rintro e w' ⟨rfl, rfl⟩)
      | (go_at_call 55; refine H2.out.mono ?_; rintro e w' ⟨rfl, hb⟩))
    go_ret2
    exact ⟨rfl, hb⟩

/-- Two numbers in a new slice. -/
theorem reads_two (w : World) (a b : Nat) (t : TypeId) : Reads (w.alloc (.cells #[.int .u64 (a : Int), .int .u64 (b : Int)] t)) (w.alloc (.cells #[.int .u64 (a : Int), .int .u64 (b : Int)] t)).heap.size 1 (some ⟨w.heap.size, 0, none⟩) 2 ([a, b].map U64) := by
  refine ⟨rfl, fun _ => ⟨_, rfl, by simp, fun j u hu => ?_⟩⟩
  have hB := Blk.new w t #[.int .u64 (a : Int), .int .u64 (b : Int)]
  have e : (⟨w.heap.size, 0, none⟩ : Addr).add j = ⟨w.heap.size, j, none⟩ := by unfold Addr.add; split <;> simp_all
  rw [e, hB.cell, ← Array.getElem?_toList]
  exact hu
def divB (a b : Nat) : Bool := decide (0 < a ∧ b % a = 0)
theorem divB_zero (b : Nat) : divB 0 b = false := rfl
theorem divB_pos (a b : Nat) (h : 0 < a) : divB a b = ((b : Int) % (a : Int) == 0) := by
  unfold divB
  rw [Bool.eq_iff_iff]
  simp
  omega
theorem Divides_calls (a b : Nat) (w : World) :
    Calls Try.prog 64 #[.int .u64 (a : Int), .int .u64 (b : Int)] w fun e w' => e = .returned (.bool (divB a b)) ∧ w = w' := by
  by_cases h : a = 0
  · subst h
    go_enter Try.func64, Try.ntmps64
    go_wp2
    go_ret
    exact ⟨by rw [divB_zero]; simp, rfl⟩
  · have z1 : ((a : Int) == 0) = false := by simp; omega
    have z2 : ((a : Int) != 0) = true := by simp; omega
    have z3 : 0 < a := by omega
    rw [divB_pos a b z3]
    go_enter Try.func64, Try.ntmps64
    go_wp2
    go_ret
    exact ⟨rfl, rfl⟩
theorem RefDivides_calls (a b : Nat) (w : World) :
    Calls Try.prog 32 #[.int .u64 (a : Int), .int .u64 (b : Int)] w fun e w' => e = .returned (.bool (divB a b)) ∧ w = w' := by
  by_cases h : a = 0
  · subst h
    go_enter Try.func32, Try.ntmps32
    go_wp2
    go_ret
    exact ⟨by rw [divB_zero]; rfl, rfl⟩
  · have z1 : ((a : Int) == 0) = false := by simp; omega
    have z3 : 0 < a := by omega
    rw [divB_pos a b z3]
    go_enter Try.func32, Try.ntmps32
    go_wp2
    go_ret
    exact ⟨rfl, rfl⟩
theorem foldO_two_plus (a b : Nat) (ha : a < top64) : foldO plusO 0 [a, b] = plusO a b := by
  have h1 : plusO 0 a = some a := by unfold plusO fitO; rw [Nat.zero_add, if_pos ha]
  simp only [foldO, h1]
  cases plusO a b <;> rfl
/-- num.Add at two numbers in a new slice. -/
theorem Add_two (a b : Nat) (ha : a < top64) (hb : b < top64) (w : World) (t : TypeId) :
    Calls Try.prog 40 #[.slice (some ⟨w.heap.size, 0, none⟩) 2 2] (w.alloc (.cells #[.int .u64 (a : Int), .int .u64 (b : Int)] t)) fun e w' => e = .returned (optV (plusO a b)) ∧ Below w.heap.size w w' :=
  (Add_calls _ 2 2 [a, b] rfl (by omega) (by intro x hx; simp at hx; rcases hx with rfl | rfl <;> assumption) _ (reads_two w a b t)).mono fun e w' ⟨he, hb⟩ =>
    ⟨by rw [he, foldO_two_plus a b ha], ((Below.refl _ w).alloc (Nat.le_refl _) _).trans (hb.mono (by simp))⟩
end Go.Proofs.Ytkhcdnehfiopgaa
