/- The walks of num.fold at word.plus, word.times, word.common (chapter 01). -/
import Derived.Test.YtpagiomachamkaaDoorNuCommon
namespace Go.Proofs.YtpagiomachamkaaDoor
open Go.RowKit Go.Lib

abbrev U64 (n : Nat) : Value := .int .u64 (n : Int)
def optV : Option Nat → Value
  | some n => .tuple #[.int .u64 (n : Int), .bool true]
  | none => .tuple #[.int .u64 0, .bool false]
def FoldV (r : Option Nat) (w : World) (e : Ending) (w' : World) : Prop := e = .returned (optV r) ∧ Below w.heap.size w w'
theorem fitO_lt {n m : Nat} (h : fitO n = some m) : m < top64 := by obtain ⟨rfl, h⟩ := fitO_some h; exact h
theorem plusO_lt {a b m : Nat} (h : plusO a b = some m) : m < top64 := fitO_lt h
theorem timesO_lt {a b m : Nat} (h : timesO a b = some m) : m < top64 := fitO_lt h
theorem commonO_lt {a b m : Nat} (h : commonO a b = some m) : m < top64 := by
  unfold commonO at h
  split at h
  · cases h
  · exact fitO_lt h
theorem reads_at {w wr : World} {A : Option Addr} {len k : Nat} {l : List Nat} (hr : Reads w w.heap.size 1 A len (l.map U64)) (hl : l.length = len) (hx : ∀ x ∈ l, x < top64) (hk : k < len) (hb : Below w.heap.size w wr) :
    ∃ (ad : Addr) (x : Nat), A = some ad ∧ ad.block < w.heap.size ∧ wr.cell? (ad.add k) = some (.int .u64 (x : Int)) ∧ x < top64 ∧ l.drop k = x :: l.drop (k + 1) := by
  obtain ⟨ad, u, hA, hbk, hu, hc⟩ := (hr.below hb).at_ hk
  have hk2 : k < l.length := by omega
  rw [List.getElem?_map, List.getElem?_eq_getElem hk2] at hu
  injection hu with hu
  subst hu
  exact ⟨ad, l[k], hA, hbk, hc, hx _ (List.getElem_mem hk2), List.drop_eq_getElem_cons hk2⟩

set_option maxHeartbeats 400000 in
theorem foldW_plus (n0 : Nat) (h0 : n0 < top64) (A : Option Addr) (len cap : Nat) (l : List Nat) (hl : l.length = len) (hlen : len ≤ 9223372036854775807) (hx : ∀ x ∈ l, x < top64) (w : World)
    (hr : Reads w w.heap.size 1 A len (l.map U64)) :
    Calls Tryd.prog 26 #[.int .u64 (n0 : Int), .func (.func 27) #[] #[], .slice A len cap] w (FoldV (foldO plusO n0 l) w) := by
  have HL := hide hl
  have HX := hide hx
  have HR := hide hr
  have H0 := hide h0
  clear hl hx hr h0
  go_enter Tryd.func26, Tryd.ntmps26
  go_wp2
  go_loopw [8, 15] (fun n i wr => ∃ k acc : Nat, k ≤ len ∧ n = .int .u64 (acc : Int) ∧ i = .int .i64 (k : Int) ∧ Hid (acc < top64 ∧ foldO plusO n0 l = foldO plusO acc (l.drop k)) ∧ Below w.heap.size w wr) (fun _ i _ => len - (RowKit.intOf i).toNat)
  case atStart => exact ⟨0, n0, Nat.zero_le _, rfl, rfl, ⟨H0.out, rfl⟩, Below.refl _ _⟩
  case round =>
    obtain ⟨k, acc, hk, rfl, rfl, hH, hbl⟩ := hrel
    by_cases hlt : k < len
    · obtain ⟨ad, x, hA, hbk, hcell, hxl, hdrop⟩ := reads_at HR.out HL.out HX.out hlt hbl
      subst hA
      have hP := fun W => plus_calls acc x hH.out.1 hxl W
      have e1 : foldO plusO n0 l = (match plusO acc x with | none => none | some m => foldO plusO m (l.drop (k + 1))) := by rw [hH.out.2, hdrop]; rfl
      have HP := hide hP
      have E1 := hide e1
      clear hP e1 hdrop hxl
      rcases hc : plusO acc x with _ | m
      · have e2 : foldO plusO n0 l = none := by rw [E1.out, hc]
        have HC := hide hc
        have E2 := hide e2
        clear hc e2
        go_wp2_with (go_at_call 27; refine (HP.out _).mono ?_; rintro e w' hO; obtain ⟨m, rfl, hb2⟩ := hO.no HC.out)
        go_ret2
        exact ⟨by rw [E2.out]; rfl, hbl.trans (hb2.mono hbl.size)⟩
      · have e2 : foldO plusO n0 l = foldO plusO m (l.drop (k + 1)) := by rw [E1.out, hc]
        have hm : m < top64 := plusO_lt hc
        have HC := hide hc
        have E2 := hide (And.intro hm e2)
        clear hc e2 hm
        go_wp2_with (go_at_call 27; refine (HP.out _).mono ?_; rintro e w' hO; obtain ⟨rfl, hb2⟩ := hO.yes HC.out)
        go_roundw
        case rel => exact ⟨k + 1, m, by omega, rfl, by go_num, E2.out, hbl.trans (hb2.mono hbl.size)⟩
        case measure => simp [RowKit.intOf]; omega
    · obtain rfl : k = len := by omega
      have e2 : foldO plusO n0 l = some acc := by rw [hH.out.2, List.drop_of_length_le (by rw [HL.out]; omega)]; rfl
      have E2 := hide e2
      clear e2
      go_wp2_with fail
      go_ret2
      exact ⟨by rw [E2.out]; rfl, hbl⟩

set_option maxHeartbeats 400000 in
theorem foldW_times (n0 : Nat) (h0 : n0 < top64) (A : Option Addr) (len cap : Nat) (l : List Nat) (hl : l.length = len) (hlen : len ≤ 9223372036854775807) (hx : ∀ x ∈ l, x < top64) (w : World)
    (hr : Reads w w.heap.size 1 A len (l.map U64)) :
    Calls Tryd.prog 26 #[.int .u64 (n0 : Int), .func (.func 37) #[] #[], .slice A len cap] w (FoldV (foldO timesO n0 l) w) := by
  have HL := hide hl
  have HX := hide hx
  have HR := hide hr
  have H0 := hide h0
  clear hl hx hr h0
  go_enter Tryd.func26, Tryd.ntmps26
  go_wp2
  go_loopw [8, 15] (fun n i wr => ∃ k acc : Nat, k ≤ len ∧ n = .int .u64 (acc : Int) ∧ i = .int .i64 (k : Int) ∧ Hid (acc < top64 ∧ foldO timesO n0 l = foldO timesO acc (l.drop k)) ∧ Below w.heap.size w wr) (fun _ i _ => len - (RowKit.intOf i).toNat)
  case atStart => exact ⟨0, n0, Nat.zero_le _, rfl, rfl, ⟨H0.out, rfl⟩, Below.refl _ _⟩
  case round =>
    obtain ⟨k, acc, hk, rfl, rfl, hH, hbl⟩ := hrel
    by_cases hlt : k < len
    · obtain ⟨ad, x, hA, hbk, hcell, hxl, hdrop⟩ := reads_at HR.out HL.out HX.out hlt hbl
      subst hA
      have hP := fun W => times_calls acc x hH.out.1 hxl W
      have e1 : foldO timesO n0 l = (match timesO acc x with | none => none | some m => foldO timesO m (l.drop (k + 1))) := by rw [hH.out.2, hdrop]; rfl
      have HP := hide hP
      have E1 := hide e1
      clear hP e1 hdrop hxl
      rcases hc : timesO acc x with _ | m
      · have e2 : foldO timesO n0 l = none := by rw [E1.out, hc]
        have HC := hide hc
        have E2 := hide e2
        clear hc e2
        go_wp2_with (go_at_call 37; refine (HP.out _).mono ?_; rintro e w' hO; obtain ⟨m, rfl, hb2⟩ := hO.no HC.out)
        go_ret2
        exact ⟨by rw [E2.out]; rfl, hbl.trans (hb2.mono hbl.size)⟩
      · have e2 : foldO timesO n0 l = foldO timesO m (l.drop (k + 1)) := by rw [E1.out, hc]
        have hm : m < top64 := timesO_lt hc
        have HC := hide hc
        have E2 := hide (And.intro hm e2)
        clear hc e2 hm
        go_wp2_with (go_at_call 37; refine (HP.out _).mono ?_; rintro e w' hO; obtain ⟨rfl, hb2⟩ := hO.yes HC.out)
        go_roundw
        case rel => exact ⟨k + 1, m, by omega, rfl, by go_num, E2.out, hbl.trans (hb2.mono hbl.size)⟩
        case measure => simp [RowKit.intOf]; omega
    · obtain rfl : k = len := by omega
      have e2 : foldO timesO n0 l = some acc := by rw [hH.out.2, List.drop_of_length_le (by rw [HL.out]; omega)]; rfl
      have E2 := hide e2
      clear e2
      go_wp2_with fail
      go_ret2
      exact ⟨by rw [E2.out]; rfl, hbl⟩

set_option maxHeartbeats 400000 in
theorem foldW_common (n0 : Nat) (h0 : n0 < top64) (A : Option Addr) (len cap : Nat) (l : List Nat) (hl : l.length = len) (hlen : len ≤ 9223372036854775807) (hx : ∀ x ∈ l, x < top64) (w : World)
    (hr : Reads w w.heap.size 1 A len (l.map U64)) :
    Calls Tryd.prog 26 #[.int .u64 (n0 : Int), .func (.func 34) #[] #[], .slice A len cap] w (FoldV (foldO commonO n0 l) w) := by
  have HL := hide hl
  have HX := hide hx
  have HR := hide hr
  have H0 := hide h0
  clear hl hx hr h0
  go_enter Tryd.func26, Tryd.ntmps26
  go_wp2
  go_loopw [8, 15] (fun n i wr => ∃ k acc : Nat, k ≤ len ∧ n = .int .u64 (acc : Int) ∧ i = .int .i64 (k : Int) ∧ Hid (acc < top64 ∧ foldO commonO n0 l = foldO commonO acc (l.drop k)) ∧ Below w.heap.size w wr) (fun _ i _ => len - (RowKit.intOf i).toNat)
  case atStart => exact ⟨0, n0, Nat.zero_le _, rfl, rfl, ⟨H0.out, rfl⟩, Below.refl _ _⟩
  case round =>
    obtain ⟨k, acc, hk, rfl, rfl, hH, hbl⟩ := hrel
    by_cases hlt : k < len
    · obtain ⟨ad, x, hA, hbk, hcell, hxl, hdrop⟩ := reads_at HR.out HL.out HX.out hlt hbl
      subst hA
      have hP := fun W => common_calls acc x hH.out.1 hxl W
      have e1 : foldO commonO n0 l = (match commonO acc x with | none => none | some m => foldO commonO m (l.drop (k + 1))) := by rw [hH.out.2, hdrop]; rfl
      have HP := hide hP
      have E1 := hide e1
      clear hP e1 hdrop hxl
      rcases hc : commonO acc x with _ | m
      · have e2 : foldO commonO n0 l = none := by rw [E1.out, hc]
        have HC := hide hc
        have E2 := hide e2
        clear hc e2
        go_wp2_with (go_at_call 34; refine (HP.out _).mono ?_; rintro e w' hO; obtain ⟨m, rfl, hb2⟩ := hO.no HC.out)
        go_ret2
        exact ⟨by rw [E2.out]; rfl, hbl.trans (hb2.mono hbl.size)⟩
      · have e2 : foldO commonO n0 l = foldO commonO m (l.drop (k + 1)) := by rw [E1.out, hc]
        have hm : m < top64 := commonO_lt hc
        have HC := hide hc
        have E2 := hide (And.intro hm e2)
        clear hc e2 hm
        go_wp2_with (go_at_call 34; refine (HP.out _).mono ?_; rintro e w' hO; obtain ⟨rfl, hb2⟩ := hO.yes HC.out)
        go_roundw
        case rel => exact ⟨k + 1, m, by omega, rfl, by go_num, E2.out, hbl.trans (hb2.mono hbl.size)⟩
        case measure => simp [RowKit.intOf]; omega
    · obtain rfl : k = len := by omega
      have e2 : foldO commonO n0 l = some acc := by rw [hH.out.2, List.drop_of_length_le (by rw [HL.out]; omega)]; rfl
      have E2 := hide e2
      clear e2
      go_wp2_with fail
      go_ret2
      exact ⟨by rw [E2.out]; rfl, hbl⟩
end Go.Proofs.YtpagiomachamkaaDoor
