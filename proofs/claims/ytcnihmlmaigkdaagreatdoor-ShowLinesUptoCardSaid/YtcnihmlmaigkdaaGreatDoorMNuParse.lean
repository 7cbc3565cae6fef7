/- The walks of num.Hex, of the library's ParseUint with its errors, and of num.Parse (chapter 01). The two tables of numerals, below the call's own blocks. The walk of num.Parse (chapter 01). The walks of the reference's form, Decimal, Hex and digit (chapter 01). The library's variables lie below the call's own blocks. -/
import Derived.Test.YtcnihmlmaigkdaaGreatDoorNuFmt16
import Derived.Test.YtcnihmlmaigkdaaGreatDoorNuParse16
import Derived.Lib.ParseIntBCases
import Derived.Test.YtcnihmlmaigkdaaGreatDoorMMem
namespace Go.Proofs.YtcnihmlmaigkdaaGreatDoor
open Go.RowKit Go.Lib

/-- What the library's variables hold. -/
def Vars (w : World) : Prop :=
  Tab10 w ∧ Tab64 w ∧ (∃ tp p, w.cell? ⟨6, 0, none⟩ = some (.iface tp p)) ∧ ∃ tp p, w.cell? ⟨7, 0, none⟩ = some (.iface tp p)
theorem var_below {w w' : World} {name : String} {g : Nat} {cs : Array Value} (hg : Tryz.prog.globalNamed name = some g) (h : w.var? Tryz.prog name = some cs) (hb : Below w.heap.size w w') : w'.var? Tryz.prog name = some cs := by
  unfold World.var? at h ⊢
  rw [hg] at h ⊢
  simp only [Option.bind_some] at h ⊢
  have hl : g < w.heap.size := by
    rcases Nat.lt_or_ge g w.heap.size with hl | hl
    · exact hl
    · rw [Array.getElem?_eq_none hl] at h; cases h
  rw [hb.block g hl]
  exact h
theorem Tab10.below {w w' : World} (h : Tab10 w) (hb : Below w.heap.size w w') : Tab10 w' := var_below (g := 1) (by kernel_rfl) h hb
theorem Vars.below {w w' : World} (h : Vars w) (hb : Below w.heap.size w w') : Vars w' := by
  obtain ⟨h1, h2, ⟨t3, p3, h3⟩, ⟨t4, p4, h4⟩⟩ := h
  have l3 := cell_lt h3
  have l4 := cell_lt h4
  exact ⟨h1.below hb, h2.below hb, ⟨t3, p3, (hb.cell (p := ⟨6, 0, none⟩) l3).trans h3⟩, ⟨t4, p4, (hb.cell (p := ⟨7, 0, none⟩) l4).trans h4⟩⟩

theorem ifmt16 (u : Nat) (hu : u < top64) (w : World) (htab : Tab64 w) :
    Calls Tryz.prog 117 #[.int .u64 (u : Int), .int .i64 16] w fun e w' => e = .returned (.string ⟨(digL 16 u).toArray⟩) ∧ Below w.heap.size w w' := by
  have H := hide (bits16 u hu w htab)
  clear hu htab
  go_enter Tryz.func117, Tryz.ntmps117
  go_wp2_with (go_at_call 180; refine H.out.mono ?_; rintro e w' ⟨rfl, hb⟩)
  go_ret
  exact ⟨rfl, hb⟩
theorem fmt16 (u : Nat) (hu : u < top64) (w : World) (htab : Tab64 w) :
    Calls Tryz.prog 53 #[.int .u64 (u : Int), .int .i64 16] w fun e w' => e = .returned (.string ⟨(digL 16 u).toArray⟩) ∧ Below w.heap.size w w' := by
  have H := hide (ifmt16 u hu w htab)
  clear hu htab
  go_enter Tryz.func53, Tryz.ntmps53
  go_wp2_with (go_at_call 117; refine H.out.mono ?_; rintro e w' ⟨rfl, hb⟩)
  go_ret
  exact ⟨rfl, hb⟩
theorem hex_cat (l : List UInt8) : (⟨#[48, 120]⟩ : ByteArray) ++ ⟨l.toArray⟩ = ⟨(48 :: 120 :: l).toArray⟩ := by
  apply ByteArray.ext
  rw [ByteArray.data_append]
  simp
theorem Hex_calls (u : Nat) (hu : u < top64) (w : World) (htab : Tab64 w) :
    Calls Tryz.prog 121 #[.int .u64 (u : Int)] w fun e w' => e = .returned (.string ⟨(hexL u).toArray⟩) ∧ Below w.heap.size w w' := by
  have H := hide (fmt16 u hu w htab)
  have hl : (digL 16 u).length ≤ 16 := digL_length 16 15 (by omega) u (by unfold top64 at hu; omega)
  clear hu htab
  go_enter Tryz.func121, Tryz.ntmps121
  go_wp2_with (go_at_call 53; refine H.out.mono ?_; rintro e w' ⟨rfl, hb⟩)
  go_ret
  exact ⟨by rw [hex_cat]; rfl, hb⟩
def ParseV (r : Option Nat) (w : World) (e : Ending) (w' : World) : Prop :=
  Below w.heap.size w w' ∧ match r with | some n => e = .returned (.tuple #[.int .u64 (n : Int), .nilIface]) | none => ∃ (m : Nat) (N : Nat), e = .returned (.tuple #[.int .u64 (m : Int), .iface 449 (.pointer (some ⟨N, 0, none⟩))])
def r10 (s : List UInt8) : Option Nat := match parseMag s with | .ok n => some n | _ => none
def r16 (s : List UInt8) : Option Nat := if s = [] then none else scan16 0 s
theorem below_bytes (w : World) (t : TypeId) (s : ByteArray) : Below w.heap.size w (Lib.bytesWorld w t s) := Lib.bytesWorld_below w t s
theorem pu10 (s : ByteArray) (hs : s.size ≤ 100000000000000) (w : World) (hv : Vars w) :
    Calls Tryz.prog 331 #[.string s, .int .i64 10, .int .i64 64] w (ParseV (r10 s.data.toList) w) := by
  obtain ⟨_, _, ⟨t3, p3, h3⟩, ⟨t4, p4, h4⟩⟩ := hv
  cases h : parseMag s.data.toList with
  | ok n =>
    have hr : r10 s.data.toList = some n := by unfold r10; rw [h]
    rw [hr]
    refine (Tryz.strconv_ParseUint_10_at64_ok s (by omega) n (by rw [parseUintB_64]; exact h) w).mono fun e w' ⟨he, hw⟩ => ⟨?_, he⟩
    rcases hw with rfl | rfl
    · exact Below.refl _ _
    · exact below_bytes _ _ _
  | «syntax» =>
    have hr : r10 s.data.toList = none := by unfold r10; rw [h]
    rw [hr]
    exact (Tryz.strconv_ParseUint_10_at64_syntax s (by omega) (by rw [parseUintB_64]; exact h) _ w h3 (.inr ⟨t3, p3, rfl⟩)).mono fun e w' ⟨N, he, _, _, hb⟩ => ⟨hb, 0, N, he⟩
  | range =>
    have hr : r10 s.data.toList = none := by unfold r10; rw [h]
    rw [hr]
    exact (Tryz.strconv_ParseUint_10_at64_range s (by omega) (by rw [parseUintB_64]; exact h) _ w h4 (.inr ⟨t4, p4, rfl⟩)).mono fun e w' ⟨N, he, _, _, hb⟩ => ⟨hb, 18446744073709551615, N, he⟩
theorem ba_empty (s : ByteArray) (h : s.size = 0) : s = ⟨#[]⟩ := by
  apply ByteArray.ext
  exact Array.eq_empty_of_size_eq_zero h
/-- The library's inner ParseUint at base 16. -/
theorem ipu16 (s : ByteArray) (hs : s.size ≤ 100000000000000) (w : World) : ∃ r : NumEnd Nat, (match r with | .ok n => some n | _ => none) = r16 s.data.toList ∧
    Calls Tryz.prog 355 #[.string s, .int .i64 16, .int .i64 64] w fun e w' => e = .returned (Lib.uintTuple 447 r) ∧ Below w.heap.size w w' := by
  by_cases h : s.size = 0
  · have hs0 := ba_empty s h
    subst hs0
    exact ⟨.syntax, rfl, (Tryz.internal_strconv_ParseUint_empty 16 64 w).mono fun e w' ⟨he, hw⟩ => ⟨he, by rw [hw]; exact Below.refl _ _⟩⟩
  · refine ⟨pU16 0 s.data.toList, ?_, (parse16 s h (by omega) w).mono fun e w' ⟨he, hw⟩ => ⟨he, by rw [hw]; exact below_bytes _ _ _⟩⟩
    unfold r16
    rw [if_neg (fun e => h (by have h2 := Lib.size_eq s; rw [e, List.length_nil] at h2; exact h2)), pU16_scan]
    cases pU16 0 s.data.toList <;> rfl
set_option maxHeartbeats 1000000 in
theorem pu16 (s : ByteArray) (hs : s.size ≤ 100000000000000) (w : World) (hv : Vars w) :
    Calls Tryz.prog 331 #[.string s, .int .i64 16, .int .i64 64] w (ParseV (r16 s.data.toList) w) := by
  have HV := hide hv
  obtain ⟨r, hr, hI⟩ := ipu16 s hs w
  rw [← hr]
  have HS := hide hs
  clear hr hv hs
  cases r with
  | ok n =>
    rw [Lib.uintTuple] at hI
    have H := hide hI
    clear hI
    go_enter Tryz.func331, Tryz.ntmps331
    go_wp2_with (go_at_call 355; refine H.out.mono ?_; rintro e w' ⟨rfl, hb⟩)
    go_ret2
    exact ⟨hb, rfl⟩
  | «syntax» =>
    rw [Lib.uintTuple] at hI
    have H := hide hI
    have hT : ∀ w', Below w.heap.size w w' → Calls Tryz.prog 356 #[.string ⟨#[80, 97, 114, 115, 101, 85, 105, 110, 116]⟩, .string s, .int .i64 16, .int .i64 64, .iface 447 (.int .i64 2)] w' fun e w'' => ∃ N, e = .returned (.iface 449 (.pointer (some ⟨N, 0, none⟩))) ∧ Below w'.heap.size w' w'' := fun w' hb => by
      obtain ⟨_, _, ⟨t3, p3, h3⟩, _⟩ := HV.out.below hb
      exact (Tryz.strconv_toError_syntax ⟨#[80, 97, 114, 115, 101, 85, 105, 110, 116]⟩ s 16 64 _ w' (by have := HS.out; omega) h3 (.inr ⟨t3, p3, rfl⟩)).mono fun e w'' ⟨N, he, _, _, hb⟩ => ⟨N, he, hb⟩
    have HT := hide hT
    clear hI hT
    go_enter Tryz.func331, Tryz.ntmps331
    go_wp2_with (first
      | (go_at_call 355; refine H.out.mono ?_; rintro e w' ⟨rfl, hb⟩)
      | (go_at_call 356; refine (HT.out _ hb).mono ?_; rintro e w2 ⟨N, rfl, hb2⟩))
    go_ret2
    exact ⟨hb.trans (hb2.mono hb.size), 0, N, rfl⟩
  | range =>
    rw [Lib.uintTuple] at hI
    have H := hide hI
    have hT : ∀ w', Below w.heap.size w w' → Calls Tryz.prog 356 #[.string ⟨#[80, 97, 114, 115, 101, 85, 105, 110, 116]⟩, .string s, .int .i64 16, .int .i64 64, .iface 447 (.int .i64 1)] w' fun e w'' => ∃ N, e = .returned (.iface 449 (.pointer (some ⟨N, 0, none⟩))) ∧ Below w'.heap.size w' w'' := fun w' hb => by
      obtain ⟨_, _, _, ⟨t4, p4, h4⟩⟩ := HV.out.below hb
      exact (Tryz.strconv_toError_range ⟨#[80, 97, 114, 115, 101, 85, 105, 110, 116]⟩ s 16 64 _ w' (by have := HS.out; omega) h4 (.inr ⟨t4, p4, rfl⟩)).mono fun e w'' ⟨N, he, _, _, hb⟩ => ⟨N, he, hb⟩
    have HT := hide hT
    clear hI hT
    go_enter Tryz.func331, Tryz.ntmps331
    go_wp2_with (first
      | (go_at_call 355; refine H.out.mono ?_; rintro e w' ⟨rfl, hb⟩)
      | (go_at_call 356; refine (HT.out _ hb).mono ?_; rintro e w2 ⟨N, rfl, hb2⟩))
    go_ret2
    exact ⟨hb.trans (hb2.mono hb.size), 18446744073709551615, N, rfl⟩
end Go.Proofs.YtcnihmlmaigkdaaGreatDoor
namespace Go.Proofs.YtcnihmlmaigkdaaGreatDoor
open Go.RowKit Go.Lib

def VarT (w : World) : Prop := Tab10 w ∧ Tab64 w
def TLow (X : Nat) : Prop := 1 < X ∧ 5 < X
theorem tvar_block {w : World} {name : String} {g : Nat} {cs : Array Value} (hg : Tryz.prog.globalNamed name = some g) (h : w.var? Tryz.prog name = some cs) : g < w.heap.size := by
  unfold World.var? at h
  rw [hg] at h
  simp only [Option.bind_some] at h
  rcases Nat.lt_or_ge g w.heap.size with hl | hl
  · exact hl
  · rw [Array.getElem?_eq_none hl] at h; cases h
theorem VarT.low {w : World} {X : Nat} (h : VarT w) (hX : w.heap.size ≤ X) : TLow X := by
  have l1 : 1 < w.heap.size := tvar_block (by kernel_rfl) h.1
  have l2 := cell_lt h.2
  exact ⟨by omega, by omega⟩
theorem VarT.only {w w' : World} {X : Nat} (h : VarT w) (hg : TLow X) (hb : Below X w w') : VarT w' := by
  obtain ⟨h1, h2⟩ := h
  refine ⟨?_, (hb.cell (p := ⟨5, 15, none⟩) hg.2).trans h2⟩
  unfold Tab10 Lib.TabIs World.var? at h1 ⊢
  rw [show Tryz.prog.globalNamed "internal/strconv.uint64pow10" = some 1 by kernel_rfl] at h1 ⊢
  simp only [Option.bind_some] at h1 ⊢
  rw [hb.block _ hg.1]
  exact h1
theorem VarT.below {w w' : World} (h : VarT w) (hb : Below w.heap.size w w') : VarT w' := h.only (h.low (Nat.le_refl _)) hb
theorem Vars.tab {w : World} (h : Vars w) : VarT w := ⟨h.1, h.2.1⟩
end Go.Proofs.YtcnihmlmaigkdaaGreatDoor
namespace Go.Proofs.YtcnihmlmaigkdaaGreatDoor
open Go.RowKit Go.Lib

theorem cut_yes (s : ByteArray) (hp : s.data.toList.take 2 = [48, 120]) (w : World) :
    Calls Tryz.prog 330 #[.string s, .string ⟨#[48, 120]⟩] w fun e w' => e = .returned (.tuple #[.string ⟨(s.data.toList.drop 2).toArray⟩, .bool true]) ∧ w' = w := by
  have h := Tryz.strings_CutPrefix s ⟨#[48, 120]⟩ w
  have e : Lib.hasPrefix s.data.toList [48, 120] = true := by
    unfold Lib.hasPrefix
    rw [List.isPrefixOf_iff_prefix, List.prefix_iff_eq_take]
    exact hp.symm
  have e2 : (⟨#[48, 120]⟩ : ByteArray).data.toList = [48, 120] := rfl
  rw [e2, e, Lib.trimPrefix, e, if_pos rfl] at h
  exact h
theorem cut_no (s : ByteArray) (hp : ¬ s.data.toList.take 2 = [48, 120]) (w : World) :
    Calls Tryz.prog 330 #[.string s, .string ⟨#[48, 120]⟩] w fun e w' => e = .returned (.tuple #[.string s, .bool false]) ∧ w' = w := by
  have h := Tryz.strings_CutPrefix s ⟨#[48, 120]⟩ w
  have e : Lib.hasPrefix s.data.toList [48, 120] = false := by
    rw [Bool.eq_false_iff]
    intro h
    unfold Lib.hasPrefix at h
    rw [List.isPrefixOf_iff_prefix, List.prefix_iff_eq_take] at h
    exact hp h.symm
  have e2 : (⟨#[48, 120]⟩ : ByteArray).data.toList = [48, 120] := rfl
  rw [e2, e, Lib.trimPrefix, e, if_neg (by decide)] at h
  exact h
theorem parseN_no (s : List UInt8) (hp : ¬ s.take 2 = [48, 120]) : parseN s = (match r10 s with | some n => if digL 10 n = s then some n else none | none => none) := by
  unfold parseN r10
  rw [if_neg hp]
  cases parseMag s <;> rfl
theorem parseN_yes (s : List UInt8) (hp : s.take 2 = [48, 120]) : parseN s = (match r16 (s.drop 2) with | some n => if hexL n = s then some n else none | none => none) := by
  unfold parseN r16
  rw [if_pos hp]
  split
  · rfl
  · rfl
theorem r10_lt {s : List UInt8} {n : Nat} (h : r10 s = some n) : n < top64 := by
  unfold r10 at h
  split at h
  · injection h with h; subst h; exact parseMag_lt (by assumption)
  · cases h
theorem r16_lt {s : List UInt8} {n : Nat} (h : r16 s = some n) : n < top64 := by
  unfold r16 at h
  split at h
  · cases h
  · exact scan16_lt _ 0 n (by decide) h
theorem same_no {l : List UInt8} {s : ByteArray} (h : (!l == s.toList) = true) : ¬ l = s.data.toList := by
  rw [ByteArray.toList_eq] at h
  intro e
  rw [e] at h
  simp at h
theorem same_yes {l : List UInt8} {s : ByteArray} (h : (!l == s.toList) = false) : l = s.data.toList := by
  rw [ByteArray.toList_eq] at h
  simpa using h

set_option maxHeartbeats 1000000 in
theorem Parse_calls (s : ByteArray) (hs : s.size ≤ 100000000000000) (w : World) (hv : Vars w) :
    Calls Tryz.prog 278 #[.string s] w (FoldV (parseN s.data.toList) w) := by
  have HV := hide hv
  by_cases hp : s.data.toList.take 2 = [48, 120]
  · have HC := hide (cut_yes s hp)
    have hU := pu16 ⟨(s.data.toList.drop 2).toArray⟩ (by
      show (s.data.toList.drop 2).toArray.size ≤ 100000000000000
      have h2 := Lib.size_eq s
      rw [List.size_toArray, List.length_drop]; omega) w hv
    have hd : (⟨(s.data.toList.drop 2).toArray⟩ : ByteArray).data.toList = s.data.toList.drop 2 := rfl
    rw [hd] at hU
    have hN := parseN_yes s.data.toList hp
    cases hr : r16 (s.data.toList.drop 2) with
    | none =>
      rw [hr] at hU hN
      have H := hide hU
      have HN := hide hN
      clear hU hv hN hr hp hs hd
      go_enter Tryz.func278, Tryz.ntmps278
      go_wp2_with (first
        | (go_at_call 330; refine (HC.out _).mono ?_; rintro e w' ⟨rfl, rfl⟩)
        | (go_at_call 331; refine H.out.mono ?_; rintro e w2 ⟨hb2, m, N, rfl⟩))
      go_ret2
      exact ⟨by rw [HN.out]; rfl, hb2⟩
    | some n =>
      rw [hr] at hU hN
      have hn := r16_lt hr
      have hD := fun W (hV : Vars W) => Hex_calls n hn W hV.2.1
      have H := hide hU
      have HD := hide hD
      have HN := hide hN
      clear hU hD hn hv hN hr hp hs hd
      go_enter Tryz.func278, Tryz.ntmps278
      go_wp2_with (first
        | (go_at_call 330; refine (HC.out _).mono ?_; rintro e w' ⟨rfl, rfl⟩)
        | (go_at_call 331; refine H.out.mono ?_; rintro e w2 ⟨hb2, rfl⟩)
        | (go_at_call 121; refine (HD.out _ (HV.out.below hb2)).mono ?_; rintro e w3 ⟨rfl, hb3⟩))
      · have hno := same_no (by assumption)
        go_ret2
        exact ⟨by rw [HN.out]; show _ = Ending.returned (optV (if hexL n = s.data.toList then some n else none)); rw [if_neg hno]; rfl, hb2.trans (hb3.mono hb2.size)⟩
      · have hno := same_yes (by assumption)
        go_ret2
        exact ⟨by rw [HN.out]; show _ = Ending.returned (optV (if hexL n = s.data.toList then some n else none)); rw [if_pos hno]; rfl, hb2.trans (hb3.mono hb2.size)⟩
  · have HC := hide (cut_no s hp)
    have hU := pu10 s hs w hv
    have hN := parseN_no s.data.toList hp
    cases hr : r10 s.data.toList with
    | none =>
      rw [hr] at hU hN
      have H := hide hU
      have HN := hide hN
      clear hU hv hN hr hp hs
      go_enter Tryz.func278, Tryz.ntmps278
      go_wp2_with (first
        | (go_at_call 330; refine (HC.out _).mono ?_; rintro e w' ⟨rfl, rfl⟩)
        | (go_at_call 331; refine H.out.mono ?_; rintro e w2 ⟨hb2, m, N, rfl⟩))
      go_ret2
      exact ⟨by rw [HN.out]; rfl, hb2⟩
    | some n =>
      rw [hr] at hU hN
      have hn := r10_lt hr
      have hD := fun W (hV : Vars W) => Decimal_calls n hn W hV.1
      have H := hide hU
      have HD := hide hD
      have HN := hide hN
      clear hU hD hn hv hN hr hp hs
      go_enter Tryz.func278, Tryz.ntmps278
      go_wp2_with (first
        | (go_at_call 330; refine (HC.out _).mono ?_; rintro e w' ⟨rfl, rfl⟩)
        | (go_at_call 331; refine H.out.mono ?_; rintro e w2 ⟨hb2, rfl⟩)
        | (go_at_call 27; refine (HD.out _ (HV.out.below hb2)).mono ?_; rintro e w3 ⟨rfl, hb3⟩))
      · have hno := same_no (by assumption)
        go_ret2
        exact ⟨by rw [HN.out]; show _ = Ending.returned (optV (if digL 10 n = s.data.toList then some n else none)); rw [if_neg hno]; rfl, hb2.trans (hb3.mono hb2.size)⟩
      · have hno := same_yes (by assumption)
        go_ret2
        exact ⟨by rw [HN.out]; show _ = Ending.returned (optV (if digL 10 n = s.data.toList then some n else none)); rw [if_pos hno]; rfl, hb2.trans (hb3.mono hb2.size)⟩
end Go.Proofs.YtcnihmlmaigkdaaGreatDoor
namespace Go.Proofs.YtcnihmlmaigkdaaGreatDoor
open Go.RowKit Go.Lib

set_option maxRecDepth 100000 in
theorem piece_run (r q : Nat) (h : r < 16) (hq : q = r + 1) (w : World) : (Instr.slice 9 (.string ⟨#[48, 49, 50, 51, 52, 53, 54, 55, 56, 57, 97, 98, 99, 100, 101, 102]⟩) (some (.int .u64 (r : Int))) (some (.int .u64 (q : Int))) none).run Tryz.prog w = .ok (.string ⟨#[dg r]⟩) w := by
  subst hq
  have : r = 0 ∨ r = 1 ∨ r = 2 ∨ r = 3 ∨ r = 4 ∨ r = 5 ∨ r = 6 ∨ r = 7 ∨ r = 8 ∨ r = 9 ∨ r = 10 ∨ r = 11 ∨ r = 12 ∨ r = 13 ∨ r = 14 ∨ r = 15 := by omega
  rcases this with rfl | rfl | rfl | rfl | rfl | rfl | rfl | rfl | rfl | rfl | rfl | rfl | rfl | rfl | rfl | rfl <;> rfl
theorem put_front (c : UInt8) (s : ByteArray) : ((⟨#[c]⟩ : ByteArray) ++ s).data.toList = c :: s.data.toList := by
  rw [ByteArray.data_append]; simp

set_option maxHeartbeats 800000 in
theorem form_calls (b : Nat) (hb : 10 ≤ b) (hb2 : b ≤ 16) (x : Nat) (hx : x < top64) (w : World) :
    Calls Tryz.prog 74 #[.int .u64 (x : Int), .int .u64 (b : Int)] w fun e w' => e = .returned (.string ⟨(digL b x).toArray⟩) ∧ Below w.heap.size w w' := by
  have hlen : (digL b x).length ≤ 20 := digL_length b 19 (by omega) x (Nat.lt_of_lt_of_le hx (Nat.le_trans (by decide : top64 ≤ 10 ^ 20) (Nat.pow_le_pow_left hb 20)))
  have HL := hide hlen
  have HX := hide hx
  clear hlen hx
  go_enter Tryz.func74, Tryz.ntmps74
  go_wp2
  go_loopw [0, 5] (fun u s wr => ∃ (m : Nat) (st : ByteArray), u = .int .u64 (m : Int) ∧ s = .string st ∧ Hid (m < top64 ∧ digL b x = digL b m ++ st.data.toList) ∧ Below w.heap.size w wr) (fun u _ _ => (RowKit.intOf u).toNat)
  case atStart => exact ⟨x, ⟨#[]⟩, rfl, rfl, ⟨HX.out, by simp⟩, Below.refl _ _⟩
  case round =>
    obtain ⟨m, st, rfl, rfl, hH, hbl⟩ := hrel
    have hsz : st.size ≤ 20 := by
      have h1 := HL.out
      have h2 := Lib.size_eq st
      rw [hH.out.2, List.length_append] at h1
      omega
    by_cases hm : b ≤ m
    · obtain ⟨r, hr⟩ : ∃ r, r = m % b := ⟨_, rfl⟩
      obtain ⟨q, hq⟩ : ∃ q, q = r + 1 := ⟨_, rfl⟩
      have hrl : r < b := by rw [hr]; exact Nat.mod_lt _ (by omega)
      have hmod : (m : Int) % (b : Int) = (r : Int) := by rw [hr]; exact (Int.natCast_emod _ _).symm
      have hqw : IntKind.u64.wrap ((r : Int) + 1) = (q : Int) := by rw [IntKind.wrap_u64]; omega
      have hsl := piece_run r q (by omega) hq
      obtain ⟨d, hd⟩ : ∃ d, d = m / b := ⟨_, rfl⟩
      have hdiv : (m : Int) / (b : Int) = (d : Int) := by rw [hd]; exact (Int.natCast_ediv _ _).symm
      have hdm : d < m := by rw [hd]; exact Nat.div_lt_self (by omega) (by omega)
      have hN := hide (show d < top64 ∧ digL b x = digL b d ++ ((⟨#[dg r]⟩ : ByteArray) ++ st).data.toList from ⟨Nat.lt_trans hdm hH.out.1, by rw [hH.out.2, digL_big (by omega) hm, put_front, hd, hr]; simp⟩)
      have hdw : IntKind.u64.wrap (d : Int) = (d : Int) := by
        have := Nat.lt_trans hdm hH.out.1
        unfold top64 at this; rw [IntKind.wrap_u64]; omega
      clear hr hq hd
      go_wp2
      go_quiet (fail)
      go_wp2
      exact ⟨⟨d, _, rfl, rfl, hN.out, below_drewN hbl _⟩, by simp [RowKit.intOf]; omega⟩
    · obtain ⟨q, hq⟩ : ∃ q, q = m + 1 := ⟨_, rfl⟩
      have hqw : IntKind.u64.wrap ((m : Int) + 1) = (q : Int) := by rw [IntKind.wrap_u64]; omega
      have hsl := piece_run m q (by omega) hq
      have hN := hide (show (⟨#[dg m]⟩ : ByteArray) ++ st = ⟨(digL b x).toArray⟩ from by
        apply ByteArray.ext
        rw [ByteArray.data_append, hH.out.2, digL_small (by omega)]
        simp)
      clear hq
      go_wp2
      go_ret
      exact ⟨by rw [← hN.out]; rfl, hbl⟩
theorem RefDecimal_calls (u : Nat) (hu : u < top64) (w : World) :
    Calls Tryz.prog 64 #[.int .u64 (u : Int)] w fun e w' => e = .returned (.string ⟨(digL 10 u).toArray⟩) ∧ Below w.heap.size w w' := by
  have H := hide (form_calls 10 (by omega) (by omega) u hu w)
  clear hu
  go_enter Tryz.func64, Tryz.ntmps64
  go_wp2_with (go_at_call 74; refine H.out.mono ?_; rintro e w' ⟨rfl, hb⟩)
  go_ret
  exact ⟨rfl, hb⟩
theorem RefHex_calls (u : Nat) (hu : u < top64) (w : World) :
    Calls Tryz.prog 34 #[.int .u64 (u : Int)] w fun e w' => e = .returned (.string ⟨(hexL u).toArray⟩) ∧ Below w.heap.size w w' := by
  have H := hide (form_calls 16 (by omega) (by omega) u hu w)
  have hl : (digL 16 u).length ≤ 16 := digL_length 16 15 (by omega) u (by unfold top64 at hu; omega)
  clear hu
  go_enter Tryz.func34, Tryz.ntmps34
  go_wp2_with (go_at_call 74; refine H.out.mono ?_; rintro e w' ⟨rfl, hb⟩)
  go_ret
  exact ⟨by rw [hex_cat]; rfl, hb⟩
end Go.Proofs.YtcnihmlmaigkdaaGreatDoor
namespace Go.Proofs.YtcnihmlmaigkdaaGreatDoor
open Go.RowKit Go.Lib

/-- The library's variables lie below block X. -/
def GLow (X : Nat) : Prop := 1 < X ∧ 5 < X ∧ 6 < X ∧ 7 < X
theorem var_block {w : World} {name : String} {g : Nat} {cs : Array Value} (hg : Tryz.prog.globalNamed name = some g) (h : w.var? Tryz.prog name = some cs) : g < w.heap.size := by
  unfold World.var? at h
  rw [hg] at h
  simp only [Option.bind_some] at h
  rcases Nat.lt_or_ge g w.heap.size with hl | hl
  · exact hl
  · rw [Array.getElem?_eq_none hl] at h; cases h
theorem Vars.glow {w : World} {X : Nat} (h : Vars w) (hX : w.heap.size ≤ X) : GLow X := by
  obtain ⟨h1, h2, ⟨t3, p3, h3⟩, ⟨t4, p4, h4⟩⟩ := h
  have l1 : 1 < w.heap.size := var_block (by kernel_rfl) h1
  have l2 := cell_lt h2
  have l3 := cell_lt h3
  have l4 := cell_lt h4
  exact ⟨by omega, by omega, by omega, by omega⟩
theorem Vars.only {w w' : World} {X : Nat} (h : Vars w) (hg : GLow X) (hb : Below X w w') : Vars w' := by
  obtain ⟨h1, h2, ⟨t3, p3, h3⟩, ⟨t4, p4, h4⟩⟩ := h
  obtain ⟨g1, g2, g3, g4⟩ := hg
  refine ⟨?_, (hb.cell (p := ⟨5, 15, none⟩) g2).trans h2, ⟨t3, p3, (hb.cell (p := ⟨6, 0, none⟩) g3).trans h3⟩, ⟨t4, p4, (hb.cell (p := ⟨7, 0, none⟩) g4).trans h4⟩⟩
  unfold Tab10 Lib.TabIs World.var? at h1 ⊢
  rw [show Tryz.prog.globalNamed "internal/strconv.uint64pow10" = some 1 by kernel_rfl] at h1 ⊢
  simp only [Option.bind_some] at h1 ⊢
  rw [hb.block _ g1]
  exact h1
end Go.Proofs.YtcnihmlmaigkdaaGreatDoor
