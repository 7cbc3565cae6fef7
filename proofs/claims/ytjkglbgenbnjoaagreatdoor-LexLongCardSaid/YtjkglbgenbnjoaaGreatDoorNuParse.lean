/- The walks of num.Hex, of the library's ParseUint with its errors, and of num.Parse (chapter 01). -/
import Derived.Test.YtjkglbgenbnjoaaGreatDoorNuFmt16
import Derived.Test.YtjkglbgenbnjoaaGreatDoorNuParse16
import Derived.Lib.ParseIntBCases
namespace Go.Proofs.YtjkglbgenbnjoaaGreatDoor
open Go.RowKit Go.Lib

/-- What the library's variables hold. -/
def Vars (w : World) : Prop :=
  Tab10 w ∧ Tab64 w ∧ (∃ tp p, w.cell? ⟨1, 0, none⟩ = some (.iface tp p)) ∧ ∃ tp p, w.cell? ⟨2, 0, none⟩ = some (.iface tp p)
theorem var_below {w w' : World} {name : String} {g : Nat} {cs : Array Value} (hg : Tryz.prog.globalNamed name = some g) (h : w.var? Tryz.prog name = some cs) (hb : Below w.heap.size w w') : w'.var? Tryz.prog name = some cs := by
  unfold World.var? at h ⊢
  rw [hg] at h ⊢
  simp only [Option.bind_some] at h ⊢
  have hl : g < w.heap.size := by
    rcases Nat.lt_or_ge g w.heap.size with hl | hl
    · exact hl
    · rw [Array.getElem?_eq_none hl] at h; cases h
  rw [hb.block g hl]
  exact h
theorem Tab10.below {w w' : World} (h : Tab10 w) (hb : Below w.heap.size w w') : Tab10 w' := var_below (g := 3) (by kernel_rfl) h hb
theorem Vars.below {w w' : World} (h : Vars w) (hb : Below w.heap.size w w') : Vars w' := by
  obtain ⟨h1, h2, ⟨t3, p3, h3⟩, ⟨t4, p4, h4⟩⟩ := h
  have l3 := cell_lt h3
  have l4 := cell_lt h4
  exact ⟨h1.below hb, h2.below hb, ⟨t3, p3, (hb.cell (p := ⟨1, 0, none⟩) l3).trans h3⟩, ⟨t4, p4, (hb.cell (p := ⟨2, 0, none⟩) l4).trans h4⟩⟩

theorem ifmt16 (u : Nat) (hu : u < top64) (w : World) (htab : Tab64 w) :
    Calls Tryz.prog 70 #[.int .u64 (u : Int), .int .i64 16] w fun e w' => e = .returned (.string ⟨(digL 16 u).toArray⟩) ∧ Below w.heap.size w w' := by
  have H := hide (bits16 u hu w htab)
  clear hu htab
  go_enter Tryz.func70, Tryz.ntmps70
  go_wp2_with (go_at_call 84; refine H.out.mono ?_; rintro e w' ⟨rfl, hb⟩)
  go_ret
  exact ⟨rfl, hb⟩
theorem fmt16 (u : Nat) (hu : u < top64) (w : World) (htab : Tab64 w) :
    Calls Tryz.prog 62 #[.int .u64 (u : Int), .int .i64 16] w fun e w' => e = .returned (.string ⟨(digL 16 u).toArray⟩) ∧ Below w.heap.size w w' := by
  have H := hide (ifmt16 u hu w htab)
  clear hu htab
  go_enter Tryz.func62, Tryz.ntmps62
  go_wp2_with (go_at_call 70; refine H.out.mono ?_; rintro e w' ⟨rfl, hb⟩)
  go_ret
  exact ⟨rfl, hb⟩
theorem hex_cat (l : List UInt8) : (⟨#[48, 120]⟩ : ByteArray) ++ ⟨l.toArray⟩ = ⟨(48 :: 120 :: l).toArray⟩ := by
  apply ByteArray.ext
  rw [ByteArray.data_append]
  simp
theorem Hex_calls (u : Nat) (hu : u < top64) (w : World) (htab : Tab64 w) :
    Calls Tryz.prog 57 #[.int .u64 (u : Int)] w fun e w' => e = .returned (.string ⟨(hexL u).toArray⟩) ∧ Below w.heap.size w w' := by
  have H := hide (fmt16 u hu w htab)
  have hl : (digL 16 u).length ≤ 16 := digL_length 16 15 (by omega) u (by unfold top64 at hu; omega)
  clear hu htab
  go_enter Tryz.func57, Tryz.ntmps57
  go_wp2_with (go_at_call 62; refine H.out.mono ?_; rintro e w' ⟨rfl, hb⟩)
  go_ret
  exact ⟨by rw [hex_cat]; rfl, hb⟩
def ParseV (r : Option Nat) (w : World) (e : Ending) (w' : World) : Prop :=
  Below w.heap.size w w' ∧ match r with | some n => e = .returned (.tuple #[.int .u64 (n : Int), .nilIface]) | none => ∃ (m : Nat) (N : Nat), e = .returned (.tuple #[.int .u64 (m : Int), .iface 105 (.pointer (some ⟨N, 0, none⟩))])
def r10 (s : List UInt8) : Option Nat := match parseMag s with | .ok n => some n | _ => none
def r16 (s : List UInt8) : Option Nat := if s = [] then none else scan16 0 s
theorem below_bytes (w : World) (t : TypeId) (s : ByteArray) : Below w.heap.size w (Lib.bytesWorld w t s) := Lib.bytesWorld_below w t s
theorem pu10 (s : ByteArray) (hs : s.size ≤ 100000000000000) (w : World) (hv : Vars w) :
    Calls Tryz.prog 58 #[.string s, .int .i64 10, .int .i64 64] w (ParseV (r10 s.data.toList) w) := by
  obtain ⟨_, _, ⟨t3, p3, h3⟩, ⟨t4, p4, h4⟩⟩ := hv
  cases h : parseMag s.data.toList with
  | ok n =>
    have hr : r10 s.data.toList = some n := by unfold r10; rw [h]
    rw [hr]
    refine (Tryz.strconv_ParseUint_10_at64_ok s (by omega) n (by rw [parseUintB_64]; exact h) w).mono fun e w' ⟨he, hw⟩ => ⟨?_, he⟩
    rcases hw with rfl | rfl
    · exact Below.refl _ _
    · exact below_bytes _ _ _
  | «syntax» =>
    have hr : r10 s.data.toList = none := by unfold r10; rw [h]
    rw [hr]
    exact (Tryz.strconv_ParseUint_10_at64_syntax s (by omega) (by rw [parseUintB_64]; exact h) _ w h3 (.inr ⟨t3, p3, rfl⟩)).mono fun e w' ⟨N, he, _, _, hb⟩ => ⟨hb, 0, N, he⟩
  | range =>
    have hr : r10 s.data.toList = none := by unfold r10; rw [h]
    rw [hr]
    exact (Tryz.strconv_ParseUint_10_at64_range s (by omega) (by rw [parseUintB_64]; exact h) _ w h4 (.inr ⟨t4, p4, rfl⟩)).mono fun e w' ⟨N, he, _, _, hb⟩ => ⟨hb, 18446744073709551615, N, he⟩
theorem ba_empty (s : ByteArray) (h : s.size = 0) : s = ⟨#[]⟩ := by
  apply ByteArray.ext
  exact Array.eq_empty_of_size_eq_zero h
/-- The library's inner ParseUint at base 16. -/
theorem ipu16 (s : ByteArray) (hs : s.size ≤ 100000000000000) (w : World) : ∃ r : NumEnd Nat, (match r with | .ok n => some n | _ => none) = r16 s.data.toList ∧
    Calls Tryz.prog 64 #[.string s, .int .i64 16, .int .i64 64] w fun e w' => e = .returned (Lib.uintTuple 103 r) ∧ Below w.heap.size w w' := by
  by_cases h : s.size = 0
  · have hs0 := ba_empty s h
    subst hs0
    exact ⟨.syntax, rfl, (Tryz.internal_strconv_ParseUint_empty 16 64 w).mono fun e w' ⟨he, hw⟩ => ⟨he, by rw [hw]; exact Below.refl _ _⟩⟩
  · refine ⟨pU16 0 s.data.toList, ?_, (parse16 s h (by omega) w).mono fun e w' ⟨he, hw⟩ => ⟨he, by rw [hw]; exact below_bytes _ _ _⟩⟩
    unfold r16
    rw [if_neg (fun e => h (by have h2 := Lib.size_eq s; rw [e, List.length_nil] at h2; exact h2)), pU16_scan]
    cases pU16 0 s.data.toList <;> rfl
set_option maxHeartbeats 1000000 in
theorem pu16 (s : ByteArray) (hs : s.size ≤ 100000000000000) (w : World) (hv : Vars w) :
    Calls Tryz.prog 58 #[.string s, .int .i64 16, .int .i64 64] w (ParseV (r16 s.data.toList) w) := by
  have HV := hide hv
  obtain ⟨r, hr, hI⟩ := ipu16 s hs w
  rw [← hr]
  have HS := hide hs
  clear hr hv hs
  cases r with
  | ok n =>
    rw [Lib.uintTuple] at hI
    have H := hide hI
    clear hI
    go_enter Tryz.func58, Tryz.ntmps58
    go_wp2_with (go_at_call 64; refine H.out.mono ?_; rintro e w' ⟨rfl, hb⟩)
    go_ret2
    exact ⟨hb, rfl⟩
  | «syntax» =>
    rw [Lib.uintTuple] at hI
    have H := hide hI
    have hT : ∀ w', Below w.heap.size w w' → Calls Tryz.prog 65 #[.string ⟨#[80, 97, 114, 115, 101, 85, 105, 110, 116]⟩, .string s, .int .i64 16, .int .i64 64, .iface 103 (.int .i64 2)] w' fun e w'' => ∃ N, e = .returned (.iface 105 (.pointer (some ⟨N, 0, none⟩))) ∧ Below w'.heap.size w' w'' := fun w' hb => by
      obtain ⟨_, _, ⟨t3, p3, h3⟩, _⟩ := HV.out.below hb
      exact (Tryz.strconv_toError_syntax ⟨#[80, 97, 114, 115, 101, 85, 105, 110, 116]⟩ s 16 64 _ w' (by have := HS.out; omega) h3 (.inr ⟨t3, p3, rfl⟩)).mono fun e w'' ⟨N, he, _, _, hb⟩ => ⟨N, he, hb⟩
    have HT := hide hT
    clear hI hT
    go_enter Tryz.func58, Tryz.ntmps58
    go_wp2_with (first
      | (go_at_call 64; refine H.out.mono ?_; rintro e w' ⟨rfl, hb⟩)
      | (go_at_call 65; refine (HT.out _ hb).mono ?_; rintro e w2 ⟨N, rfl, hb2⟩))
    go_ret2
    exact ⟨hb.trans (hb2.mono hb.size), 0, N, rfl⟩
  | range =>
    rw [Lib.uintTuple] at hI
    have H := hide hI
    have hT : ∀ w', Below w.heap.size w w' → Calls Tryz.prog 65 #[.string ⟨#[80, 97, 114, 115, 101, 85, 105, 110, 116]⟩, .string s, .int .i64 16, .int .i64 64, .iface 103 (.int .i64 1)] w' fun e w'' => ∃ N, e = .returned (.iface 105 (.pointer (some ⟨N, 0, none⟩))) ∧ Below w'.heap.size w' w'' := fun w' hb => by
      obtain ⟨_, _, _, ⟨t4, p4, h4⟩⟩ := HV.out.below hb
      exact (Tryz.strconv_toError_range ⟨#[80, 97, 114, 115, 101, 85, 105, 110, 116]⟩ s 16 64 _ w' (by have := HS.out; omega) h4 (.inr ⟨t4, p4, rfl⟩)).mono fun e w'' ⟨N, he, _, _, hb⟩ => ⟨N, he, hb⟩
    have HT := hide hT
    clear hI hT
    go_enter Tryz.func58, Tryz.ntmps58
    go_wp2_with (first
      | (go_at_call 64; refine H.out.mono ?_; rintro e w' ⟨rfl, hb⟩)
      | (go_at_call 65; refine (HT.out _ hb).mono ?_; rintro e w2 ⟨N, rfl, hb2⟩))
    go_ret2
    exact ⟨hb.trans (hb2.mono hb.size), 18446744073709551615, N, rfl⟩
end Go.Proofs.YtjkglbgenbnjoaaGreatDoor
