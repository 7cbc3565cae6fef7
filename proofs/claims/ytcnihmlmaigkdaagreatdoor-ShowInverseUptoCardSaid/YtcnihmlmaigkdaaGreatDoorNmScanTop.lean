/- The walk of name.Scan: it comes to what the plain reading comes to. -/
import Derived.Test.YtcnihmlmaigkdaaGreatDoorNmScan
import Derived.Lib.BufferRead
namespace Go.Proofs.YtcnihmlmaigkdaaGreatDoor
open Go.RowKit Go.Lib

def escF (X : Nat) (esc : Bool) : Value := if esc = true then .func (.func 357) #[.pointer (some ⟨X, 0, none⟩)] #[] else .nilFunc
def Running (s : ByteArray) (R : List UInt8 × Nat × Nat) (X k : Nat) (after : Value) (wr : World) : Prop :=
  ∃ esc o acc, Scanner wr X false o acc ∧ after = escF X esc ∧ final (goL esc o acc (s.data.toList.drop k)) k = R ∧ acc.length ≤ k
def Done (R : List UInt8 × Nat × Nat) (X k : Nat) (after : Value) (wr : World) : Prop :=
  ∃ o acc, Scanner wr X true o acc ∧ after = .nilFunc ∧ okR o acc k = R ∧ acc.length ≤ k

set_option maxRecDepth 100000 in
/-- The bytes of a scanner as a string. -/
theorem scanner_string {w : World} {X n cp : Nat} {a : Option Addr} {acc : List UInt8} (h : w.ownsRow X 5 1 (.slice a n cp) acc.length (acc.map byteV)) :
    (convert 97 9 (.slice a n cp)).run Tryz.prog w = .ok (.string ⟨acc.toArray⟩) w := by
  rcases h.2 with ⟨hv, h0⟩ | ⟨g, cap, cur, hv, hb, hg, h1, h2, h3, h4⟩
  · obtain rfl : acc = [] := List.eq_nil_of_length_eq_zero h0
    injection hv with e1 e2 e3
    subst e1 e2 e3
    exact run_convert_nil_bytes w 97 9 5 0 Tryz.underlying97 Tryz.underlying5 Tryz.underlying9
  · injection hv with e1 e2 e3
    subst e1 e2 e3
    have hb' : Blk w g 5 cur := hg
    refine run_convert_bytes_back (P := Tryz.prog) w 97 9 5 ⟨g, 0, none⟩ cp acc Tryz.underlying97 Tryz.underlying5 Tryz.underlying9 (fun j hj => ?_)
    have hadd : (⟨g, 0, none⟩ : Addr).add j = ⟨g, j, none⟩ := by unfold Addr.add; split <;> simp_all
    rw [hadd, hb'.cell, ← Array.getElem?_toList]
    have h5 : (cur.toList.take (acc.length * 1))[j]? = some (byteV acc[j]) := by rw [h4]; simp [hj]
    rw [List.getElem?_take] at h5
    split at h5
    · exact h5
    · cases h5

theorem func_neq (x : Nat) (w : World) : (binOp .neq 398 (.func (.func 357) #[.pointer (some ⟨x, 0, none⟩)] #[]) .nilFunc).run Tryz.prog w = .ok (.bool true) w := by kernel_rfl
theorem nil_neq (w : World) : (binOp .neq 398 .nilFunc .nilFunc).run Tryz.prog w = .ok (.bool false) w := by kernel_rfl

set_option maxRecDepth 100000 in
set_option maxHeartbeats 2000000 in
theorem Scan_calls (s : ByteArray) (i : Int) (w : World) (hs : s.size ≤ 100000000000000) :
    Calls Tryz.prog 279 #[.string s, .int .i64 i] w fun e w' => e = .returned (scanV (scanR s i)) ∧ Below w.heap.size w w' := by
  by_cases h0 : i < 0
  · have hr := hide (scanR_neg s i h0)
    go_enter Tryz.func279, Tryz.ntmps279
    go_wp2
    go_ret3
    exact ⟨by rw [hr.out]; rfl, Below.refl _ _⟩
  by_cases h1 : (s.size : Int) ≤ i
  · have hr := hide (scanR_far s i h1)
    go_enter Tryz.func279, Tryz.ntmps279
    go_wp2
    go_ret3
    exact ⟨by rw [hr.out]; rfl, Below.refl _ _⟩
  obtain ⟨p, rfl⟩ := Int.eq_ofNat_of_zero_le (by omega : 0 ≤ i)
  have hp : p < s.size := by omega
  have h256 := UInt8.toNat_lt s[p]
  by_cases h2 : s[p] = 34
  · have hr := scanR_in s p hp h2
    have hc : ((((s[p].toNat : Nat) : Int)) != 34) = false := by rw [h2]; rfl
    clear h2 h0 h1
    generalize scanR s (p : Int) = R at hr
    have HR := hide hr
    clear hr
    go_enter Tryz.func279, Tryz.ntmps279
    go_wp2
    go_loopw [8, 9] (fun af i wr => ∃ k : Nat, p + 1 ≤ k ∧ k ≤ s.size ∧ i = .int .i64 k ∧ Below w.heap.size w wr ∧ (Running s R w.heap.size k af wr ∨ Done R w.heap.size k af wr)) (fun _ i _ => s.size - (intOf i).toNat)
    case atStart =>
      refine ⟨p + 1, by omega, by omega, by go_num, (Below.refl _ _).alloc (Nat.le_refl _) _, .inl ⟨false, true, [], ⟨_, Blk.new w _ _, World.ownsRow_nil _ _ _ _, _, _, _, rfl⟩, rfl, HR.out.symm, by simp⟩⟩
    case round =>
      obtain ⟨k, hk1, hk2, rfl, hb, hrun⟩ := hrel
      rcases hrun with ⟨esc, o, acc, hS, haf, hF, hal⟩ | ⟨o, acc, hS, rfl, hF, hal⟩
      · have hX := hS.lt
        by_cases hlt : k < s.size
        · have h256k := UInt8.toNat_lt s[k]
          have Hb := hide hb
          have k1 : wr.cell? ⟨w.heap.size, 1, none⟩ = some (.bool false) := by obtain ⟨v, hB, _⟩ := hS; exact hB.cell 1
          have hfn := func_neq
          have hnn := nil_neq
          cases esc
          · have haf2 : _ = Value.nilFunc := haf
            subst haf2
            clear haf
            by_cases hq : s[k] = 34
            · have hE := hide ((goL_quote s k hlt hq o acc).symm.trans hF)
              have H := hide (plain_quote w.heap.size false o acc wr hS)
              have hq' : ((s[k].toNat : Nat) : Int) = 34 := by rw [hq]; rfl
              clear hb hF hS hq
              go_wp2_with (go_at_call 332; refine H.out.mono ?_; rintro e w2 ⟨rfl, hS2, hb2⟩)
              go_roundw
              case rel => exact ⟨k + 1, by omega, by omega, by go_num, Hb.out.trans hb2, .inr ⟨o, acc, hS2, rfl, hE.out, by omega⟩⟩
              case measure => simp [intOf]; omega
            · by_cases hbk : s[k] = 92
              · have hE := hide ((goL_back s k hlt hbk o acc).symm.trans hF)
                have H := hide (plain_back w.heap.size false o acc wr hS)
                have hq' : ((s[k].toNat : Nat) : Int) = 92 := by rw [hbk]; rfl
                clear hb hF hS hq hbk
                go_wp2_with (go_at_call 332; refine H.out.mono ?_; rintro e w2 ⟨rfl, hS2, hb2⟩)
                go_roundw
                case rel => exact ⟨k + 1, by omega, by omega, by go_num, Hb.out.trans hb2, .inl ⟨true, o, acc, hS2, rfl, hE.out, by omega⟩⟩
                case measure => simp [intOf]; omega
              · have hE := hide ((goL_plain s k hlt hq hbk o acc).symm.trans hF)
                have H := hide (plain_calls w.heap.size false o acc s[k] wr hS (by omega) hq hbk)
                clear hb hF hS hq hbk
                go_wp2_with (go_at_call 332; refine H.out.mono ?_; rintro e w2 ⟨rfl, hS2, hb2⟩)
                go_roundw
                case rel => exact ⟨k + 1, by omega, by omega, by go_num, Hb.out.trans hb2, .inl ⟨false, o, acc ++ [s[k]], hS2, rfl, hE.out, by simp; omega⟩⟩
                case measure => simp [intOf]; omega
          · have haf2 : _ = Value.func (.func 357) #[.pointer (some ⟨w.heap.size, 0, none⟩)] #[] := haf
            subst haf2
            clear haf
            have hE := hide ((goL_esc s k hlt o acc).symm.trans hF)
            have H := hide (escaped_calls w.heap.size false o acc s[k] wr hS (by omega))
            clear hb hF hS
            go_wp2_with (go_at_call 357; refine H.out.mono ?_; rintro e w2 ⟨rfl, hS2, hb2⟩)
            go_roundw
            case rel => exact ⟨k + 1, by omega, by omega, by go_num, Hb.out.trans hb2, .inl ⟨false, _, acc ++ [s[k]], hS2, rfl, hE.out, by simp; omega⟩⟩
            case measure => simp [intOf]; omega
        · obtain rfl : k = s.size := by omega
          subst haf
          have hR := hide ((goL_end s s.size (Nat.le_refl _) esc o acc).symm.trans hF)
          obtain ⟨v, hB, hown, a, n, cp, rfl⟩ := hS
          have k1 : wr.cell? ⟨w.heap.size, 1, none⟩ = some (.bool false) := hB.cell 1
          have Hb := hide hb
          clear hB hown hb hF
          go_wp2_with fail
          go_ret3
          exact ⟨by rw [← hR.out]; rfl, Hb.out⟩
      · obtain ⟨v, hB, hown, a, n, cp, rfl⟩ := hS
        have k0 : wr.cell? ⟨w.heap.size, 0, none⟩ = some (.slice a n cp) := hB.cell 0
        have k1 : wr.cell? ⟨w.heap.size, 1, none⟩ = some (.bool true) := hB.cell 1
        have k2 : wr.cell? ⟨w.heap.size, 2, none⟩ = some (.bool o) := hB.cell 2
        have hX := hB.lt
        have hstr := scanner_string hown
        have Hown := hide hown
        have Hb := hide hb
        have HF := hide hF
        clear hB hown hb hF
        cases o
        · have hR : Hid (R = badR) := HF.out.symm
          by_cases hlt : k < s.size
          all_goals
            go_wp2_with fail
            go_ret3
            exact ⟨by rw [hR.out]; rfl, Hb.out⟩
        · cases hv : validL acc
          · have hR : Hid (R = badR) := by have h3 := HF.out; rw [okR, hv] at h3; exact h3.symm
            have hV : Hid (validS ⟨acc.toArray⟩ = false) := hv
            clear hv
            by_cases hlt : k < s.size
            all_goals
              go_wp2_with (go_at_call 181; refine (Valid_calls _ _).mono ?_; rintro e w2 ⟨rfl, hb2⟩; rw [hV.out])
              go_ret3
              exact ⟨by rw [hR.out]; rfl, Hb.out.trans (hb2.mono (by omega))⟩
          · have hR : Hid (R = (acc, k, 0)) := by have h3 := HF.out; rw [okR, hv] at h3; exact h3.symm
            have hV : Hid (validS ⟨acc.toArray⟩ = true) := hv
            clear hv
            by_cases hlt : k < s.size
            all_goals
              go_wp2_with (go_at_call 181; refine (Valid_calls _ _).mono ?_; rintro e w2 ⟨rfl, hb2⟩; rw [hV.out]; have q0 : w2.cell? ⟨w.heap.size, 0, none⟩ = some (.slice a n cp) := (hb2.cell (p := ⟨w.heap.size, 0, none⟩) hX).trans k0; have hstr2 := scanner_string (own_below Hown.out hb2))
              go_ret3
              exact ⟨by rw [hR.out]; rfl, Hb.out.trans (hb2.mono (by omega))⟩
  · have hr := hide (scanR_other s p hp h2)
    have hc : ((((s[p].toNat : Nat) : Int)) != 34) = true := by
      have := mt (byte_of s[p] 34 (by omega)).1 h2
      simp; omega
    clear h2
    go_enter Tryz.func279, Tryz.ntmps279
    go_wp2
    go_ret3
    exact ⟨by rw [hr.out]; rfl, Below.refl _ _⟩
end Go.Proofs.YtcnihmlmaigkdaaGreatDoor
