/- The example of the chapter holds; the laws NameQuotes and NameScans are walked. -/
import Derived.Test.YtjmbpnakifefeaaNmScanTop
import Derived.Test.YtjmbpnakifefeaaReplNew
namespace Go.Proofs.Ytjmbpnakifefeaa
open Go.RowKit Go.Lib

theorem ex_scan : scanV (scanR ⟨#[120, 34, 97, 92, 34, 98, 34, 59]⟩ 1) = .tuple #[.string ⟨#[97, 34, 98]⟩, .int .i64 7, .int .i64 0] := by
  have h : scanR ⟨#[120, 34, 97, 92, 34, 98, 34, 59]⟩ 1 = ([97, 34, 98], 7, 0) := by decide +kernel
  rw [h]; rfl
theorem ex_quote : quoteS ⟨#[97, 34, 98]⟩ = ⟨#[34, 97, 92, 34, 98, 34]⟩ := by
  have h : validS ⟨#[97, 34, 98]⟩ = true := by decide +kernel
  rw [quoteS_yes _ h]; rfl
theorem ex_valid : validS ⟨#[97, 32, 98]⟩ = true := by decide +kernel

set_option maxHeartbeats 1000000 in
theorem alive_calls (w : World) : Calls Try.prog 8 #[] w fun e w' => e = .returned (.bool true) ∧ Below w.heap.size w w' := by
  have h1 := hide ex_scan
  have h2 := hide ex_quote
  have h3 := hide ex_valid
  go_enter Try.func8, Try.ntmps8
  go_wp2_with (first
    | (go_at_call 13; refine (Scan_calls _ _ _ (by decide)).mono ?_; rintro e w1 ⟨rfl, hb1⟩; rw [h1.out])
    | (go_at_call 11; refine (Quote_calls _ _).mono ?_; rintro e w2 ⟨rfl, hb2⟩; rw [h2.out])
    | (go_at_call 9; refine (Valid_calls _ _).mono ?_; rintro e w3 ⟨rfl, hb3⟩; rw [h3.out]))
  go_ret
  exact ⟨rfl, (hb1.trans (hb2.mono hb1.size)).trans (hb3.mono (hb1.trans (hb2.mono hb1.size)).size)⟩

/-- 'x == y' on one string. -/
theorem NameQuotes_calls (s : ByteArray) (w : World) :
    Calls Try.prog 3 #[.string s] w fun e w' => e = .returned (.bool true) ∧ Below w.heap.size w w' := by
  by_cases h : (s.size : Int) ≤ 1000
  · go_enter Try.func3, Try.ntmps3
    go_wp2_with (first
      | (go_at_call 8; refine (alive_calls _).mono ?_; rintro e w1 ⟨rfl, hb1⟩)
      | (go_at_call 9; refine (Valid_calls _ _).mono ?_; rintro e w2 ⟨rfl, hb2⟩)
      | (go_at_call 10; refine (RefValid_calls _ _ (by omega)).mono ?_; rintro e w3 ⟨rfl, rfl⟩)
      | (go_at_call 11; refine (Quote_calls _ _).mono ?_; rintro e w4 ⟨rfl, hb4⟩)
      | (go_at_call 12; refine (RefQuote_calls _ _ (by omega)).mono ?_; rintro e w5 ⟨rfl, rfl⟩))
    have h2 := hb1.trans (hb2.mono hb1.size)
    go_ret
    exact ⟨rfl, h2.trans (hb4.mono h2.size)⟩
  · go_enter Try.func3, Try.ntmps3
    go_wp2_with (go_at_call 8; refine (alive_calls _).mono ?_; rintro e w1 ⟨rfl, hb1⟩)
    go_ret
    exact ⟨rfl, hb1⟩

theorem NameScans_calls (s : ByteArray) (i : Int) (w : World) :
    Calls Try.prog 4 #[.string s, .int .i64 i] w fun e w' => e = .returned (.bool true) ∧ Below w.heap.size w w' := by
  by_cases h : (s.size : Int) ≤ 1000
  · go_enter Try.func4, Try.ntmps4
    go_wp2_with (first
      | (go_at_call 8; refine (alive_calls _).mono ?_; rintro e w1 ⟨rfl, hb1⟩)
      | (go_at_call 13; refine (Scan_calls _ _ _ (by omega)).mono ?_; rintro e w2 ⟨rfl, hb2⟩; rw [scanV])
      | (go_at_call 14; refine (RefScan_calls _ _ _ (by omega)).mono ?_; rintro e w3 ⟨rfl, rfl⟩; rw [scanV]))
    go_ret
    exact ⟨rfl, hb2.trans (hb1.mono hb2.size)⟩
  · go_enter Try.func4, Try.ntmps4
    go_wp2_with (go_at_call 8; refine (alive_calls _).mono ?_; rintro e w1 ⟨rfl, hb1⟩)
    go_ret
    exact ⟨rfl, hb1⟩
end Go.Proofs.Ytjmbpnakifefeaa
