/- The example of the chapter holds; the laws NameQuotes and NameScans are walked. -/
import Derived.Test.YtgjdhndlbhbjhaaGreatNmScanTop
import Derived.Test.YtgjdhndlbhbjhaaGreatReplNew
namespace Go.Proofs.YtgjdhndlbhbjhaaGreat
open Go.RowKit Go.Lib

theorem ex_scan : scanV (scanR ⟨#[120, 34, 97, 92, 34, 98, 34, 59]⟩ 1) = .tuple #[.string ⟨#[97, 34, 98]⟩, .int .i64 7, .int .i64 0] := by
  have h : scanR ⟨#[120, 34, 97, 92, 34, 98, 34, 59]⟩ 1 = ([97, 34, 98], 7, 0) := by decide +kernel
  rw [h]; rfl
theorem ex_quote : quoteS ⟨#[97, 34, 98]⟩ = ⟨#[34, 97, 92, 34, 98, 34]⟩ := by
  have h : validS ⟨#[97, 34, 98]⟩ = true := by decide +kernel
  rw [quoteS_yes _ h]; rfl
theorem ex_valid : validS ⟨#[97, 32, 98]⟩ = true := by decide +kernel

set_option maxHeartbeats 1000000 in
theorem alive_calls (w : World) : Calls Tryz.prog 4 #[] w fun e w' => e = .returned (.bool true) ∧ Below w.heap.size w w' := by
  have h1 := hide ex_scan
  have h2 := hide ex_quote
  have h3 := hide ex_valid
  go_enter Tryz.func4, Tryz.ntmps4
  go_wp2_with (first
    | (go_at_call 8; refine (Scan_calls _ _ _ (by decide)).mono ?_; rintro e w1 ⟨rfl, hb1⟩; rw [h1.out])
    | (go_at_call 9; refine (Quote_calls _ _).mono ?_; rintro e w2 ⟨rfl, hb2⟩; rw [h2.out])
    | (go_at_call 10; refine (Valid_calls _ _).mono ?_; rintro e w3 ⟨rfl, hb3⟩; rw [h3.out]))
  go_ret
  exact ⟨rfl, (hb1.trans (hb2.mono hb1.size)).trans (hb3.mono (hb1.trans (hb2.mono hb1.size)).size)⟩

end Go.Proofs.YtgjdhndlbhbjhaaGreat
