/- The walk of the law LexPlaces (chapter 06). -/
import Derived.Test.YtglkpncjmmeihaaDoorLxAlive
import Derived.Test.YtglkpncjmmeihaaDoorLxPlace
import Derived.Test.YtglkpncjmmeihaaDoorNuLaid
namespace Go.Proofs.YtglkpncjmmeihaaDoor
open Go.RowKit Go.Lib

set_option maxHeartbeats 1000000 in
theorem LexPlaces_calls (s : ByteArray) (a : Int) (ha : (Lit.int .i64 a).wf = true) (w : World) (hv : Vars w) :
    Calls Tryd.prog 5 #[.string s, .int .i64 a] w fun e w' => e = .returned (.bool true) ∧ Below w.heap.size w w' := by
  have HV := hide hv
  clear hv
  by_cases hs : s.size ≤ 2000
  · have h1 := fun W => Place_calls s a ha (by omega) W
    have h2 := fun W => RefPlace_calls s a ha (by omega) W
    unfold PlaceV at h1 h2
    have H1 := hide h1
    have H2 := hide h2
    clear h1 h2
    go_enter Tryd.func5, Tryd.ntmps5
    go_wp2_with (first
      | (go_at_call 12; refine (H1.out _).mono ?_; rintro e w2 ⟨rfl, hb2⟩)
      | (go_at_call 13; refine (H2.out _).mono ?_; rintro e w3 ⟨rfl, hbx⟩; have hb3 := hb2.trans (hbx.mono hb2.size); clear hbx)
      | (go_at_call 7; refine (alive_calls _ (HV.out.below hb3)).mono ?_; rintro e w4 ⟨rfl, hbx⟩; have hb4 := hb3.trans (hbx.mono hb3.size); clear hbx))
    go_ret
    exact ⟨rfl, hb4⟩
  · have hs1 : (2000 : Int) < (s.size : Int) := by omega
    go_enter Tryd.func5, Tryd.ntmps5
    go_wp2_with (go_at_call 7; refine (alive_calls _ HV.out).mono ?_; rintro e w4 ⟨rfl, hb4⟩)
    go_ret
    exact ⟨rfl, hb4⟩
end Go.Proofs.YtglkpncjmmeihaaDoor
