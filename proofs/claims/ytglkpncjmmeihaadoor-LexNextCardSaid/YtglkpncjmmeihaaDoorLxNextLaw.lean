/- The walk of the law LexNext (chapter 06). -/
import Derived.Test.YtglkpncjmmeihaaDoorLxSame
import Derived.Test.YtglkpncjmmeihaaDoorLxNextFn
import Derived.OpenShut
namespace Go.Proofs.YtglkpncjmmeihaaDoor
open Go.RowKit Go.Lib

theorem fblk_made (w2 : World) (T F : Array Value) : Blk ((w2.alloc (.cells T 37)).alloc (.cells F 26)) (w2.heap.size + 1) 26 F := by
  have h0 := Blk.new (w2.alloc (.cells T 37)) 26 F
  simpa using h0
theorem rtok_eql (k k2 v v2 i i2 j j2 : Int) (x x2 : ByteArray) (w : World) : (binOp .eql 38 (.agg #[.int .i64 k, .string x, .int .u64 v, .int .i64 i, .int .i64 j]) (.agg #[.int .i64 k2, .string x2, .int .u64 v2, .int .i64 i2, .int .i64 j2])).run Tryd.prog w = .ok (.bool (k == k2 && (x.toList == x2.toList && (v == v2 && (i == i2 && j == j2))))) w := by
  have hf : Tryd.prog.underlying 38 = some (.struct (Tryd.prog.fieldsOf 38)) := by kernel_rfl
  have hp : Tryd.prog.stoodInHeld 38 = false := by kernel_rfl
  rw [run_eql_struct, run_equalIn_agg w 9999 _ _ _ hf hp]
  unfold Program.fieldsOf
  rw [Tryd.underlying38]
  simp [Op.eqFields, part, run_equalIn_int, run_equalIn_string]
  by_cases h1 : k = k2 <;> by_cases h2 : x.toList = x2.toList <;> by_cases h3 : v = v2 <;> by_cases h4 : i = i2 <;> by_cases h5 : j = j2 <;> simp [h1, h2, h3, h4, h5]
theorem rtok_guard2 (x y : Operand) (xs ys : Array Value) (w : World) : (eqGuard .eql 38 x y (.agg xs) (.agg ys)).run Tryd.prog w = .ok () w :=
  run_eqGuard_agg w _ _ _ _ _ _ (by kernel_rfl)

set_option maxHeartbeats 4000000 in
theorem LexNext_calls (s : ByteArray) (a : Int) (ha : (Lit.int .u16 a).wf = true) (w : World) (hv : Vars w) :
    Calls Tryd.prog 6 #[.string s, .int .u16 a] w fun e w' => e = .returned (.bool true) ∧ Below w.heap.size w w' := by
  have HV := hide hv
  have hab := bounds_u16 ha
  by_cases hs : s.size ≤ 2000
  · obtain ⟨n, rfl⟩ : ∃ n : Nat, a = (n : Int) := ⟨a.toNat, by omega⟩
    obtain ⟨hab1, hab2⟩ := hab
    obtain ⟨k, hk⟩ : ∃ k, k = n % (s.size + 1) := ⟨_, rfl⟩
    have hks : k ≤ s.size := by rw [hk]; have h9 : n % (s.size + 1) < s.size + 1 := Nat.mod_lt _ (by omega); omega
    have hrem : ((n : Int)).tmod ((s.size : Int) + 1) = (k : Int) := by rw [hk]; rfl
    have hrem2 : ((n : Int)) % ((s.size : Int) + 1) = (k : Int) := by rw [hk]; rfl
    have hP := fun W => Place_calls s (k : Int) (WalkArith.wf_i64 (by omega)) (by omega) W
    have hpv : placeV s (k : Int) = placeAt s k := by unfold placeV; rw [if_pos (by omega)]; rfl
    unfold PlaceV at hP
    rw [hpv] at hP
    have h1 := fun W hV => NextFn_calls s k hks (by omega) W hV
    have h2 := fun W => RefNext_calls s k hks (by omega) W
    have fg := fun x y xs ys W => fault_guard2 x y xs ys W
    have tg := fun x y xs ys W => tok_guard x y xs ys W
    have rg := fun x y xs ys W => rtok_guard2 x y xs ys W
    have hpl := placeAt_le s k hks
    obtain ⟨K1, hK1⟩ : ∃ q, q = (placeAt s k).1 := ⟨_, rfl⟩
    obtain ⟨K2, hK2⟩ : ∃ q, q = (placeAt s k).2 := ⟨_, rfl⟩
    rw [← hK1, ← hK2] at hP h1 hpl
    obtain ⟨hpl1, hpl2⟩ := hpl
    obtain ⟨J, hJ⟩ : ∃ J, J = skipAt s k := ⟨_, rfl⟩
    rw [← hJ] at h1 h2
    obtain ⟨PL, hPL⟩ : ∃ n, n = (placeAt s J).1 := ⟨_, rfl⟩
    obtain ⟨PC, hPC⟩ : ∃ n, n = (placeAt s J).2 := ⟨_, rfl⟩
    have HP := hide hP
    cases hT : tokAt s J with
    | bad code =>
      have hc0 := tokAt_code s J code hT
      have hcn : ((code : Int) != 0) = true := by simp; omega
      rw [hT] at h1 h2
      unfold NextFnT at h1
      unfold RefNextT at h2
      simp only at h1 h2
      rw [← hPL, ← hPC] at h1 h2
      have H1 : Hid (∀ W, Vars W → Calls Tryd.prog 14 #[.string s, .int .i64 (k : Int), .int .i64 (K1 : Int), .int .i64 (K2 : Int)] W fun e w' => Below W.heap.size W w' ∧ e = .returned (.tuple #[.agg #[.int .i64 0, .string ⟨#[]⟩, .int .u64 0, .int .i64 0, .int .i64 0], .int .i64 0, .agg #[.int .i64 (code : Int), .int .i64 (PL : Int), .int .i64 (PC : Int)]])) := hide h1
      have H2 : Hid (∀ W, Calls Tryd.prog 15 #[.string s, .int .i64 (k : Int)] W fun e w' => Below W.heap.size W w' ∧ e = .returned (.tuple #[.agg #[.int .i64 0, .string ⟨#[]⟩, .int .u64 0, .int .i64 (PL : Int), .int .i64 (PC : Int)], .int .i64 0, .int .i64 (code : Int)])) := hide h2
      have fe := fun W => fault_eql code PL PC code PL PC W
      have nb : ((code : Int) == code && ((PL : Int) == PL && (PC : Int) == PC)) = true := by simp
      rw [nb] at fe
      have te := fun W => tok_eql 0 0 0 0 0 0 0 0 ⟨#[]⟩ ⟨#[]⟩ W
      clear h1 h2 hP hpv hT hPL hPC hJ hK1 hK2 hc0 nb hv hk ha
      go_enter Tryd.func6, Tryd.ntmps6
      go_wp2_with (first
        | (go_at_call 12; refine (HP.out _).mono ?_; rintro e w1 ⟨rfl, rfl⟩)
        | (go_at_call 14; refine (H1.out _ HV.out).mono ?_; rintro e w2 ⟨hb2, rfl⟩; have HB2 := hide ((hb2.alloc hb2.size (.cells #[.int .i64 0, .string ⟨#[]⟩, .int .u64 0, .int .i64 0, .int .i64 0] 37)).alloc (by have := hb2.size; simp; omega) (.cells #[.int .i64 (code : Int), .int .i64 (PL : Int), .int .i64 (PC : Int)] 26)); have HT2 := hide ((Blk.new w2 37 #[.int .i64 0, .string ⟨#[]⟩, .int .u64 0, .int .i64 0, .int .i64 0]).alloc (.cells #[.int .i64 (code : Int), .int .i64 (PL : Int), .int .i64 (PC : Int)] 26)); have HF2 := hide (fblk_made w2 #[.int .i64 0, .string ⟨#[]⟩, .int .u64 0, .int .i64 0, .int .i64 0] #[.int .i64 (code : Int), .int .i64 (PL : Int), .int .i64 (PC : Int)]); clear hb2)
        | (go_at_call 15; refine (H2.out _).mono ?_; rintro e w3 ⟨hbx, rfl⟩; have HB3 := hide ((HB2.out.trans (hbx.mono HB2.out.size)).alloc (Nat.le_trans HB2.out.size hbx.size) (.cells #[.int .i64 0, .string ⟨#[]⟩, .int .u64 0, .int .i64 (PL : Int), .int .i64 (PC : Int)] 38)); have HT3 := hide ((HT2.out.below hbx HT2.out.lt).alloc (.cells #[.int .i64 0, .string ⟨#[]⟩, .int .u64 0, .int .i64 (PL : Int), .int .i64 (PC : Int)] 38)); have HF3 := hide ((HF2.out.below hbx HF2.out.lt).alloc (.cells #[.int .i64 0, .string ⟨#[]⟩, .int .u64 0, .int .i64 (PL : Int), .int .i64 (PC : Int)] 38)); have HR3 := hide (Blk.new w3 38 #[.int .i64 0, .string ⟨#[]⟩, .int .u64 0, .int .i64 (PL : Int), .int .i64 (PC : Int)]); clear hbx)
        | (go_at_call 7; refine (alive_calls _ (HV.out.below HB3.out)).mono ?_; rintro e w4 ⟨rfl, hbx⟩; have HB4 := hide (HB3.out.trans (hbx.mono HB3.out.size)); have hT := HT3.out.below hbx HT3.out.lt; have hF := HF3.out.below hbx HF3.out.lt; have hR := HR3.out.below hbx HR3.out.lt; have t0 : w4.cell? ⟨w2.heap.size, 0, none⟩ = some (.int .i64 0) := hT.cell 0; have t1 : w4.cell? ⟨w2.heap.size, 1, none⟩ = some (.string ⟨#[]⟩) := hT.cell 1; have t2 : w4.cell? ⟨w2.heap.size, 2, none⟩ = some (.int .u64 0) := hT.cell 2; have t3 : w4.cell? ⟨w2.heap.size, 3, none⟩ = some (.int .i64 0) := hT.cell 3; have t4 : w4.cell? ⟨w2.heap.size, 4, none⟩ = some (.int .i64 0) := hT.cell 4; have f0 : w4.cell? ⟨w2.heap.size + 1, 0, none⟩ = some (.int .i64 (code : Int)) := hF.cell 0; have f1 : w4.cell? ⟨w2.heap.size + 1, 1, none⟩ = some (.int .i64 (PL : Int)) := hF.cell 1; have f2 : w4.cell? ⟨w2.heap.size + 1, 2, none⟩ = some (.int .i64 (PC : Int)) := hF.cell 2; have r0 : w4.cell? ⟨w3.heap.size, 0, none⟩ = some (.int .i64 0) := hR.cell 0; have r1 : w4.cell? ⟨w3.heap.size, 1, none⟩ = some (.string ⟨#[]⟩) := hR.cell 1; have r2 : w4.cell? ⟨w3.heap.size, 2, none⟩ = some (.int .u64 0) := hR.cell 2; have r3 : w4.cell? ⟨w3.heap.size, 3, none⟩ = some (.int .i64 (PL : Int)) := hR.cell 3; have r4 : w4.cell? ⟨w3.heap.size, 4, none⟩ = some (.int .i64 (PC : Int)) := hR.cell 4; clear hbx hT hF hR))
      go_ret
      exact ⟨rfl, HB4.out⟩
    | tok kind text v stop =>
      rw [hT] at h1 h2
      unfold NextFnT at h1
      unfold RefNextT at h2
      simp only at h1 h2
      rw [← hPL, ← hPC] at h1 h2
      obtain ⟨x, hx⟩ : ∃ x : ByteArray, x = ⟨text.toArray⟩ := ⟨_, rfl⟩
      rw [← hx] at h1 h2
      have H1 : Hid (∀ W, Vars W → Calls Tryd.prog 14 #[.string s, .int .i64 (k : Int), .int .i64 (K1 : Int), .int .i64 (K2 : Int)] W fun e w' => Below W.heap.size W w' ∧ e = .returned (.tuple #[.agg #[.int .i64 (kind : Int), .string x, .int .u64 (v : Int), .int .i64 (PL : Int), .int .i64 (PC : Int)], .int .i64 (stop : Int), .agg #[.int .i64 0, .int .i64 0, .int .i64 0]])) := hide h1
      have H2 : Hid (∀ W, Calls Tryd.prog 15 #[.string s, .int .i64 (k : Int)] W fun e w' => Below W.heap.size W w' ∧ e = .returned (.tuple #[.agg #[.int .i64 (kind : Int), .string x, .int .u64 (v : Int), .int .i64 (PL : Int), .int .i64 (PC : Int)], .int .i64 (stop : Int), .int .i64 0])) := hide h2
      have fe := fun W => fault_eql 0 0 0 0 0 0 W
      have nb : ((0 : Int) == 0 && ((0 : Int) == 0 && (0 : Int) == 0)) = true := by rfl
      rw [nb] at fe
      have re := fun W => rtok_eql kind kind v v PL PL PC PC x x W
      have nr : ((kind : Int) == kind && (x.toList == x.toList && ((v : Int) == v && ((PL : Int) == PL && (PC : Int) == PC)))) = true := by simp
      rw [nr] at re
      clear h1 h2 hP hpv hT hPL hPC hJ hK1 hK2 nb nr hv hk ha hx
      go_enter Tryd.func6, Tryd.ntmps6
      go_wp2_with (first
        | (go_at_call 12; refine (HP.out _).mono ?_; rintro e w1 ⟨rfl, rfl⟩)
        | (go_at_call 14; refine (H1.out _ HV.out).mono ?_; rintro e w2 ⟨hb2, rfl⟩; have HB2 := hide ((hb2.alloc hb2.size (.cells #[.int .i64 (kind : Int), .string x, .int .u64 (v : Int), .int .i64 (PL : Int), .int .i64 (PC : Int)] 37)).alloc (by have := hb2.size; simp; omega) (.cells #[.int .i64 0, .int .i64 0, .int .i64 0] 26)); have HT2 := hide ((Blk.new w2 37 #[.int .i64 (kind : Int), .string x, .int .u64 (v : Int), .int .i64 (PL : Int), .int .i64 (PC : Int)]).alloc (.cells #[.int .i64 0, .int .i64 0, .int .i64 0] 26)); have HF2 := hide (fblk_made w2 #[.int .i64 (kind : Int), .string x, .int .u64 (v : Int), .int .i64 (PL : Int), .int .i64 (PC : Int)] #[.int .i64 0, .int .i64 0, .int .i64 0]); clear hb2)
        | (go_at_call 15; refine (H2.out _).mono ?_; rintro e w3 ⟨hbx, rfl⟩; have HB3 := hide ((HB2.out.trans (hbx.mono HB2.out.size)).alloc (Nat.le_trans HB2.out.size hbx.size) (.cells #[.int .i64 (kind : Int), .string x, .int .u64 (v : Int), .int .i64 (PL : Int), .int .i64 (PC : Int)] 38)); have HT3 := hide ((HT2.out.below hbx HT2.out.lt).alloc (.cells #[.int .i64 (kind : Int), .string x, .int .u64 (v : Int), .int .i64 (PL : Int), .int .i64 (PC : Int)] 38)); have HF3 := hide ((HF2.out.below hbx HF2.out.lt).alloc (.cells #[.int .i64 (kind : Int), .string x, .int .u64 (v : Int), .int .i64 (PL : Int), .int .i64 (PC : Int)] 38)); have HR3 := hide (Blk.new w3 38 #[.int .i64 (kind : Int), .string x, .int .u64 (v : Int), .int .i64 (PL : Int), .int .i64 (PC : Int)]); clear hbx)
        | (go_at_call 7; refine (alive_calls _ (HV.out.below HB3.out)).mono ?_; rintro e w4 ⟨rfl, hbx⟩; have HB4 := hide (HB3.out.trans (hbx.mono HB3.out.size)); have hT := HT3.out.below hbx HT3.out.lt; have hF := HF3.out.below hbx HF3.out.lt; have hR := HR3.out.below hbx HR3.out.lt; have t0 : w4.cell? ⟨w2.heap.size, 0, none⟩ = some (.int .i64 (kind : Int)) := hT.cell 0; have t1 : w4.cell? ⟨w2.heap.size, 1, none⟩ = some (.string x) := hT.cell 1; have t2 : w4.cell? ⟨w2.heap.size, 2, none⟩ = some (.int .u64 (v : Int)) := hT.cell 2; have t3 : w4.cell? ⟨w2.heap.size, 3, none⟩ = some (.int .i64 (PL : Int)) := hT.cell 3; have t4 : w4.cell? ⟨w2.heap.size, 4, none⟩ = some (.int .i64 (PC : Int)) := hT.cell 4; have f0 : w4.cell? ⟨w2.heap.size + 1, 0, none⟩ = some (.int .i64 0) := hF.cell 0; have f1 : w4.cell? ⟨w2.heap.size + 1, 1, none⟩ = some (.int .i64 0) := hF.cell 1; have f2 : w4.cell? ⟨w2.heap.size + 1, 2, none⟩ = some (.int .i64 0) := hF.cell 2; have r0 : w4.cell? ⟨w3.heap.size, 0, none⟩ = some (.int .i64 (kind : Int)) := hR.cell 0; have r1 : w4.cell? ⟨w3.heap.size, 1, none⟩ = some (.string x) := hR.cell 1; have r2 : w4.cell? ⟨w3.heap.size, 2, none⟩ = some (.int .u64 (v : Int)) := hR.cell 2; have r3 : w4.cell? ⟨w3.heap.size, 3, none⟩ = some (.int .i64 (PL : Int)) := hR.cell 3; have r4 : w4.cell? ⟨w3.heap.size, 4, none⟩ = some (.int .i64 (PC : Int)) := hR.cell 4; clear hbx hT hF hR))
      go_ret
      exact ⟨rfl, HB4.out⟩
  · have hs1 : (2000 : Int) < (s.size : Int) := by omega
    clear hv
    go_enter Tryd.func6, Tryd.ntmps6
    go_wp2_with (go_at_call 7; refine (alive_calls _ HV.out).mono ?_; rintro e w4 ⟨rfl, hb4⟩)
    go_ret
    exact ⟨rfl, hb4⟩
end Go.Proofs.YtglkpncjmmeihaaDoor
