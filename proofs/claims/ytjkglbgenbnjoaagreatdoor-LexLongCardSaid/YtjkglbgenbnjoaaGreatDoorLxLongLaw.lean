/- The walk of the law LexLong (chapter 06). -/
import Derived.Test.YtjkglbgenbnjoaaGreatDoorLxLongSpec
import Derived.Test.YtjkglbgenbnjoaaGreatDoorLxRefNext
import Derived.Test.YtjkglbgenbnjoaaGreatDoorLxAlive
import Derived.Test.YtjkglbgenbnjoaaGreatDoorShelf
import Derived.Deep.RegionWith
import Derived.OpenShut
namespace Go.Proofs.YtjkglbgenbnjoaaGreatDoor
open Go.RowKit Go.Lib
set_option linter.unusedVariables false

theorem tokAt_bad (s : ByteArray) (k c : Nat) (h : tokAt s k = .bad c) : c = 3 ∨ c = 5 ∨ c = 6 := by
  unfold tokAt at h
  split at h
  · cases h
  · split at h
    · cases h
    · split at h
      · split at h
        · cases h
        · injection h with h; omega
      · split at h
        · split at h
          · cases h
          · injection h with h; omega
        · split at h
          · cases h
          · injection h with h; omega
theorem toks_bad (s : ByteArray) : ∀ (f k c i j : Nat), toks s f k = .bad c i j → c = 3 ∨ c = 5 ∨ c = 6 := by
  intro f
  induction f with
  | zero => intro k c i j h; cases h
  | succ f ih =>
    intro k c i j h
    rw [toks] at h
    cases hT : tokAt s (skipAt s k) with
    | bad e =>
      rw [hT] at h
      injection h with h1 h2 h3
      subst h1
      exact tokAt_bad _ _ _ hT
    | tok kind text v stop =>
      rw [hT] at h
      simp only at h
      by_cases h0 : kind = 0
      · rw [if_pos h0] at h; cases h
      · rw [if_neg h0] at h
        cases hr : toks s f stop with
        | ok l => rw [hr] at h; cases h
        | bad e i2 j2 =>
          rw [hr] at h
          injection h with h1 h2 h3
          subst h1
          exact ih _ _ _ _ hr
/-- What Tokens hands back for a long text: whatever it is, its code is the byte's own. -/
def LongV (K : Nat) (c : UInt8) (w : World) (e : Ending) (w' : World) : Prop :=
  Below w.heap.size w w' ∧ ∃ (v : Option Addr) (n cap cd i j : Nat), e = .returned (.tuple #[.slice v n cap, .agg (faultC cd i j)]) ∧
    ((1048576 ≤ K ∧ n = 0 ∧ cd = 2 ∧ i = 0 ∧ j = 0) ∨ (K < 1048576 ∧ cd = codeOf c ∧ (cd = 0 → i = 0 ∧ j = 0)))
theorem long_calls (K : Nat) (c : UInt8) (w : World) (hv : Vars w) : Calls Tryz.prog 5 #[.string ((⟨(Lib.repeatL [32] K).toArray⟩ : ByteArray) ++ ⟨#[c]⟩)] w (LongV K c w) := by
  rw [join_sp]
  have h := Tokens_calls (spN K c) w hv
  refine h.mono ?_
  intro e w' hT
  obtain ⟨hb, hT⟩ := hT
  refine ⟨hb, ?_⟩
  by_cases hK : 1048576 ≤ K
  · have ho : outOf (spN K c) = .bad 2 0 0 := by unfold outOf; rw [if_neg (by rw [spN_size]; omega)]
    rw [ho] at hT
    exact ⟨none, 0, 0, 2, 0, 0, hT, .inl ⟨hK, rfl, rfl, rfl, rfl⟩⟩
  · have ho : outOf (spN K c) = toks (spN K c) (K + 2) 0 := by unfold outOf; rw [if_pos (by rw [spN_size]; omega), spN_size]
    have hc := code_long K c
    rw [ho] at hT
    cases ht : toks (spN K c) (K + 2) 0 with
    | ok l =>
      rw [ht] at hT hc
      obtain ⟨v, rfl, hown⟩ := hT
      obtain ⟨a, cap, rfl⟩ := own_slice5 hown
      exact ⟨a, l.length, cap, 0, 0, 0, rfl, .inr ⟨by omega, hc, fun _ => ⟨rfl, rfl⟩⟩⟩
    | bad cd i j =>
      rw [ht] at hT hc
      have hne := toks_bad _ _ _ _ _ _ ht
      exact ⟨none, 0, 0, cd, i, j, hT, .inr ⟨by omega, hc, fun h0 => by omega⟩⟩
/-- What the reference's Next hands back: the byte's own code. -/
def OneV (c : UInt8) (w : World) (e : Ending) (w' : World) : Prop :=
  Below w.heap.size w w' ∧ ∃ (kind v l k : Nat) (x : ByteArray) (stop : Nat), e = .returned (.tuple #[.agg (tokC kind x v l k), .int .i64 (stop : Int), .int .i64 (codeOf c : Int)])
theorem one_calls (c : UInt8) (w : World) : Calls Tryz.prog 7 #[.string ⟨#[c]⟩, .int .i64 0] w (OneV c w) := by
  have h := RefNext_calls ⟨#[c]⟩ 0 (Nat.zero_le _) (by show 1 ≤ _; omega) w
  refine Calls.mono h ?_
  intro e w' hT
  obtain ⟨hb, hT⟩ := hT
  refine ⟨hb, ?_⟩
  unfold codeOf oneB
  cases ht : tokAt ⟨#[c]⟩ (skipAt ⟨#[c]⟩ 0) with
  | bad cd => rw [ht] at hT; exact ⟨_, _, _, _, _, _, hT⟩
  | tok kind text v stop => rw [ht] at hT; exact ⟨_, _, _, _, _, _, hT⟩
/-- The bytes of a slice built of one byte, as a string. -/
theorem conv_one (c : UInt8) (W : World) (B cap : Nat) (h : W.cell? ⟨B, 0, none⟩ = some (.int .u8 (c.toNat : Int))) :
    (convert 23 9 (.slice (some ⟨B, 0, none⟩) 1 cap)).run Tryz.prog W = .ok (.string ⟨#[c]⟩) W :=
  run_convert_bytes_back W 23 9 5 ⟨B, 0, none⟩ cap [c] Tryz.underlying23 Tryz.underlying5 Tryz.underlying9 (fun j hj => by
    have : j = 0 := by simp at hj; omega
    subst this
    exact h)
set_option maxRecDepth 100000 in
set_option maxHeartbeats 8000000 in
theorem LexLong_hi (m : Nat) (hm : m < 256) (c : UInt8) (w : World) (hv : Vars w) (hh : (m : Int) % 3 - 1 = 1) :
    Calls Tryz.prog 3 #[.int .u8 (m : Int), .int .u8 (c.toNat : Int)] w fun e w' => e = .returned (.bool true) ∧ Below w.heap.size w w' := by
  have HV := hide hv
  have hc8 := UInt8.toNat_lt c
  obtain ⟨n5, hn5⟩ : ∃ n5 : Int, n5 = (m : Int) % 3 - 1 := ⟨_, rfl⟩
  have hn1 : -1 ≤ n5 := by omega
  have hn2 : n5 ≤ 1 := by omega
  obtain ⟨K, hK⟩ : ∃ K : Nat, 1048576 + n5 - 1 = (K : Int) := ⟨(1048576 + n5 - 1).toNat, by omega⟩
  have hs1 : (⟨#[32]⟩ : ByteArray).size = 1 := rfl
  have HREP := hide (fun W => Tryz.strings_Repeat ⟨#[32]⟩ K W (by omega) (by rw [hs1]; omega))
  have hw0 : IntKind.i64.wrap (1048576 + n5) = 1048576 + n5 := by rw [IntKind.wrap_i64]; omega
  have hw1 : IntKind.i64.wrap (K : Int) = (K : Int) := by rw [IntKind.wrap_i64]; omega
  have hgt : (0 : Int) < n5 := by omega
  have hgd : decide ((0 : Int) < n5) = true := by simpa using hgt
  have nb : ((2 : Int) == 2 && ((0 : Int) == 0 && (0 : Int) == 0)) = true := by rfl
  have HL : Hid (∀ W, Vars W → Calls Tryz.prog 5 #[.string ((⟨(Lib.repeatL [32] K).toArray⟩ : ByteArray) ++ ⟨#[c]⟩)] W fun e w' => Below W.heap.size W w' ∧ ∃ (v : Option Addr) (cap : Nat), e = .returned (.tuple #[.slice v 0 cap, .agg #[.int .i64 2, .int .i64 0, .int .i64 0]])) := hide (fun W hV => (long_calls K c W hV).mono fun e w' hT => by
    obtain ⟨hb, v, n, cap, cd, i, j, rfl, hc⟩ := hT
    refine ⟨hb, ?_⟩
    rcases hc with ⟨_, rfl, rfl, rfl, rfl⟩ | ⟨hlt, _⟩
    · exact ⟨v, cap, rfl⟩
    · omega)
  have H1 : Hid (∀ W, Calls Tryz.prog 7 #[.string ⟨#[c]⟩, .int .i64 0] W fun e w' => Below W.heap.size W w' ∧ ∃ (kind v l k : Nat) (x : ByteArray) (stop : Nat), e = .returned (.tuple #[.agg #[.int .i64 (kind : Int), .string x, .int .u64 (v : Int), .int .i64 (l : Int), .int .i64 (k : Int)], .int .i64 (stop : Int), .int .i64 (codeOf c : Int)])) := hide (fun W => (one_calls c W).mono fun e w' hT => by
    obtain ⟨hb, kind, v, l, k, x, stop, rfl⟩ := hT
    refine ⟨hb, kind, v, l, k, x, stop, ?_⟩
    rfl)
  have hcv := fun W B cap h => conv_one c W B cap h
  have hc1 : ∀ W : World, (convert 23 9 (.slice (some ⟨W.heap.size, 0, none⟩) 1 1)).run Tryz.prog (W.alloc (.cells #[.int .u8 (c.toNat : Int)] 5)) = .ok (.string ⟨#[c]⟩) (W.alloc (.cells #[.int .u8 (c.toNat : Int)] 5)) := fun W => conv_one c _ W.heap.size 1 ((Blk.new W 5 #[.int .u8 (c.toNat : Int)]).cell 0)
  have hc2 : ∀ W : World, (convert 23 9 (.slice (some ⟨W.heap.size, 0, none⟩) 1 1)).run Tryz.prog (W.drew.alloc (.cells #[.int .u8 (c.toNat : Int)] 5)) = .ok (.string ⟨#[c]⟩) (W.drew.alloc (.cells #[.int .u8 (c.toNat : Int)] 5)) := fun W => conv_one c _ W.heap.size 1 ((Blk.new W.drew 5 #[.int .u8 (c.toNat : Int)]).cell 0)
  obtain ⟨R, hR⟩ : ∃ R : ByteArray, R = ⟨(Lib.repeatL [32] K).toArray⟩ := ⟨_, rfl⟩
  obtain ⟨O, hO⟩ : ∃ O : ByteArray, O = ⟨#[c]⟩ := ⟨_, rfl⟩
  have hRs : R.size = K := by rw [hR]; show (Lib.repeatL [32] K).toArray.size = K; rw [repeat_sp]; simp
  have hOs : O.size = 1 := by rw [hO]; rfl
  have hz : ¬ 9223372036854775807 < R.size + O.size := by omega
  have ge := fun c i j c2 i2 j2 W => fault_eql c i j c2 i2 j2 W
  have gg := fun x y xs ys W => fault_guard2 x y xs ys W
  rw [← hR] at HREP
  rw [← hR, ← hO] at HL
  rw [← hO] at H1 hcv hc1 hc2
  clear hv hs1 hR hO hRs hOs hh
  go_enter Tryz.func3, Tryz.ntmps3
  go_wp2_with fail
  rw [← hn5]
  clear hn5
  go_region_with ((go_at_call 4; refine (HREP.out _).mono ?_; rintro e w2 ⟨rfl, hb⟩; try (have hc3 := hcv w2 w.heap.size 1 ((hb.cell (p := ⟨w.heap.size, 0, none⟩) (by simp)).trans ((Blk.new w.drew 5 #[.int .u8 (c.toNat : Int)]).cell 0)))))
  all_goals
    first
      | (have HB := hide (show Below w.heap.size w w2 from (((Below.refl w.heap.size w).drew.alloc (Nat.le_refl _) (.cells #[.int .u8 (c.toNat : Int)] 5)).trans (hb.mono (by simp)))); clear hb hc3; generalize w2 = W2 at *)
      | (have HB := hide (show Below w.heap.size w (w2.alloc (.cells #[.int .u8 (c.toNat : Int)] 5)) from (((Below.refl w.heap.size w).drew.trans (hb.mono (by simp))).alloc ((Below.refl w.heap.size w).drew.trans (hb.mono (by simp))).size _)); clear hb; generalize w2.alloc (.cells #[.int .u8 (c.toNat : Int)] 5) = W2 at *)
    clear HREP hz hw0 hw1 hc2 hc1
    clear H1 hcv hn1 hn2 hK
    have ge2 := fun W => ge 2 0 0 2 0 0 W
    rw [nb] at ge2
    clear ge nb
    go_wp2_with (first
      | (go_at_call 5; refine (HL.out _ (HV.out.below HB.out)).mono ?_; rintro e w3 ⟨hb3, v, cap, rfl⟩; have HB3 := hide (HB.out.trans (hb3.mono HB.out.size)); have HF := hide (Blk.new w3 27 #[.int .i64 2, .int .i64 0, .int .i64 0]); have HB4 := hide (HB3.out.alloc HB3.out.size (.cells #[.int .i64 2, .int .i64 0, .int .i64 0] 27)); clear hb3)
      | (go_at_call 6; refine (alive_calls _ (HV.out.below HB4.out)).mono ?_; rintro e w6 ⟨rfl, hb6⟩; have HB6 := hide (HB4.out.trans (hb6.mono HB4.out.size)); have HG := hide (HF.out.below hb6 HF.out.lt); have g0 : w6.cell? ⟨w3.heap.size, 0, none⟩ = some (.int .i64 2) := HG.out.cell 0; have g1 : w6.cell? ⟨w3.heap.size, 1, none⟩ = some (.int .i64 0) := HG.out.cell 1; have g2 : w6.cell? ⟨w3.heap.size, 2, none⟩ = some (.int .i64 0) := HG.out.cell 2; clear hb6))
    go_ret
    exact ⟨rfl, HB6.out⟩

set_option maxRecDepth 100000 in
set_option maxHeartbeats 8000000 in
theorem LexLong_lo0 (m : Nat) (hm : m < 256) (c : UInt8) (w : World) (hv : Vars w) (hh : (m : Int) % 3 - 1 ≤ 0) (hq : codeOf c = 0) :
    Calls Tryz.prog 3 #[.int .u8 (m : Int), .int .u8 (c.toNat : Int)] w fun e w' => e = .returned (.bool true) ∧ Below w.heap.size w w' := by
  have HV := hide hv
  have hc8 := UInt8.toNat_lt c
  obtain ⟨n5, hn5⟩ : ∃ n5 : Int, n5 = (m : Int) % 3 - 1 := ⟨_, rfl⟩
  have hn1 : -1 ≤ n5 := by omega
  have hn2 : n5 ≤ 1 := by omega
  obtain ⟨K, hK⟩ : ∃ K : Nat, 1048576 + n5 - 1 = (K : Int) := ⟨(1048576 + n5 - 1).toNat, by omega⟩
  have hs1 : (⟨#[32]⟩ : ByteArray).size = 1 := rfl
  have HREP := hide (fun W => Tryz.strings_Repeat ⟨#[32]⟩ K W (by omega) (by rw [hs1]; omega))
  have hw0 : IntKind.i64.wrap (1048576 + n5) = 1048576 + n5 := by rw [IntKind.wrap_i64]; omega
  have hw1 : IntKind.i64.wrap (K : Int) = (K : Int) := by rw [IntKind.wrap_i64]; omega
  have hgt : ¬ (0 : Int) < n5 := by omega
  have hgd : decide ((0 : Int) < n5) = false := by simpa using hgt
  have nb : ((0 : Int) == 0 && ((0 : Int) == 0 && (0 : Int) == 0)) = true := by rfl
  have HL : Hid (∀ W, Vars W → Calls Tryz.prog 5 #[.string ((⟨(Lib.repeatL [32] K).toArray⟩ : ByteArray) ++ ⟨#[c]⟩)] W fun e w' => Below W.heap.size W w' ∧ ∃ (v : Option Addr) (n cap : Nat), e = .returned (.tuple #[.slice v n cap, .agg #[.int .i64 0, .int .i64 0, .int .i64 0]])) := hide (fun W hV => (long_calls K c W hV).mono fun e w' hT => by
    obtain ⟨hb, v, n, cap, cd, i, j, rfl, hc⟩ := hT
    refine ⟨hb, ?_⟩
    rcases hc with ⟨hge, _⟩ | ⟨_, rfl, h0⟩
    · omega
    · obtain ⟨rfl, rfl⟩ := h0 hq
      exact ⟨v, n, cap, by rw [hq]; rfl⟩)
  have H1 : Hid (∀ W, Calls Tryz.prog 7 #[.string ⟨#[c]⟩, .int .i64 0] W fun e w' => Below W.heap.size W w' ∧ ∃ (kind v l k : Nat) (x : ByteArray) (stop : Nat), e = .returned (.tuple #[.agg #[.int .i64 (kind : Int), .string x, .int .u64 (v : Int), .int .i64 (l : Int), .int .i64 (k : Int)], .int .i64 (stop : Int), .int .i64 0])) := hide (fun W => (one_calls c W).mono fun e w' hT => by
    obtain ⟨hb, kind, v, l, k, x, stop, rfl⟩ := hT
    refine ⟨hb, kind, v, l, k, x, stop, ?_⟩
    rw [hq]; rfl)
  have hcv := fun W B cap h => conv_one c W B cap h
  have hc1 : ∀ W : World, (convert 23 9 (.slice (some ⟨W.heap.size, 0, none⟩) 1 1)).run Tryz.prog (W.alloc (.cells #[.int .u8 (c.toNat : Int)] 5)) = .ok (.string ⟨#[c]⟩) (W.alloc (.cells #[.int .u8 (c.toNat : Int)] 5)) := fun W => conv_one c _ W.heap.size 1 ((Blk.new W 5 #[.int .u8 (c.toNat : Int)]).cell 0)
  have hc2 : ∀ W : World, (convert 23 9 (.slice (some ⟨W.heap.size, 0, none⟩) 1 1)).run Tryz.prog (W.drew.alloc (.cells #[.int .u8 (c.toNat : Int)] 5)) = .ok (.string ⟨#[c]⟩) (W.drew.alloc (.cells #[.int .u8 (c.toNat : Int)] 5)) := fun W => conv_one c _ W.heap.size 1 ((Blk.new W.drew 5 #[.int .u8 (c.toNat : Int)]).cell 0)
  obtain ⟨R, hR⟩ : ∃ R : ByteArray, R = ⟨(Lib.repeatL [32] K).toArray⟩ := ⟨_, rfl⟩
  obtain ⟨O, hO⟩ : ∃ O : ByteArray, O = ⟨#[c]⟩ := ⟨_, rfl⟩
  have hRs : R.size = K := by rw [hR]; show (Lib.repeatL [32] K).toArray.size = K; rw [repeat_sp]; simp
  have hOs : O.size = 1 := by rw [hO]; rfl
  have hz : ¬ 9223372036854775807 < R.size + O.size := by omega
  have ge := fun c i j c2 i2 j2 W => fault_eql c i j c2 i2 j2 W
  have gg := fun x y xs ys W => fault_guard2 x y xs ys W
  rw [← hR] at HREP
  rw [← hR, ← hO] at HL
  rw [← hO] at H1 hcv hc1 hc2
  clear hv hs1 hR hO hRs hOs hh
  go_enter Tryz.func3, Tryz.ntmps3
  go_wp2_with fail
  rw [← hn5]
  clear hn5
  go_region_with ((go_at_call 4; refine (HREP.out _).mono ?_; rintro e w2 ⟨rfl, hb⟩; try (have hc3 := hcv w2 w.heap.size 1 ((hb.cell (p := ⟨w.heap.size, 0, none⟩) (by simp)).trans ((Blk.new w.drew 5 #[.int .u8 (c.toNat : Int)]).cell 0)))))
  all_goals
    first
      | (have HB := hide (show Below w.heap.size w w2 from (((Below.refl w.heap.size w).drew.alloc (Nat.le_refl _) (.cells #[.int .u8 (c.toNat : Int)] 5)).trans (hb.mono (by simp)))); clear hb hc3; generalize w2 = W2 at *)
      | (have HB := hide (show Below w.heap.size w (w2.alloc (.cells #[.int .u8 (c.toNat : Int)] 5)) from (((Below.refl w.heap.size w).drew.trans (hb.mono (by simp))).alloc ((Below.refl w.heap.size w).drew.trans (hb.mono (by simp))).size _)); clear hb; generalize w2.alloc (.cells #[.int .u8 (c.toNat : Int)] 5) = W2 at *)
    clear HREP hz hw0 hw1 hc2 hc1
    clear hn1 hn2 hK
    have ge2 := fun W => ge 0 0 0 0 0 0 W
    rw [nb] at ge2
    clear ge nb hq
    go_wp2_with (first
      | (go_at_call 5; refine (HL.out _ (HV.out.below HB.out)).mono ?_; rintro e w3 ⟨hb3, v, n, cap, rfl⟩; have HB3 := hide (HB.out.trans (hb3.mono HB.out.size)); have HF := hide (Blk.new w3 27 #[.int .i64 0, .int .i64 0, .int .i64 0]); have HB4 := hide (HB3.out.alloc HB3.out.size (.cells #[.int .i64 0, .int .i64 0, .int .i64 0] 27)); have hc4 := hcv ((w3.alloc (.cells #[.int .i64 0, .int .i64 0, .int .i64 0] 27)).alloc (.cells #[.int .u8 (c.toNat : Int)] 5)) (w3.heap.size + 1) 1 (by have h := (Blk.new (w3.alloc (.cells #[.int .i64 0, .int .i64 0, .int .i64 0] 27)) 5 #[.int .u8 (c.toNat : Int)]).cell 0; rw [World.size_alloc] at h; exact h); clear hb3)
      | (go_at_call 7; refine (H1.out _).mono ?_; rintro e w4 ⟨hb4, kind, v1, l1, k1, x1, stop, rfl⟩; have HB5 := hide (((HB4.out.alloc HB4.out.size (.cells #[.int .u8 (c.toNat : Int)] 5)).trans (hb4.mono (HB4.out.alloc HB4.out.size (.cells #[.int .u8 (c.toNat : Int)] 5)).size))); have HF5 := hide (((HF.out.alloc (.cells #[.int .u8 (c.toNat : Int)] 5)).below hb4 (HF.out.alloc (.cells #[.int .u8 (c.toNat : Int)] 5)).lt).alloc (.cells #[.int .i64 (kind : Int), .string x1, .int .u64 (v1 : Int), .int .i64 (l1 : Int), .int .i64 (k1 : Int)] 33)); have HB7 := hide (HB5.out.alloc HB5.out.size (.cells #[.int .i64 (kind : Int), .string x1, .int .u64 (v1 : Int), .int .i64 (l1 : Int), .int .i64 (k1 : Int)] 33)); clear hb4)
      | (go_at_call 6; refine (alive_calls _ (HV.out.below HB7.out)).mono ?_; rintro e w6 ⟨rfl, hb6⟩; have HB6 := hide (HB7.out.trans (hb6.mono HB7.out.size)); have HG := hide (HF5.out.below hb6 HF5.out.lt); have g0 : w6.cell? ⟨w3.heap.size, 0, none⟩ = some (.int .i64 0) := HG.out.cell 0; have g1 : w6.cell? ⟨w3.heap.size, 1, none⟩ = some (.int .i64 0) := HG.out.cell 1; have g2 : w6.cell? ⟨w3.heap.size, 2, none⟩ = some (.int .i64 0) := HG.out.cell 2; clear hb6))
    go_ret
    exact ⟨rfl, HB6.out⟩

set_option maxRecDepth 100000 in
set_option maxHeartbeats 8000000 in
theorem LexLong_lo1 (m : Nat) (hm : m < 256) (c : UInt8) (w : World) (hv : Vars w) (hh : (m : Int) % 3 - 1 ≤ 0) (q : Nat) (hq : codeOf c = q) (hq0 : q ≠ 0) :
    Calls Tryz.prog 3 #[.int .u8 (m : Int), .int .u8 (c.toNat : Int)] w fun e w' => e = .returned (.bool true) ∧ Below w.heap.size w w' := by
  have HV := hide hv
  have hc8 := UInt8.toNat_lt c
  obtain ⟨n5, hn5⟩ : ∃ n5 : Int, n5 = (m : Int) % 3 - 1 := ⟨_, rfl⟩
  have hn1 : -1 ≤ n5 := by omega
  have hn2 : n5 ≤ 1 := by omega
  obtain ⟨K, hK⟩ : ∃ K : Nat, 1048576 + n5 - 1 = (K : Int) := ⟨(1048576 + n5 - 1).toNat, by omega⟩
  have hs1 : (⟨#[32]⟩ : ByteArray).size = 1 := rfl
  have HREP := hide (fun W => Tryz.strings_Repeat ⟨#[32]⟩ K W (by omega) (by rw [hs1]; omega))
  have hw0 : IntKind.i64.wrap (1048576 + n5) = 1048576 + n5 := by rw [IntKind.wrap_i64]; omega
  have hw1 : IntKind.i64.wrap (K : Int) = (K : Int) := by rw [IntKind.wrap_i64]; omega
  have hgt : ¬ (0 : Int) < n5 := by omega
  have hgd : decide ((0 : Int) < n5) = false := by simpa using hgt
  have hqq : ((q : Int) == 0) = false := by simp; omega
  have HL : Hid (∀ W, Vars W → Calls Tryz.prog 5 #[.string ((⟨(Lib.repeatL [32] K).toArray⟩ : ByteArray) ++ ⟨#[c]⟩)] W fun e w' => Below W.heap.size W w' ∧ ∃ (v : Option Addr) (n cap : Nat) (i j : Nat), e = .returned (.tuple #[.slice v n cap, .agg #[.int .i64 (q : Int), .int .i64 (i : Int), .int .i64 (j : Int)]])) := hide (fun W hV => (long_calls K c W hV).mono fun e w' hT => by
    obtain ⟨hb, v, n, cap, cd, i, j, rfl, hc⟩ := hT
    refine ⟨hb, ?_⟩
    rcases hc with ⟨hge, _⟩ | ⟨_, rfl, h0⟩
    · omega
    · exact ⟨v, n, cap, i, j, by rw [hq]; rfl⟩)
  have H1 : Hid (∀ W, Calls Tryz.prog 7 #[.string ⟨#[c]⟩, .int .i64 0] W fun e w' => Below W.heap.size W w' ∧ ∃ (kind v l k : Nat) (x : ByteArray) (stop : Nat), e = .returned (.tuple #[.agg #[.int .i64 (kind : Int), .string x, .int .u64 (v : Int), .int .i64 (l : Int), .int .i64 (k : Int)], .int .i64 (stop : Int), .int .i64 (q : Int)])) := hide (fun W => (one_calls c W).mono fun e w' hT => by
    obtain ⟨hb, kind, v, l, k, x, stop, rfl⟩ := hT
    refine ⟨hb, kind, v, l, k, x, stop, ?_⟩
    rw [hq]; rfl)
  have hcv := fun W B cap h => conv_one c W B cap h
  have hc1 : ∀ W : World, (convert 23 9 (.slice (some ⟨W.heap.size, 0, none⟩) 1 1)).run Tryz.prog (W.alloc (.cells #[.int .u8 (c.toNat : Int)] 5)) = .ok (.string ⟨#[c]⟩) (W.alloc (.cells #[.int .u8 (c.toNat : Int)] 5)) := fun W => conv_one c _ W.heap.size 1 ((Blk.new W 5 #[.int .u8 (c.toNat : Int)]).cell 0)
  have hc2 : ∀ W : World, (convert 23 9 (.slice (some ⟨W.heap.size, 0, none⟩) 1 1)).run Tryz.prog (W.drew.alloc (.cells #[.int .u8 (c.toNat : Int)] 5)) = .ok (.string ⟨#[c]⟩) (W.drew.alloc (.cells #[.int .u8 (c.toNat : Int)] 5)) := fun W => conv_one c _ W.heap.size 1 ((Blk.new W.drew 5 #[.int .u8 (c.toNat : Int)]).cell 0)
  obtain ⟨R, hR⟩ : ∃ R : ByteArray, R = ⟨(Lib.repeatL [32] K).toArray⟩ := ⟨_, rfl⟩
  obtain ⟨O, hO⟩ : ∃ O : ByteArray, O = ⟨#[c]⟩ := ⟨_, rfl⟩
  have hRs : R.size = K := by rw [hR]; show (Lib.repeatL [32] K).toArray.size = K; rw [repeat_sp]; simp
  have hOs : O.size = 1 := by rw [hO]; rfl
  have hz : ¬ 9223372036854775807 < R.size + O.size := by omega
  have ge := fun c i j c2 i2 j2 W => fault_eql c i j c2 i2 j2 W
  have gg := fun x y xs ys W => fault_guard2 x y xs ys W
  rw [← hR] at HREP
  rw [← hR, ← hO] at HL
  rw [← hO] at H1 hcv hc1 hc2
  clear hv hs1 hR hO hRs hOs hh
  go_enter Tryz.func3, Tryz.ntmps3
  go_wp2_with fail
  rw [← hn5]
  clear hn5
  go_region_with ((go_at_call 4; refine (HREP.out _).mono ?_; rintro e w2 ⟨rfl, hb⟩; try (have hc3 := hcv w2 w.heap.size 1 ((hb.cell (p := ⟨w.heap.size, 0, none⟩) (by simp)).trans ((Blk.new w.drew 5 #[.int .u8 (c.toNat : Int)]).cell 0)))))
  all_goals
    first
      | (have HB := hide (show Below w.heap.size w w2 from (((Below.refl w.heap.size w).drew.alloc (Nat.le_refl _) (.cells #[.int .u8 (c.toNat : Int)] 5)).trans (hb.mono (by simp)))); clear hb hc3; generalize w2 = W2 at *)
      | (have HB := hide (show Below w.heap.size w (w2.alloc (.cells #[.int .u8 (c.toNat : Int)] 5)) from (((Below.refl w.heap.size w).drew.trans (hb.mono (by simp))).alloc ((Below.refl w.heap.size w).drew.trans (hb.mono (by simp))).size _)); clear hb; generalize w2.alloc (.cells #[.int .u8 (c.toNat : Int)] 5) = W2 at *)
    clear HREP hz hw0 hw1 hc2 hc1
    clear hn1 hn2 hK
    have ge2 := fun (i j : Int) W => ge (q : Int) i j 0 0 0 W
    simp only [hqq, Bool.false_and] at ge2
    have hq1 : ((q : Int) == (q : Int)) = true := by simp
    clear ge hq
    go_wp2_with (first
      | (go_at_call 5; refine (HL.out _ (HV.out.below HB.out)).mono ?_; rintro e w3 ⟨hb3, v, n, cap, i, j, rfl⟩; have HB3 := hide (HB.out.trans (hb3.mono HB.out.size)); have HF := hide (Blk.new w3 27 #[.int .i64 (q : Int), .int .i64 (i : Int), .int .i64 (j : Int)]); have HB4 := hide (HB3.out.alloc HB3.out.size (.cells #[.int .i64 (q : Int), .int .i64 (i : Int), .int .i64 (j : Int)] 27)); have hc4 := hcv ((w3.alloc (.cells #[.int .i64 (q : Int), .int .i64 (i : Int), .int .i64 (j : Int)] 27)).alloc (.cells #[.int .u8 (c.toNat : Int)] 5)) (w3.heap.size + 1) 1 (by have h := (Blk.new (w3.alloc (.cells #[.int .i64 (q : Int), .int .i64 (i : Int), .int .i64 (j : Int)] 27)) 5 #[.int .u8 (c.toNat : Int)]).cell 0; rw [World.size_alloc] at h; exact h); clear hb3)
      | (go_at_call 7; refine (H1.out _).mono ?_; rintro e w4 ⟨hb4, kind, v1, l1, k1, x1, stop, rfl⟩; have HB5 := hide (((HB4.out.alloc HB4.out.size (.cells #[.int .u8 (c.toNat : Int)] 5)).trans (hb4.mono (HB4.out.alloc HB4.out.size (.cells #[.int .u8 (c.toNat : Int)] 5)).size))); have HF5 := hide (((HF.out.alloc (.cells #[.int .u8 (c.toNat : Int)] 5)).below hb4 (HF.out.alloc (.cells #[.int .u8 (c.toNat : Int)] 5)).lt).alloc (.cells #[.int .i64 (kind : Int), .string x1, .int .u64 (v1 : Int), .int .i64 (l1 : Int), .int .i64 (k1 : Int)] 33)); have HB7 := hide (HB5.out.alloc HB5.out.size (.cells #[.int .i64 (kind : Int), .string x1, .int .u64 (v1 : Int), .int .i64 (l1 : Int), .int .i64 (k1 : Int)] 33)); clear hb4)
      | (go_at_call 6; refine (alive_calls _ (HV.out.below HB7.out)).mono ?_; rintro e w6 ⟨rfl, hb6⟩; have HB6 := hide (HB7.out.trans (hb6.mono HB7.out.size)); have HG := hide (HF5.out.below hb6 HF5.out.lt); have g0 : w6.cell? ⟨w3.heap.size, 0, none⟩ = some (.int .i64 (q : Int)) := HG.out.cell 0; have g1 : w6.cell? ⟨w3.heap.size, 1, none⟩ = some (.int .i64 (i : Int)) := HG.out.cell 1; have g2 : w6.cell? ⟨w3.heap.size, 2, none⟩ = some (.int .i64 (j : Int)) := HG.out.cell 2; clear hb6))
    go_ret
    exact ⟨rfl, HB6.out⟩

theorem LexLong_at (a0 : Int) (w0 : (Lit.int .u8 a0).wf = true) (a1 : Int) (w1 : (Lit.int .u8 a1).wf = true) (w : World) (hv : Vars w) :
    Calls Tryz.prog 3 #[.int .u8 a0, .int .u8 a1] w fun e w' => e = .returned (.bool true) ∧ Below w.heap.size w w' := by
  have h0 : 0 ≤ a0 ∧ a0 < 256 := by have := bounds_u8 w0; omega
  have h1 : 0 ≤ a1 ∧ a1 < 256 := by have := bounds_u8 w1; omega
  obtain ⟨m, rfl⟩ := Int.eq_ofNat_of_zero_le h0.1
  obtain ⟨k, rfl⟩ := Int.eq_ofNat_of_zero_le h1.1
  obtain ⟨c, hc⟩ : ∃ c : UInt8, c.toNat = k := ⟨UInt8.ofNat k, by rw [UInt8.toNat_ofNat']; omega⟩
  rw [← hc]
  by_cases hh : (m : Int) % 3 - 1 = 1
  · exact LexLong_hi m (by omega) c w hv hh
  · by_cases hq : codeOf c = 0
    · exact LexLong_lo0 m (by omega) c w hv (by omega) hq
    · exact LexLong_lo1 m (by omega) c w hv (by omega) _ rfl hq
end Go.Proofs.YtjkglbgenbnjoaaGreatDoor
