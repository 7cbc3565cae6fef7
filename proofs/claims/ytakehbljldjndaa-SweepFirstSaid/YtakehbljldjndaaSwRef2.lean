/- The walks of fenestraref14.All, fenestralaw14.fits, fenestralaw14.spans (chapter 14): slices of spans that came in. -/
import Derived.Test.YtakehbljldjndaaSwRef1
import Derived.Test.YtakehbljldjndaaSwGapW
import Derived.Test.YtakehbljldjndaaSortK
namespace Go.Proofs.Ytakehbljldjndaa
open Go.RowKit Go.Sort
set_option linter.unusedVariables false

/-- A slice of spans that lies below a block. -/
def SpArg (B : Nat) (A : Option Addr) (c : Nat) (l : List (Nat × Nat)) (w : World) : Prop := Reads w B 2 A l.length (l.flatMap spL) ∧ l.length ≤ c
theorem SpArg.below {B c : Nat} {A : Option Addr} {l : List (Nat × Nat)} {w w' : World} (h : SpArg B A c l w) (hb : Below B w w') : SpArg B A c l w' := ⟨h.1.below hb, h.2⟩
theorem SpArg.more {B B' c : Nat} {A : Option Addr} {l : List (Nat × Nat)} {w : World} (h : SpArg B A c l w) (hB : B ≤ B') : SpArg B' A c l w := ⟨h.1.more hB, h.2⟩
theorem add_plain (b o j : Nat) : (⟨b, o, none⟩ : Addr).add j = ⟨b, o + j, none⟩ := by
  unfold Addr.add
  by_cases h : j = 0
  · subst h; simp
  · simp [h]
theorem plain_addr {w : World} {a : Addr} {v : Value} (h : w.cell? a = some v) : a = ⟨a.block, a.off, none⟩ := by
  obtain ⟨b, o, p⟩ := a
  cases p with
  | none => rfl
  | some p =>
    simp [World.cell?] at h
    split at h <;> cases h
theorem SpArg.at_ {B c : Nat} {A : Option Addr} {l : List (Nat × Nat)} {w : World} (h : SpArg B A c l w) (i : Nat) (hi : i < l.length) :
    ∃ b o, A = some ⟨b, o, none⟩ ∧ b < B ∧ w.cell? ⟨b, o + i * 2, none⟩ = some (.int .u64 (l[i].1 : Int)) ∧ w.cell? ⟨b, o + i * 2 + 1, none⟩ = some (.int .u64 (l[i].2 : Int)) := by
  obtain ⟨ad, e, hb, hc⟩ := h.1.2 (by omega)
  have h0 := flat_get spL 2 spL_len l i 0 hi (by omega)
  have h1 := flat_get spL 2 spL_len l i 1 hi (by omega)
  have c0 := hc _ _ h0
  have c1 := hc _ _ h1
  have hz := plain_addr (hc _ _ (flat_get spL 2 spL_len l 0 0 (by omega) (by omega)))
  obtain ⟨b, o, p⟩ := ad
  have hp : p = none := congrArg Addr.spot hz
  subst hp
  refine ⟨b, o, e, hb, ?_, ?_⟩
  · rw [add_plain] at c0; exact c0
  · rw [add_plain, ← Nat.add_assoc] at c1; exact c1
theorem sp_cells_at (w : World) (s : Nat × Nat) (t : TypeId) (g : Nat) (hg : g = w.heap.size) : ∀ j u, (spL s)[j]? = some u → (w.alloc (.cells #[.int .u64 (s.1 : Int), .int .u64 (s.2 : Int)] t)).cell? ((⟨g, 0, none⟩ : Addr).add j) = some u := by
  subst hg; exact sp_cells w s t
def AllR (l : List (Nat × Nat)) : Bool := l.all vldB
set_option maxRecDepth 100000 in
set_option maxHeartbeats 4000000 in
theorem All_calls (l : List (Nat × Nat)) (c : Nat) (A : Option Addr) (w : World) (h : SpArg w.heap.size A c l w) (hl : l.length ≤ 1000000) :
    Calls Try.prog 27 #[.slice A l.length c] w fun e w' => e = .returned (.bool (AllR l)) ∧ Below w.heap.size w w' := by
  have HH := hide h
  have hcap := h.2
  obtain ⟨n, hn⟩ : ∃ n, n = l.length := ⟨_, rfl⟩
  rw [← hn] at hcap ⊢
  have hnI : (n : Int) ≤ 1000000 := by omega
  have hcI : (n : Int) ≤ (c : Int) := by omega
  have HN := hide hn
  have HV := hide (fun s W => RValid_gr s W)
  obtain ⟨R, hR⟩ : ∃ R, R = AllR l := ⟨_, rfl⟩
  rw [← hR]
  have HR := hide hR
  clear h hn hcap hl hR
  go_enter Try.func27, Try.ntmps27
  go_wp2
  go_loopw [3] (fun v wr => ∃ k : Nat, k ≤ n ∧ v = .int .i64 (k : Int) ∧ Hid (Below w.heap.size w wr ∧ (l.take k).all vldB = true)) (fun v _ => n - (intOf v).toNat)
  case atStart => exact ⟨0, Nat.zero_le _, rfl, hide ⟨Below.refl _ _, rfl⟩⟩
  case round =>
    obtain ⟨k, hk, rfl, hrel⟩ := hrel
    by_cases hlt : k < n
    · have hkl : k < l.length := by have := HN.out; omega
      have hlt2 : (k : Int) < (n : Int) := by omega
      obtain ⟨b, o, rfl, hab, x0, x1⟩ := (HH.out.below hrel.out.1).at_ k hkl
      have HVK := hide (HV.out l[k] wr)
      have hsz := hrel.out.1.size
      obtain ⟨lo, hlo⟩ : ∃ lo, lo = l[k].1 := ⟨_, rfl⟩
      obtain ⟨len, hle⟩ : ∃ len, len = l[k].2 := ⟨_, rfl⟩
      rw [← hlo, ← hle] at HVK
      rw [← hlo] at x0
      rw [← hle] at x1
      obtain ⟨vb, hvb⟩ : ∃ vb, vb = vldB l[k] := ⟨_, rfl⟩
      rw [← hvb] at HVK
      have HVB := hide hvb
      clear hlo hle hvb
      cases vb
      · go_wp2_with (go_at_call 20; refine HVK.out.mono ?_; rintro e w1 ⟨rfl, hg⟩; have HB1 := hide (hrel.out.1.trans ((Gr.below hg).mono hsz)); clear hg)
        go_ret
        have hr : R = false := by
          rw [HR.out]
          unfold AllR
          rw [List.all_eq_false]
          exact ⟨l[k], List.getElem_mem _, by rw [← HVB.out]; simp⟩
        exact ⟨by rw [hr]; rfl, HB1.out⟩
      · go_wp2_with (go_at_call 20; refine HVK.out.mono ?_; rintro e w1 ⟨rfl, hg⟩; have HB1 := hide (hrel.out.1.trans ((Gr.below hg).mono hsz)); clear hg)
        go_roundw
        case rel =>
          refine ⟨k + 1, by omega, by go_num, hide ⟨HB1.out, ?_⟩⟩
          rw [List.take_succ_eq_append_getElem hkl, List.all_append, hrel.out.2, List.all_cons, ← HVB.out]; rfl
        case measure => simp [intOf]; omega
    · have hr : R = true := by
        rw [HR.out]
        have h2 := hrel.out.2
        rw [List.take_of_length_le (by have := HN.out; omega)] at h2
        exact h2
      subst hr
      have hkn : k = n := by omega
      subst hkn
      clear hlt hk HR
      go_wp2
      go_ret
      exact ⟨rfl, hrel.out.1⟩
def FitsR (l : List (Nat × Nat)) : Bool := decide (l.length ≤ 60) && AllR l
set_option maxHeartbeats 1000000 in
theorem fits_calls (l : List (Nat × Nat)) (c : Nat) (A : Option Addr) (w : World) (h : SpArg w.heap.size A c l w) :
    Calls Try.prog 9 #[.slice A l.length c] w fun e w' => e = .returned (.bool (FitsR l)) ∧ Below w.heap.size w w' := by
  have hF : FitsR l = (decide (l.length ≤ 60) && AllR l) := rfl
  by_cases h60 : l.length ≤ 60
  · have HA := hide (All_calls l c A w h (by omega))
    have d1 : decide (l.length ≤ 60) = true := by simpa using h60
    have d2 : decide ((l.length : Int) ≤ 60) = true := by simp; omega
    rw [d1, Bool.true_and] at hF
    have HF := hide hF
    generalize l.length = n at *
    clear hF h h60
    go_enter Try.func9, Try.ntmps9
    go_wp2_with (go_at_call 27; refine HA.out.mono ?_; rintro e w1 ⟨rfl, hb⟩; have HB := hide hb; clear hb)
    go_ret
    exact ⟨ret_b HF.out.symm, HB.out⟩
  · have d1 : decide (l.length ≤ 60) = false := by simp; omega
    have d2 : decide ((l.length : Int) ≤ 60) = false := by simp; omega
    rw [d1, Bool.false_and] at hF
    have HF := hide hF
    generalize l.length = n at *
    clear hF h h60
    go_enter Try.func9, Try.ntmps9
    go_wp2
    go_ret
    exact ⟨ret_b HF.out.symm, Below.refl _ _⟩
set_option maxRecDepth 100000 in
set_option maxHeartbeats 4000000 in
theorem spans_calls (l : List (Nat × Nat)) (c : Nat) (A : Option Addr) (w : World) (h : SpArg w.heap.size A c l w) (hl : l.length ≤ 1000000) :
    Calls Try.prog 13 #[.slice A l.length c] w (GapsV l w) := by
  have HH := hide h
  have hcap := h.2
  obtain ⟨i0, hi, hz0, hz1, hz2⟩ := info_parts span_info3
  have HII := hide hi
  obtain ⟨n, hn⟩ : ∃ n, n = l.length := ⟨_, rfl⟩
  have HN := hide hn
  rw [← hn] at hcap ⊢
  have hnI : (n : Int) ≤ 1000000 := by omega
  have hcI : (n : Int) ≤ (c : Int) := by omega
  clear h hn hcap hl hi
  go_enter Try.func13, Try.ntmps13
  go_wp2
  go_loopw [3, 8] (fun o v wr => ∃ (k : Nat) (a : Option Addr) (c' : Nat), k ≤ n ∧ v = .int .i64 (k : Int) ∧ o = .slice a k c' ∧ Hid (Below w.heap.size w wr ∧ wr.ownsRow w.heap.size 38 2 (.slice a k c') k ((l.take k).flatMap spL))) (fun _ v _ => n - (intOf v).toNat)
  case atStart => exact ⟨0, none, 0, Nat.zero_le _, rfl, rfl, hide ⟨Below.refl _ _, World.ownsRow_nil _ _ _ _⟩⟩
  case round =>
    obtain ⟨k, a, c', hk, rfl, rfl, hrel⟩ := hrel
    by_cases hlt : k < n
    · have hkl : k < l.length := by have := HN.out; omega
      have hlt2 : (k : Int) < (n : Int) := by omega
      obtain ⟨b, o, rfl, hab, x0, x1⟩ := (HH.out.below hrel.out.1).at_ k hkl
      have hsz := hrel.out.1.size
      obtain ⟨lo, hlo⟩ : ∃ lo, lo = l[k].1 := ⟨_, rfl⟩
      obtain ⟨len, hle⟩ : ∃ len, len = l[k].2 := ⟨_, rfl⟩
      rw [← hlo] at x0
      rw [← hle] at x1
      have HLK : Hid ((lo, len) = l[k]) := hide (by rw [hlo, hle])
      have hb0 := Blk.new wr 39 #[.int .u64 (lo : Int), .int .u64 (len : Int)]
      have y0 : (wr.alloc (.cells #[.int .u64 (lo : Int), .int .u64 (len : Int)] 39)).cell? ⟨wr.heap.size, 0, none⟩ = some (.int .u64 (lo : Int)) := hb0.cell 0
      have y1 : (wr.alloc (.cells #[.int .u64 (lo : Int), .int .u64 (len : Int)] 39)).cell? ⟨wr.heap.size, 1, none⟩ = some (.int .u64 (len : Int)) := hb0.cell 1
      have HC := hide (fun W g hg => sp_cells_at W (lo, len) 38 g hg)
      have H1 := hide (sp_one (lo, len))
      have hol := hide (own_block hrel.out.2)
      clear hlo hle hb0
      go_wp2_with (at_builtin; go_must (refine wpList_append_own_at _ rfl (.tmp 12) (.tmp 14) 29 rfl w.heap.size 38 i0 _ 2 16 Try.underlying29 HII.out hz0 hz1 hz2 rfl (by decide) (.slice a k c') k ((l.take k).flatMap spL) rfl ((hrel.out.2.alloc _).alloc _) _ 1 1 (spL (lo, len)) rfl rfl (HC.out _ _ (by simp)) H1.out (by simp only [maxLen]; omega) (by omega) (by simp; omega) ?_); intro v' w4 hown' hg hnl hat; obtain ⟨a4, k4, rfl⟩ := own_slice hown'; have HO4 := hide hown'; have HB4 := hide (((hrel.out.1.alloc (by omega) (.cells #[.int .u64 (lo : Int), .int .u64 (len : Int)] 39)).alloc (by simp; omega) (.cells #[.int .u64 (lo : Int), .int .u64 (len : Int)] 38)).grown hg (by simp; omega) (fun r hr => (hol.out r hr).1)); clear hown' hg hnl hat)
      go_roundw
      case rel =>
        have hsn : (l.take (k + 1)).flatMap spL = (l.take k).flatMap spL ++ spL (lo, len) := by rw [List.take_succ_eq_append_getElem hkl, List.flatMap_append, HLK.out]; simp
        have e1 := HO4.out
        rw [← hsn] at e1
        first | exact ⟨k + 1, a4, k4, by omega, by go_num, rfl, hide ⟨HB4.out, e1⟩⟩ | ((repeat apply Exists.intro); exact ⟨⟨k + 1, a4, k4, by omega, by go_num, rfl, hide ⟨HB4.out, e1⟩⟩, rfl⟩)
      case measure => simp [intOf]; omega
    · have hkn : k = n := by omega
      subst hkn
      have e1 := hrel.out.2
      rw [List.take_of_length_le (by have := HN.out; omega)] at e1
      have HE := hide e1
      clear hlt hk e1
      go_wp2
      go_ret
      refine ⟨a, c', by rw [← HN.out]; rfl, by rw [← HN.out]; exact HE.out, hrel.out.1⟩
end Go.Proofs.Ytakehbljldjndaa
