/- The walk of the law SweepFirst (chapter 14). -/
import Derived.Test.YtakehbljldjndaaSwFirst
import Derived.Test.YtakehbljldjndaaSwPairsLaw
namespace Go.Proofs.Ytakehbljldjndaa
open Go.RowKit Go.Sort
set_option linter.unusedVariables false

theorem fn_neq (caps : Array Value) (w : World) : (binOp .neq 48 (.func (.func 25) #[] caps) .nilFunc).run Try.prog w = .ok (.bool true) w := by kernel_rfl
set_option maxRecDepth 100000 in
set_option maxHeartbeats 4000000 in
theorem First_fn (l : List (Nat × Nat)) (base c : Nat) (A : Option Addr) (w : World) (al : Nat × Nat → Bool) (caps : Array Value) (hal : ∀ W, Below w.heap.size w W → ∀ p : Nat × Nat, Calls Try.prog 25 (#[.int .i64 (p.1 : Int), .int .i64 (p.2 : Int)] ++ caps) W fun e w' => e = .returned (.bool (al p)) ∧ W = w') (hok : ∀ s ∈ l, okSpan s) (hl : w.ownsRow base 38 2 (.slice A l.length c) l.length (l.flatMap spL)) (hn : l.length ≤ 1000) :
    Calls Try.prog 26 #[.slice A l.length c, (.func (.func 25) #[] caps)] w fun e w' => e = .returned (.tuple #[.int .i64 (firstOf al (pairsR l)).1, .int .i64 (firstOf al (pairsR l)).2]) ∧ Below w.heap.size w w' := by
  have HP := hide (Pairs_calls l base c A w hok hl hn)
  have HAL := hide hal
  have eF : ∀ args w, (callFunc 25 args).run Try.prog w = .ok (.enter 25 args) w := enters_of Try.func25 (by kernel_rfl) rfl
  have nf := fun W => fn_neq caps W
  clear hal
  have hpl : (pairsR l).length ≤ 1000000 := by have := pairsR_len l; have h2 : l.length * l.length ≤ 1000 * 1000 := Nat.mul_le_mul hn hn; omega
  clear hok hl hn
  generalize hPR : pairsR l = PR at *
  clear hPR
  generalize l.length = n0 at *
  obtain ⟨n, hn⟩ : ∃ n, n = PR.length := ⟨_, rfl⟩
  have HN := hide hn
  have hnI : (n : Int) ≤ 1000000 := by omega
  clear hn hpl
  · skip
    go_enter Try.func26, Try.ntmps26
    go_wp2_with (go_at_call 12; refine HP.out.mono ?_; rintro e w1 ⟨a1, c1, rfl, ho, hb⟩; rw [← HN.out] at ho ⊢; have HO := hide ho; have HB1 := hide hb; clear ho hb)
    obtain ⟨wo, rfl⟩ : ∃ wo : World, wo = w1 := ⟨_, rfl⟩
    go_loopw [6, 7, 13] (fun u v x wr => ∃ (k : Nat) (f s : Int), k ≤ n ∧ x = .int .i64 (k : Int) ∧ u = .int .i64 f ∧ v = .int .i64 s ∧ Hid ((f, s) = firstOf al (PR.take k) ∧ Below wo.heap.size wo wr)) (fun _ _ x _ => n - (intOf x).toNat)
    case atStart => exact ⟨0, -1, -1, Nat.zero_le _, rfl, rfl, rfl, hide ⟨rfl, Below.refl _ _⟩⟩
    case round =>
      obtain ⟨k, f, s, hk, rfl, rfl, rfl, hrel⟩ := hrel
      by_cases hlt : k < n
      · have hlt2 : (k : Int) < (n : Int) := by omega
        have hkl : k < PR.length := by have := HN.out; omega
        obtain ⟨g, rfl, _, hgc, hgl, hcell⟩ := own_cells prL_len (own_below HO.out hrel.out.2) HN.out.symm k hkl
        have hcI : (n : Int) ≤ (c1 : Int) := by omega
        have x0 : wr.cell? ⟨g, k * 2, none⟩ = some (.int .i64 (PR[k].1 : Int)) := hcell 0 (by omega)
        have x1 : wr.cell? ⟨g, k * 2 + 1, none⟩ = some (.int .i64 (PR[k].2 : Int)) := hcell 1 (by omega)
        have hst := firstOf_succ al PR k hkl
        rw [← hrel.out.1] at hst
        obtain ⟨p, hp⟩ : ∃ p, p = PR[k] := ⟨_, rfl⟩
        rw [← hp] at x0 x1 hst
        have hsz := hrel.out.2.size
        have HBR := hide (hrel.out.2.alloc hsz (.cells #[.int .i64 (p.1 : Int), .int .i64 (p.2 : Int)] 27))
        have hbx := Blk.new wr 27 #[.int .i64 (p.1 : Int), .int .i64 (p.2 : Int)]
        have z0 : (wr.alloc (.cells #[.int .i64 (p.1 : Int), .int .i64 (p.2 : Int)] 27)).cell? ⟨wr.heap.size, 0, none⟩ = some (.int .i64 (p.1 : Int)) := hbx.cell 0
        have z1 : (wr.alloc (.cells #[.int .i64 (p.1 : Int), .int .i64 (p.2 : Int)] 27)).cell? ⟨wr.heap.size, 1, none⟩ = some (.int .i64 (p.2 : Int)) := hbx.cell 1
        have HST := hide hst
        have HAP := hide (fun W (hW : Below w.heap.size w W) => HAL.out W hW p)
        clear hcell hp hst hbx hrel
        obtain ⟨p1, p2⟩ := p
        simp only at *
        obtain ⟨b, hb⟩ : ∃ b, b = al (p1, p2) := ⟨_, rfl⟩
        rw [← hb] at HAP
        have HA0 := hide hb.symm
        have HBR2 := hide (HB1.out.trans (HBR.out.mono HB1.out.size))
        clear hb
        cases b
        · by_cases hs0 : s < 0
          · have d1 : decide (s < (0 : Int)) = true := by simpa using hs0
            have HC : Hid (s < 0 ∨ (p2 : Int) < s) := hide (.inl hs0)
            go_wp2_with (first | (go_at_call 25; refine (HAP.out _ HBR2.out).mono ?_; rintro e w5 ⟨rfl, rfl⟩))
            obtain ⟨X, hX⟩ : ∃ X, X = wr.heap.size := ⟨_, rfl⟩
            rw [← hX] at z0 z1 ⊢
            clear hX x0 x1
            generalize wr.alloc (.cells #[.int .i64 (p1 : Int), .int .i64 (p2 : Int)] 27) = W1 at *
            go_quiet (fail)
            have HBF := hide (below_drewN HBR.out nq)
            clear z0 z1
            generalize W1.drewN nq = W2 at *
            go_wp2
            go_roundw
            case rel => exact ⟨k + 1, (p1 : Int), (p2 : Int), by omega, by go_num, rfl, rfl, hide ⟨by rw [HST.out]; unfold firstStep; rw [if_neg (by rw [HA0.out]; simp), if_pos HC.out], HBF.out⟩⟩
            case measure => simp [intOf]; omega
          · have d1 : decide (s < (0 : Int)) = false := by simpa using hs0
            by_cases hp2 : (p2 : Int) < s
            · have d2 : decide ((p2 : Int) < s) = true := by simpa using hp2
              have HC : Hid (s < 0 ∨ (p2 : Int) < s) := hide (.inr hp2)
              go_wp2_with (first | (go_at_call 25; refine (HAP.out _ HBR2.out).mono ?_; rintro e w5 ⟨rfl, rfl⟩))
              obtain ⟨X, hX⟩ : ∃ X, X = wr.heap.size := ⟨_, rfl⟩
              rw [← hX] at z0 z1 ⊢
              clear hX x0 x1
              generalize wr.alloc (.cells #[.int .i64 (p1 : Int), .int .i64 (p2 : Int)] 27) = W1 at *
              go_quiet (fail)
              have HBF := hide (below_drewN HBR.out nq)
              clear z0 z1
              generalize W1.drewN nq = W2 at *
              go_wp2
              go_roundw
              case rel => exact ⟨k + 1, (p1 : Int), (p2 : Int), by omega, by go_num, rfl, rfl, hide ⟨by rw [HST.out]; unfold firstStep; rw [if_neg (by rw [HA0.out]; simp), if_pos HC.out], HBF.out⟩⟩
              case measure => simp [intOf]; omega
            · have d2 : decide ((p2 : Int) < s) = false := by simpa using hp2
              have HC : Hid (¬ (s < 0 ∨ (p2 : Int) < s)) := hide (by omega)
              go_wp2_with (first | (go_at_call 25; refine (HAP.out _ HBR2.out).mono ?_; rintro e w5 ⟨rfl, rfl⟩))
              have HBF := HBR
              go_roundw
              case rel => exact ⟨k + 1, f, s, by omega, by go_num, rfl, rfl, hide ⟨by rw [HST.out]; unfold firstStep; rw [if_neg (by rw [HA0.out]; simp), if_neg HC.out], HBF.out⟩⟩
              case measure => simp [intOf]; omega
        · go_wp2_with (first | (go_at_call 25; refine (HAP.out _ HBR2.out).mono ?_; rintro e w5 ⟨rfl, rfl⟩))
          have HBF := HBR
          go_roundw
          case rel => exact ⟨k + 1, f, s, by omega, by go_num, rfl, rfl, hide ⟨by rw [HST.out]; unfold firstStep; rw [if_pos HA0.out], HBF.out⟩⟩
          case measure => simp [intOf]; omega
      · have hkn : k = n := by omega
        subst hkn
        have e1 := hrel.out.1
        rw [List.take_of_length_le (by have := HN.out; omega)] at e1
        have HE := hide e1
        clear hlt hk e1
        go_wp2
        go_ret2
        refine ⟨?_, HB1.out.trans (hrel.out.2.mono HB1.out.size)⟩
        rw [← HE.out]
        rfl

/-- What the law's function allows. -/
def alB (sh : List Bool) (p : Nat × Nat) : Bool := decide (p.1 < sh.length) && decide (p.2 < sh.length) && sh[p.1]! && sh[p.2]!
/-- A slice of bools that lies below a block. -/
def BoArg (B : Nat) (A : Option Addr) (c : Nat) (sh : List Bool) (w : World) : Prop := Reads w B 1 A sh.length (sh.map Value.bool) ∧ sh.length ≤ c
theorem BoArg.below {B c : Nat} {A : Option Addr} {l : List Bool} {w w' : World} (h : BoArg B A c l w) (hb : Below B w w') : BoArg B A c l w' := ⟨h.1.below hb, h.2⟩
theorem BoArg.at_ {B c : Nat} {A : Option Addr} {l : List Bool} {w : World} (h : BoArg B A c l w) (i : Nat) (hi : i < l.length) :
    ∃ b o, A = some ⟨b, o, none⟩ ∧ b < B ∧ w.cell? ⟨b, o + i, none⟩ = some (.bool l[i]!) := by
  obtain ⟨ad, e, hb, hc⟩ := h.1.2 (by omega)
  have h0 : ∀ j, (hj : j < l.length) → (l.map Value.bool)[j]? = some (.bool l[j]!) := by
    intro j hj
    rw [List.getElem?_map, List.getElem?_eq_getElem hj, getElem!_pos l j hj]; rfl
  have c0 := hc _ _ (h0 i hi)
  have hz := plain_addr (hc _ _ (h0 0 (by omega)))
  obtain ⟨b, o, p⟩ := ad
  have hp : p = none := congrArg Addr.spot hz
  subst hp
  rw [add_plain] at c0
  exact ⟨b, o, e, hb, c0⟩
set_option maxHeartbeats 2000000 in
theorem allow_calls (S B c : Nat) (A : Option Addr) (sh : List Bool) (w : World) (hS : w.cell? ⟨S, 0, none⟩ = some (.slice A sh.length c)) (h : BoArg B A c sh w) (hl : sh.length ≤ 9223372036854775807) (p : Nat × Nat) :
    Calls Try.prog 25 #[.int .i64 (p.1 : Int), .int .i64 (p.2 : Int), .pointer (some ⟨S, 0, none⟩)] w fun e w' => e = .returned (.bool (alB sh p)) ∧ w = w' := by
  obtain ⟨i, j⟩ := p
  have ha : alB sh (i, j) = (decide (i < sh.length) && decide (j < sh.length) && sh[i]! && sh[j]!) := rfl
  have h1 := fun hi => h.at_ i hi
  have h2 := fun hj => h.at_ j hj
  have hc := h.2
  simp only
  generalize alB sh (i, j) = R at *
  generalize sh[i]! = x at *
  generalize sh[j]! = y at *
  generalize sh.length = n at *
  have hcI : (n : Int) ≤ (c : Int) := by omega
  have hi0 : decide ((0 : Int) ≤ (i : Int)) = true := by simp
  have hj0 : decide ((0 : Int) ≤ (j : Int)) = true := by simp
  by_cases hi : i < n
  · obtain ⟨b, o, rfl, _, xi⟩ := h1 hi
    have d1 : decide (i < n) = true := by simpa using hi
    have e1 : decide ((i : Int) < (n : Int)) = true := by simp; omega
    have f1 : (i : Int) < (n : Int) := by omega
    by_cases hj : j < n
    · obtain ⟨b2, o2, e2, _, xj⟩ := h2 hj
      injection e2 with e2
      injection e2 with e2 e3 _
      subst e2 e3
      have d2 : decide (j < n) = true := by simpa using hj
      have e2 : decide ((j : Int) < (n : Int)) = true := by simp; omega
      have f2 : (j : Int) < (n : Int) := by omega
      rw [d1, d2, Bool.true_and, Bool.true_and] at ha
      clear h1 h2 h hi hj
      cases x
      · rw [Bool.false_and] at ha
        subst ha
        go_enter Try.func25, Try.ntmps25
        go_wp2
        go_ret
        exact ⟨rfl, rfl⟩
      · rw [Bool.true_and] at ha
        subst ha
        go_enter Try.func25, Try.ntmps25
        go_wp2
        go_ret
        exact ⟨rfl, rfl⟩
    · have d2 : decide (j < n) = false := by simp; omega
      have e2 : decide ((j : Int) < (n : Int)) = false := by simp; omega
      rw [d1, d2, Bool.true_and, Bool.false_and, Bool.false_and] at ha
      subst ha
      clear h1 h2 h hi hj
      go_enter Try.func25, Try.ntmps25
      go_wp2
      go_ret
      exact ⟨rfl, rfl⟩
  · have d1 : decide (i < n) = false := by simp; omega
    have e1 : decide ((i : Int) < (n : Int)) = false := by simp; omega
    rw [d1, Bool.false_and, Bool.false_and, Bool.false_and] at ha
    subst ha
    clear h1 h2 h hi
    go_enter Try.func25, Try.ntmps25
    go_wp2
    go_ret
    exact ⟨rfl, rfl⟩
end Go.Proofs.Ytakehbljldjndaa
