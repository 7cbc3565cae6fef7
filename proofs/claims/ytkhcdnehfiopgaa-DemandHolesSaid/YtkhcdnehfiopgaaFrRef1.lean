/- The walks of the reference's Partition, Counts, Few (chapters 13, 5): configurations that came in. -/
import Derived.Test.YtkhcdnehfiopgaaCf
import Derived.Test.YtkhcdnehfiopgaaSwRef1
namespace Go.Proofs.Ytkhcdnehfiopgaa
open Go.RowKit Go.Sort
set_option linter.unusedVariables false

/-- The first index of an identifier, or -1. -/
def idxFrom (id : Nat) : List Nat → Nat → Int
  | [], _ => -1
  | x :: l, i => if x = id then (i : Int) else idxFrom id l (i + 1)
def idxId (l : List Nat) (id : Nat) : Int := idxFrom id l 0
theorem idxFrom_no {id : Nat} {l : List Nat} (h : ∀ x ∈ l, x ≠ id) (i : Nat) : idxFrom id l i = -1 := by
  induction l generalizing i with
  | nil => rfl
  | cons x l ih => rw [idxFrom, if_neg (h x (by simp)), ih (fun y hy => h y (by simp [hy]))]
theorem idxFrom_at {id : Nat} {l : List Nat} {k : Nat} (hk : k < l.length) (h : ∀ j, (hj : j < k) → l[j]'(by omega) ≠ id) (he : l[k] = id) (i : Nat) : idxFrom id l i = ((i + k : Nat) : Int) := by
  induction l generalizing i k with
  | nil => simp at hk
  | cons x l ih =>
    cases k with
    | zero => rw [idxFrom, if_pos (by simpa using he)]; rfl
    | succ k =>
      have h0 := h 0 (by omega)
      rw [idxFrom, if_neg (by simpa using h0), ih (by simpa using hk) (fun j hj => by simpa using h (j + 1) (by omega)) (by simpa using he)]
      congr 1; omega
theorem idxId_none {id : Nat} {l : List Nat} (h : ∀ j, (hj : j < l.length) → l[j] ≠ id) : idxId l id = -1 :=
  idxFrom_no (fun x hx => by obtain ⟨j, hj, rfl⟩ := List.getElem_of_mem hx; exact h j hj) 0
theorem idxId_at {id : Nat} {l : List Nat} {k : Nat} (hk : k < l.length) (h : ∀ j, (hj : j < k) → l[j]'(by omega) ≠ id) (he : l[k] = id) : idxId l id = (k : Int) := by
  have := idxFrom_at hk h he 0
  rwa [Nat.zero_add] at this
def ids (l : List PartR) : List Nat := l.map (·.id)
theorem ret_int {a b : Int} (h : a = b) : Ending.returned (.int .i64 a) = .returned (.int .i64 b) := by rw [h]

set_option maxRecDepth 100000 in
set_option maxHeartbeats 2000000 in
theorem RPartition_calls (c : Cfg) (id : Nat) (w : World) (h : CfgAt w.heap.size c w) (hid : id < 65536) :
    Calls Try.prog 57 #[cfgV c, .int .u16 (id : Int)] w fun e w' => e = .returned (.int .i64 (idxId (ids c.parts.l) id)) ∧ ∃ q os', w' = grow (w.drewN q) os' := by
  have hp := h.parts
  have hcap := hp.2
  obtain ⟨fr, ⟨pl, pa, pc⟩, ⟨wl, wa, wc⟩, ⟨rl, ra, rc⟩, ⟨ql, qa, qc⟩, ⟨cl, ca, cc⟩⟩ := c
  unfold cfgV
  simp only at hp hcap ⊢
  obtain ⟨n, hn⟩ : ∃ n, n = pl.length := ⟨_, rfl⟩
  rw [← hn] at hcap ⊢
  have hnI : (n : Int) ≤ 9223372036854775807 := by omega
  have hcI : (n : Int) ≤ (pc : Int) := by omega
  have HN := hide hn
  have HB : Hid (Below w.heap.size w (w.alloc (.cells #[.int .u64 (fr : Int), .slice pa n pc, .slice wa wl.length wc, .slice ra rl.length rc, .slice qa ql.length qc, .slice ca cl.length cc] 29))) := hide ((Below.refl _ w).alloc (Nat.le_refl _) _)
  have HP := hide (hp.below HB.out)
  have HG := hide ((Gr.refl w).alloc (.cells #[.int .u64 (fr : Int), .slice pa n pc, .slice wa wl.length wc, .slice ra rl.length rc, .slice qa ql.length qc, .slice ca cl.length cc] 29))
  obtain ⟨R, hR⟩ : ∃ R, R = idxId (ids pl) id := ⟨_, rfl⟩
  rw [← hR]
  have HR := hide hR
  generalize wl.length = wn at *
  generalize rl.length = rn at *
  generalize ql.length = qn at *
  generalize cl.length = cn at *
  clear h hp hcap hn hR
  go_enter Try.func57, Try.ntmps57
  go_wp2
  go_loop [5] (fun v => ∃ k : Nat, k ≤ n ∧ v = .int .i64 (k : Int) ∧ Hid (∀ j, (hj : j < pl.length) → j < k → pl[j].id ≠ id)) (fun v => n - (intOf v).toNat)
  case atStart => exact ⟨0, Nat.zero_le _, rfl, hide (fun j _ h => absurd h (by omega))⟩
  case round =>
    obtain ⟨k, hk, rfl, hrel⟩ := hrel
    by_cases hlt : k < n
    · have hlt2 : (k : Int) < (n : Int) := by omega
      have hkl : k < pl.length := by have := HN.out; omega
      obtain ⟨b, o, rfl, hab, x0, _⟩ := part_at HP.out k hkl
      by_cases he : pl[k].id = id
      · have hR2 : R = (k : Int) := by
          rw [HR.out]
          exact idxId_at (by simpa [ids] using hkl) (fun j hj => by simpa [ids] using hrel.out j (by omega) hj) (by simpa [ids] using he)
        have HE := hide hR2
        have e0 : ((pl[k].id : Int) == (id : Int)) = true := by rw [he]; exact beq_self_eq_true _
        simp only at x0
        generalize pl[k].id = y at *
        clear he hR2
        go_wp2
        go_ret
        exact ⟨ret_int HE.out.symm, HG.out⟩
      · have e0 : ((pl[k].id : Int) == (id : Int)) = false := by rw [beq_eq_false_iff_ne]; exact fun h => he (by exact_mod_cast h)
        have hrel2 : Hid (∀ j, (hj : j < pl.length) → j < k + 1 → pl[j].id ≠ id) := hide (fun j hj hjk => by
          rcases Nat.lt_or_ge j k with h1 | h1
          · exact hrel.out j hj h1
          · obtain rfl : j = k := by omega
            exact he)
        simp only at x0
        generalize pl[k].id = y at *
        clear he hrel
        go_wp2
        go_round
        case rel => exact ⟨k + 1, by omega, by go_num, hrel2⟩
        case measure => simp [intOf]; omega
    · have hkn : k = n := by omega
      subst hkn
      have hR2 : R = -1 := by
        rw [HR.out]
        exact idxId_none (fun j hj => by
          have hj' : j < pl.length := by simpa [ids] using hj
          simpa [ids] using hrel.out j hj' (by have := HN.out; omega))
      have HE := hide hR2
      clear hlt hk hR2
      go_wp2
      go_ret
      exact ⟨ret_int HE.out.symm, HG.out⟩
end Go.Proofs.Ytkhcdnehfiopgaa
