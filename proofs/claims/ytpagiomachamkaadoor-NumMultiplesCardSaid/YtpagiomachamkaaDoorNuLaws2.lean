/- The law NumAdds walked. -/
import Derived.Test.YtpagiomachamkaaDoorNuLaws1
namespace Go.Proofs.YtpagiomachamkaaDoor
open Go.RowKit Go.Lib

theorem optV_form (r : Option Nat) (h : ∀ n, r = some n → n < top64) : ∃ (m : Nat) (k : Bool), optV r = .tuple #[.int .u64 (m : Int), .bool k] ∧ m < top64 := by
  cases r with
  | none => exact ⟨0, false, rfl, by decide⟩
  | some m => exact ⟨m, true, rfl, h m rfl⟩
theorem foldO_lt {g : Nat → Nat → Option Nat} (hg : ∀ a b m, g a b = some m → m < top64) : ∀ (l : List Nat) (n m : Nat), n < top64 → foldO g n l = some m → m < top64 := by
  intro l
  induction l with
  | nil => intro n m hn h; injection h with h; omega
  | cons x l ih =>
    intro n m hn h
    simp only [foldO] at h
    split at h
    · cases h
    · exact ih _ m (hg _ _ _ (by assumption)) h
theorem sums (l : List Nat) (m n : Nat) (h : foldO plusO 0 l = some n) : ∃ a b, foldO plusO 0 (l.take m) = some a ∧ foldO plusO 0 (l.drop m) = some b ∧ plusO a b = some n := by
  rw [fold_plus l 0 (by decide), Nat.zero_add] at h
  obtain ⟨rfl, hl⟩ := fitO_some h
  have hs : (l.take m).sum + (l.drop m).sum = l.sum := by rw [← List.sum_append, List.take_append_drop]
  refine ⟨(l.take m).sum, (l.drop m).sum, ?_, ?_, ?_⟩
  · rw [fold_plus _ 0 (by decide), Nat.zero_add]; unfold fitO; rw [if_pos (by omega)]
  · rw [fold_plus _ 0 (by decide), Nat.zero_add]; unfold fitO; rw [if_pos (by omega)]
  · unfold plusO fitO; rw [hs, if_pos hl]
theorem Reads.take {w : World} {B n k : Nat} {A : Option Addr} {xs : List Value} (h : Reads w B 1 A n xs) (hk : k ≤ n) : Reads w B 1 A k (xs.take k) := by
  refine ⟨by rw [List.length_take, h.1]; omega, fun hk0 => ?_⟩
  obtain ⟨ad, e, hb, hc⟩ := h.2 (by omega)
  refine ⟨ad, e, hb, fun j u hu => hc j u ?_⟩
  rw [List.getElem?_take] at hu
  split at hu
  · exact hu
  · cases hu

theorem slice_from (A : Option Addr) (len cap m : Nat) (hm : m ≤ len) (w : World) :
    (Instr.slice 22 (.slice A len cap) (some (.int .i64 (m : Int))) none none).run Tryd.prog w = .ok (.slice (if cap = m then A else A.map (·.add (m * 1))) (len - m) (cap - m)) w := by
  rw [run_slice_l w 22 A len cap (by simp [Program.elem, Tryd.underlying22]) .i64 (m : Int) (by omega) (by omega)]
  go_simp
theorem slice_to (A : Option Addr) (len cap m : Nat) (hm : m ≤ cap) (w : World) :
    (Instr.slice 22 (.slice A len cap) none (some (.int .i64 (m : Int))) none).run Tryd.prog w = .ok (.slice A m cap) w := by
  rw [run_slice_h w 22 A len cap (by simp [Program.elem, Tryd.underlying22]) .i64 (m : Int) (by omega) (by omega)]
  go_simp
set_option maxHeartbeats 2000000 in
theorem NumAdds_calls (A : Option Addr) (len cap : Nat) (l : List Nat) (k : Nat) (hk : k < 256) (hl : l.length = len) (hlc : len ≤ cap) (hcap : cap ≤ 9223372036854775807) (hx : ∀ x ∈ l, x < top64) (w : World)
    (hr : Reads w w.heap.size 1 A len (l.map U64)) (hv : Vars w) :
    Calls Tryd.prog 3 #[.slice A len cap, .int .u8 (k : Int)] w fun e w' => e = .returned (.bool true) ∧ Below w.heap.size w w' := by
  have HV := hide hv
  by_cases hn : len ≤ 300
  · obtain ⟨m, hm⟩ : ∃ m, m = k % (len + 1) := ⟨_, rfl⟩
    have hml : m ≤ len := by have := Nat.mod_lt k (show 0 < len + 1 by omega); omega
    have hmi : (k : Int) % ((len : Int) + 1) = (m : Int) := by rw [hm, Int.natCast_emod]; rfl
    obtain ⟨S, hS⟩ : ∃ S, S = (if cap = m then A else A.map (·.add (m * 1))) := ⟨_, rfl⟩
    have hsf := fun W => slice_from A len cap m hml W
    have hst := fun W => slice_to A len cap m (by omega) W
    rw [← hS] at hsf
    have h1 := fun W (hb : Below w.heap.size w W) => Add_calls A len cap l hl (by omega) hx W ((hr.below hb).more hb.size)
    have h2 := fun W (hb : Below w.heap.size w W) => RefAdd_calls A len cap l hl (by omega) hx W ((hr.below hb).more hb.size)
    have h3 := fun W (hb : Below w.heap.size w W) => Add_calls A m cap (l.take m) (by rw [List.length_take]; omega) (by omega) (fun x h => hx x (List.mem_of_mem_take h)) W (by have := Reads.take ((hr.below hb).more hb.size) hml; rwa [← List.map_take] at this)
    have h4 := fun W (hb : Below w.heap.size w W) => Add_calls S (len - m) (cap - m) (l.drop m) (by rw [List.length_drop]; omega) (by omega) (fun x h => hx x (List.mem_of_mem_drop h)) W (by have := ((hr.below hb).more hb.size).cut hml hlc; rw [← hS, Nat.mul_one, ← List.map_drop] at this; exact this)
    obtain ⟨a, p, ea, ha⟩ := optV_form (foldO plusO 0 (l.take m)) (fun n h => foldO_lt (fun _ _ _ h => plusO_lt h) _ 0 n (by decide) h)
    obtain ⟨b, q, eb, hb⟩ := optV_form (foldO plusO 0 (l.drop m)) (fun n h => foldO_lt (fun _ _ _ h => plusO_lt h) _ 0 n (by decide) h)
    obtain ⟨c, r, ec, _⟩ := optV_form (plusO a b) (fun n h => plusO_lt h)
    have h5 := fun W => Add_two a b ha hb W 24
    have hsum := fun n h => sums l m n h
    unfold FoldV at h1 h2 h3 h4
    rw [ea] at h3
    rw [eb] at h4
    rw [ec] at h5
    cases hR : foldO plusO 0 l with
    | none =>
      rw [hR, optV] at h1 h2
      have H1 := hide h1
      have H2 := hide h2
      have H3 := hide h3
      have H4 := hide h4
      have H5 := hide h5
      clear h1 h2 h3 h4 h5 hS hr hx hv hsum ea eb ec hl hR hm ha hb
      go_enter Tryd.func3, Tryd.ntmps3
      go_wp2_with (first
        | (go_at_call 10; first | ((with_reducible refine (H1.out _ (Below.refl _ _)).mono ?_); rintro e w1 ⟨rfl, hb1⟩) | ((with_reducible refine (H3.out _ hb2).mono ?_); rintro e w3 ⟨rfl, hbx⟩; have hb3 := hb2.trans (hbx.mono hb2.size); clear hbx) | ((with_reducible refine (H4.out _ hb3).mono ?_); rintro e w4 ⟨rfl, hbx⟩; have hb4 := hb3.trans (hbx.mono hb3.size); clear hbx) | (refine (H5.out _).mono ?_; rintro e w5 ⟨rfl, hbx⟩; have hb5 := hb4.trans (hbx.mono hb4.size); clear hbx))
        | (go_at_call 11; refine (H2.out _ hb1).mono ?_; rintro e w2 ⟨rfl, hbx⟩; have hb2 := hb1.trans (hbx.mono hb1.size); clear hbx)
        | (go_at_call 9; refine (alive_calls _ (HV.out.below hb5)).mono ?_; rintro e w6 ⟨rfl, hb6⟩))
      go_ret
      exact ⟨rfl, hb5.trans (hb6.mono hb5.size)⟩
    | some n =>
      obtain ⟨a', b', fa, fb, fc⟩ := hsum n hR
      rw [fa, optV] at ea
      rw [fb, optV] at eb
      obtain ⟨rfl, rfl⟩ : a = a' ∧ p = true := by injection ea with ea; simp at ea; exact ⟨by omega, ea.2⟩
      obtain ⟨rfl, rfl⟩ : b = b' ∧ q = true := by injection eb with eb; simp at eb; exact ⟨by omega, eb.2⟩
      rw [fc, optV] at ec
      obtain ⟨rfl, rfl⟩ : c = n ∧ r = true := by injection ec with ec; simp at ec; exact ⟨by omega, ec.2⟩
      rw [hR, optV] at h1 h2
      have H1 := hide h1
      have H2 := hide h2
      have H3 := hide h3
      have H4 := hide h4
      have H5 := hide h5
      clear h1 h2 h3 h4 h5 hS hr hx hv hsum ea eb ec hl hR hm ha hb fa fb fc
      go_enter Tryd.func3, Tryd.ntmps3
      go_wp2_with (first
        | (go_at_call 10; first | ((with_reducible refine (H1.out _ (Below.refl _ _)).mono ?_); rintro e w1 ⟨rfl, hb1⟩) | ((with_reducible refine (H3.out _ hb2).mono ?_); rintro e w3 ⟨rfl, hbx⟩; have hb3 := hb2.trans (hbx.mono hb2.size); clear hbx) | ((with_reducible refine (H4.out _ hb3).mono ?_); rintro e w4 ⟨rfl, hbx⟩; have hb4 := hb3.trans (hbx.mono hb3.size); clear hbx) | (refine (H5.out _).mono ?_; rintro e w5 ⟨rfl, hbx⟩; have hb5 := hb4.trans (hbx.mono hb4.size); clear hbx))
        | (go_at_call 11; refine (H2.out _ hb1).mono ?_; rintro e w2 ⟨rfl, hbx⟩; have hb2 := hb1.trans (hbx.mono hb1.size); clear hbx)
        | (go_at_call 9; refine (alive_calls _ (HV.out.below hb5)).mono ?_; rintro e w6 ⟨rfl, hb6⟩))
      go_ret
      exact ⟨rfl, hb5.trans (hb6.mono hb5.size)⟩
  · have hni : (300 : Int) < (len : Int) := by omega
    clear hr hx hv hl
    go_enter Tryd.func3, Tryd.ntmps3
    go_wp2_with (go_at_call 9; refine (alive_calls _ HV.out).mono ?_; rintro e w6 ⟨rfl, hb6⟩)
    go_ret
    exact ⟨rfl, hb6⟩
end Go.Proofs.YtpagiomachamkaaDoor
