/- The example of chapter 15 holds; equality of faults. The plain laws of FrameCounts (chapter 15). The plain laws of FrameFills (chapter 15). Right windows in the order of their Start are a schedule; there is one such order. -/
import Derived.Test.YtkhcdnehfiopgaaFrA
import Derived.Test.YtkhcdnehfiopgaaFrRef4
import Derived.Stop.BytesEq
import Derived.Test.YtkhcdnehfiopgaaSdLaw
import Derived.Test.YtkhcdnehfiopgaaFrWins
namespace Go.Proofs.Ytkhcdnehfiopgaa
open Go.RowKit Go.Sort
set_option linter.unusedVariables false

theorem fault_eql (c i j c2 i2 j2 : Int) (w : World) : (binOp .eql 36 (.agg #[.int .i64 c, .int .i64 i, .int .i64 j]) (.agg #[.int .i64 c2, .int .i64 i2, .int .i64 j2])).run Try.prog w = .ok (.bool (c == c2 && (i == i2 && j == j2))) w := by
  have hf : Try.prog.underlying 36 = some (.struct (Try.prog.fieldsOf 36)) := by kernel_rfl
  have hp : Try.prog.stoodInHeld 36 = false := by kernel_rfl
  rw [run_eql_struct, run_equalIn_agg w 9999 _ _ _ hf hp]
  unfold Program.fieldsOf
  rw [Try.underlying36]
  simp [Op.eqFields, part, run_equalIn_int]
  by_cases h1 : c = c2 <;> by_cases h2 : i = i2 <;> by_cases h3 : j = j2 <;> simp [h1, h2, h3]
theorem fault_guard (o : BinOp) (x y : Operand) (xs ys : Array Value) (w : World) : (eqGuard o 36 x y (.agg xs) (.agg ys)).run Try.prog w = .ok () w :=
  run_eqGuard_agg w _ _ _ _ _ _ (by kernel_rfl)
def exC (B : Nat) : Cfg := ⟨100, ⟨[⟨1, ⟨#[97]⟩, 0, 0⟩], some ⟨B, 0, none⟩, 1⟩, ⟨[⟨50, 10, 1⟩, ⟨10, 20, 1⟩], some ⟨B + 1, 0, none⟩, 2⟩, ⟨[], none, 0⟩, ⟨[], none, 0⟩, ⟨[], none, 0⟩⟩
theorem exC_check (B : Nat) : checkR (exC B) = (0, 0, 0) := by rfl
theorem exC_wo (B : Nat) : wo (exC B).wins.l 1 = [(50, 60), (10, 30)] := by show wo [⟨50, 10, 1⟩, ⟨10, 20, 1⟩] 1 = _; decide +kernel
theorem ex_busy : busyL [(50, 60), (10, 30)] = 30 := by decide +kernel
theorem ex_used : usedL 25 55 [(50, 60), (10, 30)] = 10 := by decide +kernel
theorem exC_gaps (B : Nat) : gapsR (exC B).frame ((exC B).wins.l.map wsp) = [(0, 10), (30, 20), (60, 40)] := by show gapsR 100 [(50, 10), (10, 20)] = _; decide +kernel
theorem exC_ok (B : Nat) : (exC B).Ok := by
  refine ⟨by simp [exC], ?_, ?_, ?_, ?_, ?_⟩
  · intro x hx; simp [exC] at hx; subst hx; exact ⟨by decide, by decide, by decide, by decide⟩
  · intro x hx; simp [exC] at hx; rcases hx with rfl | rfl <;> exact ⟨by decide, by decide, by decide⟩
  · intro x hx; simp [exC] at hx
  · intro x hx; simp [exC] at hx
  · intro x hx; simp [exC] at hx
theorem exC_sp (B : Nat) : ∀ s ∈ (exC B).wins.l.map wsp, okSpan s := by
  intro s hs; simp [exC, wsp] at hs; rcases hs with rfl | rfl <;> exact ⟨by decide, by decide⟩
theorem exC_small (B : Nat) : (exC B).Small := by unfold Cfg.Small; simp [exC, linksN]
/-- The example in memory. -/
def ExE (w W : World) : Prop := Below w.heap.size w W ∧ CfgAt W.heap.size (exC w.heap.size) W ∧ Blk W (w.heap.size + 2) 29 #[.int .u64 100, .slice (some ⟨w.heap.size, 0, none⟩) 1 1, .slice (some ⟨w.heap.size + 1, 0, none⟩) 2 2, .slice none 0 0, .slice none 0 0, .slice none 0 0]
theorem ExE.below {w W W' : World} (h : ExE w W) (hb : Below W.heap.size W W') : ExE w W' := ⟨h.1.trans (hb.mono h.1.size), CfgAt.more (h.2.1.below hb) hb.size, h.2.2.below hb h.2.2.lt⟩
theorem nil_row {α : Type} {enc : α → List Value} {k B : Nat} {w : World} : RowAt enc k B ⟨[], none, 0⟩ w := ⟨⟨by simp, fun h => absurd h (by simp)⟩, Nat.le_refl _, Nat.zero_le _⟩
theorem reads_blk {w : World} {g B size n : Nat} {t : TypeId} {cs : Array Value} {xs : List Value} (h : Blk w g t cs) (hB : g < B) (hx : cs.toList = xs) (hl : xs.length = n * size) : Reads w B size (some ⟨g, 0, none⟩) n xs :=
  ⟨hl, fun _ => ⟨_, rfl, hB, fun j u hu => by rw [addr_plain, Nat.zero_add, h.cell, ← Array.getElem?_toList, hx]; exact hu⟩⟩
theorem ExE.start (w : World) : ExE w (((w.alloc (.cells #[.int .u16 1, .string ⟨#[97]⟩, .int .u64 0, .int .u64 0] 40)).alloc (.cells #[.int .u64 50, .int .u64 10, .int .u16 1, .int .u64 10, .int .u64 20, .int .u16 1] 49)).alloc (.cells #[.int .u64 100, .slice (some ⟨w.heap.size, 0, none⟩) 1 1, .slice (some ⟨w.heap.size + 1, 0, none⟩) 2 2, .slice none 0 0, .slice none 0 0, .slice none 0 0] 29)) := by
  have h1 := ((Blk.new w 40 #[.int .u16 1, .string ⟨#[97]⟩, .int .u64 0, .int .u64 0]).alloc (.cells #[.int .u64 50, .int .u64 10, .int .u16 1, .int .u64 10, .int .u64 20, .int .u16 1] 49)).alloc (.cells #[.int .u64 100, .slice (some ⟨w.heap.size, 0, none⟩) 1 1, .slice (some ⟨w.heap.size + 1, 0, none⟩) 2 2, .slice none 0 0, .slice none 0 0, .slice none 0 0] 29)
  have h2 := (Blk.new (w.alloc (.cells #[.int .u16 1, .string ⟨#[97]⟩, .int .u64 0, .int .u64 0] 40)) 49 #[.int .u64 50, .int .u64 10, .int .u16 1, .int .u64 10, .int .u64 20, .int .u16 1]).alloc (.cells #[.int .u64 100, .slice (some ⟨w.heap.size, 0, none⟩) 1 1, .slice (some ⟨w.heap.size + 1, 0, none⟩) 2 2, .slice none 0 0, .slice none 0 0, .slice none 0 0] 29)
  have h3 := Blk.new ((w.alloc (.cells #[.int .u16 1, .string ⟨#[97]⟩, .int .u64 0, .int .u64 0] 40)).alloc (.cells #[.int .u64 50, .int .u64 10, .int .u16 1, .int .u64 10, .int .u64 20, .int .u16 1] 49)) 29 #[.int .u64 100, .slice (some ⟨w.heap.size, 0, none⟩) 1 1, .slice (some ⟨w.heap.size + 1, 0, none⟩) 2 2, .slice none 0 0, .slice none 0 0, .slice none 0 0]
  simp only [World.size_alloc, Nat.add_assoc, Nat.reduceAdd] at h2 h3
  refine ⟨(((Below.refl _ w).alloc (Nat.le_refl _) _).alloc (by simp) _).alloc (by simp; omega) _, ?_, h3⟩
  refine ⟨⟨reads_blk h1 h1.lt rfl rfl, by simp [exC], by simp [exC]⟩, ⟨reads_blk h2 h2.lt rfl rfl, by simp [exC], by simp [exC]⟩, nil_row, nil_row, nil_row, fun x hx => by simp [exC] at hx⟩
end Go.Proofs.Ytkhcdnehfiopgaa
namespace Go.Proofs.Ytkhcdnehfiopgaa
open Go.RowKit Go.Sort
set_option linter.unusedVariables false

theorem badAt_none_all {f : WinR → Nat} : ∀ {l : List WinR} {i : Nat}, badAt f l i = none → ∀ x ∈ l, f x = 0
  | [], _, _ => by simp
  | y :: l, i, h => by
    rw [badAt] at h
    by_cases hy : f y = 0
    · rw [if_pos hy] at h
      intro x hx
      rcases List.mem_cons.1 hx with rfl | hx
      · exact hy
      · exact badAt_none_all h x hx
    · rw [if_neg hy] at h; cases h
theorem badAt_some_ne {f : WinR → Nat} : ∀ {l : List WinR} {i e j : Nat}, badAt f l i = some (e, j) → e ≠ 0
  | [], _, _, _, h => by cases h
  | y :: l, i, e, j, h => by
    rw [badAt] at h
    by_cases hy : f y = 0
    · rw [if_pos hy] at h; exact badAt_some_ne h
    · rw [if_neg hy] at h; injection h with h; injection h with h1 h2; rw [← h1]; exact hy
theorem right_all {c : Cfg} (h : rightB c = true) : c.frame ≠ 0 ∧ (∀ x ∈ c.wins.l, winCode c x = 0) ∧ firstOver c.wins.l = none ∧ checkR c = (0, 0, 0) := by
  unfold rightB at h
  simp only [Bool.and_eq_true, decide_eq_true_eq] at h
  obtain ⟨_, h⟩ := h
  unfold checkR at h ⊢
  by_cases hf : c.frame = 0
  · rw [if_pos hf] at h; cases h
  · rw [if_neg hf] at h ⊢
    cases hb : badAt (winCode c) c.wins.l 0 with
    | some r => obtain ⟨e, i⟩ := r; rw [hb] at h; exact absurd h (badAt_some_ne hb)
    | none =>
      rw [hb] at h
      cases hv : firstOver c.wins.l with
      | some j => rw [hv] at h; cases h
      | none => exact ⟨hf, badAt_none_all hb, rfl, rfl⟩
theorem win_right {c : Cfg} {x : WinR} (h : winCode c x = 0) : x.len ≠ 0 ∧ x.st + x.len ≤ c.frame := by
  unfold winCode at h
  split at h
  · cases h
  · split at h
    · cases h
    · omega
/-- What holds of each range of right windows. -/
def okR (F : Nat) (x : Nat × Nat) : Prop := x.1 < x.2 ∧ x.2 ≤ F
theorem wo_ok {c : Cfg} (h : rightB c = true) (hf : c.frame < 18446744073709551616) (p : Nat) : ∀ x ∈ wo c.wins.l p, okR c.frame x := by
  intro x hx
  unfold wo at hx
  obtain ⟨y, hy, rfl⟩ := List.mem_map.1 hx
  have := win_right ((right_all h).2.1 y (List.mem_filter.1 hy).1)
  unfold okR hiW
  simp only
  rw [Nat.mod_eq_of_lt (by omega)]
  omega
def uS (f t : Nat) (l : List (Nat × Nat)) : Nat := (l.map fun x => min x.2 t - max x.1 f).sum
def bS (l : List (Nat × Nat)) : Nat := (l.map fun x => x.2 - x.1).sum
theorem usedF_eq (f t n : Nat) (x : Nat × Nat) (hn : n < 18446744073709551616) : usedF f t n x = (n + (min x.2 t - max x.1 f)) % 18446744073709551616 := by
  unfold usedF
  by_cases h : max x.1 f < min x.2 t
  · rw [if_pos h]
  · rw [if_neg h]
    have : min x.2 t - max x.1 f = 0 := by omega
    rw [this, Nat.add_zero, Nat.mod_eq_of_lt hn]
theorem used_fold (f t : Nat) : ∀ (l : List (Nat × Nat)) (n : Nat), n < 18446744073709551616 → l.foldl (usedF f t) n = (n + uS f t l) % 18446744073709551616
  | [], n, hn => by simp [uS, Nat.mod_eq_of_lt hn]
  | x :: l, n, hn => by
    rw [List.foldl_cons, usedF_eq f t n x hn, used_fold f t l _ (Nat.mod_lt _ (by decide))]
    unfold uS
    rw [List.map_cons, List.sum_cons]
    generalize (l.map fun x => min x.2 t - max x.1 f).sum = s
    generalize min x.2 t - max x.1 f = d
    omega
theorem usedL_eq (f t : Nat) (l : List (Nat × Nat)) : usedL f t l = uS f t l % 18446744073709551616 := by
  unfold usedL
  rw [used_fold f t l 0 (by decide), Nat.zero_add]
theorem busyF_eq (n : Nat) (x : Nat × Nat) (F : Nat) (hx : okR F x) (hF : F < 18446744073709551616) : busyF n x = (n + (x.2 - x.1)) % 18446744073709551616 := by
  unfold busyF busyN
  unfold okR at hx
  rw [subW_le (by omega) (by omega)]
theorem busy_fold (F : Nat) (hF : F < 18446744073709551616) : ∀ (l : List (Nat × Nat)) (n : Nat), (∀ x ∈ l, okR F x) → n < 18446744073709551616 → l.foldl busyF n = (n + bS l) % 18446744073709551616
  | [], n, _, hn => by simp [bS, Nat.mod_eq_of_lt hn]
  | x :: l, n, h, hn => by
    rw [List.foldl_cons, busyF_eq n x F (h x (by simp)) hF, busy_fold F hF l _ (fun y hy => h y (by simp [hy])) (Nat.mod_lt _ (by decide))]
    unfold bS
    rw [List.map_cons, List.sum_cons]
    generalize (l.map fun x => x.2 - x.1).sum = s
    generalize x.2 - x.1 = d
    omega
theorem busyL_eq (F : Nat) (hF : F < 18446744073709551616) (l : List (Nat × Nat)) (h : ∀ x ∈ l, okR F x) : busyL l = bS l % 18446744073709551616 := by
  unfold busyL
  rw [busy_fold F hF l 0 h (by decide), Nat.zero_add]
theorem uS_frame (F : Nat) : ∀ (l : List (Nat × Nat)), (∀ x ∈ l, okR F x) → uS 0 F l = bS l
  | [], _ => rfl
  | x :: l, h => by
    have h0 := h x (by simp)
    have := uS_frame F l (fun y hy => h y (by simp [hy]))
    unfold uS bS okR at *
    rw [List.map_cons, List.sum_cons, List.map_cons, List.sum_cons, this]
    omega
theorem uS_three (F a b M : Nat) (hab : a ≤ b) (hF : F ≤ M) : ∀ (l : List (Nat × Nat)), (∀ x ∈ l, okR F x) → uS 0 a l + uS a b l + uS b M l = bS l
  | [], _ => rfl
  | x :: l, h => by
    have h0 := h x (by simp)
    have := uS_three F a b M hab hF l (fun y hy => h y (by simp [hy]))
    unfold uS bS okR at *
    simp only [List.map_cons, List.sum_cons]
    rw [← this]
    have e : (min x.2 a - max x.1 0) + (min x.2 b - max x.1 a) + (min x.2 M - max x.1 b) = x.2 - x.1 := by omega
    rw [← e]
    omega
theorem uS_none (a : Nat) : ∀ (l : List (Nat × Nat)), uS a a l = 0
  | [] => rfl
  | x :: l => by
    have := uS_none a l
    unfold uS at *
    rw [List.map_cons, List.sum_cons, this]
    omega
theorem used_frame {F : Nat} (hF : F < 18446744073709551616) {l : List (Nat × Nat)} (h : ∀ x ∈ l, okR F x) : usedL 0 F l = busyL l := by
  rw [usedL_eq, busyL_eq F hF l h, uS_frame F l h]
theorem used_none (a : Nat) (l : List (Nat × Nat)) : usedL a a l = 0 := by rw [usedL_eq, uS_none]
theorem used_three {F a b : Nat} (hF : F < 18446744073709551616) (hab : a ≤ b) {l : List (Nat × Nat)} (h : ∀ x ∈ l, okR F x) :
    ((usedL 0 a l + usedL a b l) % 18446744073709551616 + usedL b 18446744073709551615 l) % 18446744073709551616 = busyL l := by
  rw [busyL_eq F hF l h, ← uS_three F a b 18446744073709551615 hab (by omega) l h]
  rw [usedL_eq, usedL_eq, usedL_eq]
  generalize uS 0 a l = x
  generalize uS a b l = y
  generalize uS b 18446744073709551615 l = z
  omega
end Go.Proofs.Ytkhcdnehfiopgaa
namespace Go.Proofs.Ytkhcdnehfiopgaa
open Go.RowKit Go.Sort
set_option linter.unusedVariables false

/-! ### Ticks -/
def ind (s : Nat × Nat) (t : Nat) : Nat := if s.1 ≤ t ∧ t < s.1 + s.2 then 1 else 0
def sumT (f : Nat → Nat) : Nat → Nat
  | 0 => 0
  | n + 1 => sumT f n + f n
theorem sumT_add (f g : Nat → Nat) : ∀ n, sumT (fun t => f t + g t) n = sumT f n + sumT g n
  | 0 => rfl
  | n + 1 => by unfold sumT; rw [sumT_add f g n]; omega
theorem sumT_zero : ∀ n, sumT (fun _ => 0) n = 0
  | 0 => rfl
  | n + 1 => by unfold sumT; rw [sumT_zero n]
theorem sumT_one (f : Nat → Nat) : ∀ n, (∀ t, t < n → f t = 1) → sumT f n = n
  | 0, _ => rfl
  | n + 1, h => by unfold sumT; rw [sumT_one f n (fun t ht => h t (by omega)), h n (by omega)]
theorem sumT_ind (s : Nat × Nat) : ∀ n, sumT (ind s) n = min n (s.1 + s.2) - s.1
  | 0 => by simp [sumT]
  | n + 1 => by
    rw [sumT, sumT_ind s n]
    unfold ind
    split <;> omega
def lenSum (l : List (Nat × Nat)) : Nat := (l.map fun x => x.2).sum
def cnt (l : List (Nat × Nat)) (t : Nat) : Nat := (l.map fun s => ind s t).sum
theorem sumT_cnt (n : Nat) : ∀ l : List (Nat × Nat), (∀ s ∈ l, s.1 + s.2 ≤ n) → sumT (cnt l) n = lenSum l
  | [], _ => by
    have e : cnt [] = fun _ => 0 := rfl
    rw [e, sumT_zero]; rfl
  | s :: l, h => by
    have e : cnt (s :: l) = fun t => ind s t + cnt l t := by funext t; simp [cnt]
    have h0 := h s (by simp)
    rw [e, sumT_add, sumT_ind, sumT_cnt n l (fun x hx => h x (by simp [hx]))]
    unfold lenSum
    rw [List.map_cons, List.sum_cons]
    omega
theorem cnt_no {t : Nat} : ∀ {l : List (Nat × Nat)}, ¬ covL l t → cnt l t = 0
  | [], _ => rfl
  | s :: l, h => by
    have h1 : ¬ inS s t := fun hs => h ⟨s, by simp, hs⟩
    have h2 : ¬ covL l t := fun ⟨x, hx, hs⟩ => h ⟨x, by simp [hx], hs⟩
    have := cnt_no h2
    unfold cnt at *
    rw [List.map_cons, List.sum_cons, this]
    unfold ind
    unfold inS at h1
    rw [if_neg h1]
def Parted (l : List (Nat × Nat)) : Prop := l.Pairwise fun a b => ∀ t, ¬ (inS a t ∧ inS b t)
theorem cnt_yes {t : Nat} : ∀ {l : List (Nat × Nat)}, Parted l → covL l t → cnt l t = 1
  | [], _, h => by obtain ⟨s, hs, _⟩ := h; cases hs
  | s :: l, hp, h => by
    unfold Parted at hp
    rw [List.pairwise_cons] at hp
    by_cases h1 : inS s t
    · have h2 : ¬ covL l t := fun ⟨x, hx, hs⟩ => hp.1 x hx t ⟨h1, hs⟩
      have := cnt_no h2
      unfold cnt at *
      rw [List.map_cons, List.sum_cons, this]
      unfold ind
      unfold inS at h1
      rw [if_pos h1]
    · obtain ⟨x, hx, hs⟩ := h
      have hxl : x ∈ l := by
        rcases List.mem_cons.1 hx with rfl | hx
        · exact absurd hs h1
        · exact hx
      have := cnt_yes (t := t) hp.2 ⟨x, hxl, hs⟩
      unfold cnt at *
      rw [List.map_cons, List.sum_cons, this]
      unfold ind
      unfold inS at h1
      rw [if_neg h1]
theorem Apart.parted {l : List (Nat × Nat)} (h : Apart l) : Parted l := by
  refine h.1.imp fun {a b} hab t ht => ?_
  unfold inS at ht
  omega
/-- The spans and the gaps fill the frame. -/
theorem fill_total {F : Nat} (hF : F < 18446744073709551616) {l : List (Nat × Nat)} (hp : Parted l) (h : ∀ s ∈ l, 1 ≤ s.2 ∧ s.1 + s.2 ≤ F) : lenSum l + lenSum (gapsR F l) = F := by
  have hok : ∀ s ∈ l, okSpan s := fun s hs => by have := h s hs; unfold okSpan; omega
  obtain ⟨ga, gc⟩ := gapsR_spec F l (fun s hs => (h s hs).1)
  rw [← sumT_cnt F l (fun s hs => (h s hs).2), ← sumT_cnt F (gapsR F l) (fun s hs => (gapsR_ok F hok s hs).2), ← sumT_add]
  refine sumT_one _ F fun t ht => ?_
  by_cases hc : covL l t
  · rw [cnt_yes hp hc, cnt_no (fun hg => ((gc t).1 hg).2 hc)]
  · rw [cnt_no hc, cnt_yes ga.parted ((gc t).2 ⟨ht, hc⟩)]
theorem wins_span {c : Cfg} (h : rightB c = true) : ∀ s ∈ c.wins.l.map wsp, 1 ≤ s.2 ∧ s.1 + s.2 ≤ c.frame := by
  intro s hs
  obtain ⟨x, hx, rfl⟩ := List.mem_map.1 hs
  have := win_right ((right_all h).2.1 x hx)
  unfold wsp
  simp only
  omega
theorem wins_ok {c : Cfg} (h : rightB c = true) (hf : c.frame < 18446744073709551616) : ∀ s ∈ c.wins.l.map wsp, okSpan s := fun s hs => by
  have := wins_span h s hs
  unfold okSpan
  omega
theorem wins_parted {c : Cfg} (h : rightB c = true) (hf : c.frame < 18446744073709551616) : Parted (c.wins.l.map wsp) := by
  unfold Parted
  rw [List.pairwise_iff_getElem]
  intro i j hi hj hij t ht
  rw [List.length_map] at hi hj
  simp only [List.getElem_map] at ht
  have ho1 := wins_ok h hf (wsp c.wins.l[i]) (List.mem_map_of_mem (List.getElem_mem _))
  have ho2 := wins_ok h hf (wsp c.wins.l[j]) (List.mem_map_of_mem (List.getElem_mem _))
  have hm : meetB (wsp c.wins.l[i]) (wsp c.wins.l[j]) = true := by
    rw [meetB_ok ho1 ho2]
    unfold meetS hasS lastS
    unfold inS at ht
    unfold okSpan at ho1 ho2
    simp only [Bool.or_eq_true, Bool.and_eq_true, decide_eq_true_eq]
    omega
  have hv := overAt_yes hj hij hm
  have hn := (right_all h).2.2.1
  unfold firstOver at hn
  have := List.find?_eq_none.1 hn j (by simpa using hj)
  exact this hv
/-! ### The partitions' parts -/
def lenW (l : List WinR) : Nat := (l.map fun x => x.len).sum
def lenP (l : List WinR) (P : List Nat) : Nat := lenW (l.filter fun x => decide (x.part ∈ P))
def lenO (l : List WinR) (p : Nat) : Nat := lenW (l.filter fun x => decide (x.part = p))
theorem lenW_wsp (l : List WinR) : lenW l = lenSum (l.map wsp) := by
  unfold lenW lenSum
  rw [List.map_map]
  rfl
theorem lenW_filter (f : WinR → Bool) : ∀ l : List WinR, lenW (l.filter f) ≤ lenW l
  | [] => Nat.le_refl _
  | x :: l => by
    have := lenW_filter f l
    unfold lenW at *
    rw [List.filter_cons]
    split
    · simp only [List.map_cons, List.sum_cons]; omega
    · simp only [List.map_cons, List.sum_cons]; omega
theorem lenP_in {P : List Nat} {p : Nat} (h : p ∈ P) (l : List WinR) : lenP l (P ++ [p]) = lenP l P := by
  unfold lenP
  congr 1
  refine List.filter_congr fun x _ => ?_
  rw [Bool.eq_iff_iff]
  simp only [decide_eq_true_eq, List.mem_append, List.mem_singleton]
  constructor
  · rintro (h1 | rfl)
    · exact h1
    · exact h
  · exact Or.inl
theorem lenP_new {P : List Nat} {p : Nat} (h : p ∉ P) : ∀ l : List WinR, lenP l (P ++ [p]) = lenP l P + lenO l p
  | [] => rfl
  | x :: l => by
    have ih := lenP_new h l
    unfold lenP lenO lenW at *
    by_cases h1 : x.part = p
    · have h2 : ¬ x.part ∈ P := fun hx => h (h1 ▸ hx)
      rw [List.filter_cons_of_pos (by simp [h1]), List.filter_cons_of_neg (by simpa using h2), List.filter_cons_of_pos (by simpa using h1)]
      simp only [List.map_cons, List.sum_cons]
      omega
    · by_cases h2 : x.part ∈ P
      · rw [List.filter_cons_of_pos (by simp [h2]), List.filter_cons_of_pos (by simpa using h2), List.filter_cons_of_neg (by simpa using h1)]
        simp only [List.map_cons, List.sum_cons]
        omega
      · rw [List.filter_cons_of_neg (by simp [h1, h2]), List.filter_cons_of_neg (by simpa using h2), List.filter_cons_of_neg (by simpa using h1)]
        exact ih
theorem lenP_nil (l : List WinR) : lenP l [] = 0 := by
  unfold lenP
  rw [List.filter_eq_nil_iff.2 (fun x _ => by simp)]
  rfl
theorem lenP_all {P : List Nat} (l : List WinR) (h : ∀ x ∈ l, x.part ∈ P) : lenP l P = lenW l := by
  unfold lenP
  rw [List.filter_eq_self.2 (fun x hx => by simpa using h x hx)]
theorem part_in {c : Cfg} (h : rightB c = true) : ∀ x ∈ c.wins.l, x.part ∈ ids c.parts.l := by
  intro x hx
  have hc := (right_all h).2.1 x hx
  unfold winCode at hc
  by_cases hm : x.part ∈ ids c.parts.l
  · exact hm
  · have : idxId (ids c.parts.l) x.part = -1 := idxFrom_no (fun y hy he => hm (by rw [← he]; exact hy)) 0
    rw [this, if_pos (by decide)] at hc
    cases hc
theorem busy_len {c : Cfg} (h : rightB c = true) (hf : c.frame < 18446744073709551616) (p : Nat) : busyL (wo c.wins.l p) = lenO c.wins.l p ∧ lenO c.wins.l p ≤ lenW c.wins.l ∧ lenW c.wins.l ≤ c.frame := by
  have e : ∀ l : List WinR, (∀ x ∈ l, x ∈ c.wins.l) → bS (wo l p) = lenO l p := by
    intro l
    induction l with
    | nil => intro _; rfl
    | cons x l ih =>
      intro hm
      have := ih (fun y hy => hm y (by simp [hy]))
      have hx := win_right ((right_all h).2.1 x (hm x (by simp)))
      unfold bS wo lenO lenW at *
      by_cases hp : x.part = p
      · rw [List.filter_cons_of_pos (by simpa using hp)]
        simp only [List.map_cons, List.sum_cons, this]
        unfold hiW
        rw [Nat.mod_eq_of_lt (by omega)]
        omega
      · rw [List.filter_cons_of_neg (by simpa using hp)]
        exact this
  have ht := fill_total hf (wins_parted h hf) (wins_span h)
  rw [← lenW_wsp] at ht
  have h1 : lenO c.wins.l p ≤ lenW c.wins.l := lenW_filter _ _
  refine ⟨?_, h1, by omega⟩
  rw [busyL_eq c.frame hf _ (wo_ok h hf p), e _ (fun _ hx => hx), Nat.mod_eq_of_lt (by omega)]
theorem lenW_snoc (l : List WinR) (x : WinR) : lenW (l ++ [x]) = lenW l + x.len := by unfold lenW; simp
theorem lenSum_snoc (l : List (Nat × Nat)) (x : Nat × Nat) : lenSum (l ++ [x]) = lenSum l + x.2 := by unfold lenSum; simp
theorem fill_few {c : Cfg} (h : rightB c = true) : c.wins.l.length ≤ 120 := by
  unfold rightB fewB at h
  simp only [Bool.and_eq_true, decide_eq_true_eq] at h
  have := h.1.2
  unfold sumN at this
  omega
theorem gaps_len (total : Nat) (ht : total < 18446744073709551616) {l : List (Nat × Nat)} (hl : ∀ s ∈ l, okSpan s) : (gapsR total l).length ≤ l.length + 1 := by
  rw [← gaps_eq total ht hl]
  unfold gapsV
  have h1 := gadd_len total (gaps0 total ((visitL l).map Prod.fst))
  have h3 := (gaps0_small total ((visitL l).map Prod.fst)).1
  rw [List.length_map, visitL_length] at h3
  omega
end Go.Proofs.Ytkhcdnehfiopgaa
namespace Go.Proofs.Ytkhcdnehfiopgaa
open Go.RowKit Go.Sort
set_option linter.unusedVariables false

theorem right_sch {c : Cfg} (h : rightB c = true) (hf : c.frame < 18446744073709551616) {l : List WinR} (hp : l.Perm c.wins.l) (ha : AscW l) : Sch c.frame l := by
  have hsp := wins_span h
  have hin : ∀ x ∈ l, 1 ≤ x.len ∧ x.st + x.len ≤ c.frame := fun x hx => hsp (wsp x) (List.mem_map_of_mem (hp.subset hx))
  have hpt : Parted (l.map wsp) := by
    have h0 := wins_parted h hf
    unfold Parted at h0 ⊢
    exact (List.Perm.pairwise_iff (fun {x y} hxy t ht => hxy t ⟨ht.2, ht.1⟩) (hp.map wsp)).2 h0
  have hpw : l.Pairwise fun a b => a.st + a.len ≤ b.st := by
    unfold Parted at hpt
    rw [List.pairwise_map] at hpt
    refine (ha.and hpt).imp_of_mem fun {a b} hma hmb hab => ?_
    have h1 := hin a hma
    have h2 := hin b hmb
    have h3 := hab.1
    have h4 := hab.2 b.st
    unfold inS wsp at h4
    simp only at h4
    omega
  have hfr := (right_all h).1
  exact ⟨by omega, hf, hin, hpw⟩
/-- One order. -/
theorem asc_one {F : Nat} {l m : List WinR} (h : Sch F l) (h2 : Sch F m) (hp : l.Perm m) : l = m := by
  refine hp.eq_of_pairwise (le := fun a b => a.st + a.len ≤ b.st) ?_ h.asc h2.asc
  intro a b ha hb h3 h4
  have := (h.each a ha).1
  have := (h2.each b hb).1
  omega
end Go.Proofs.Ytkhcdnehfiopgaa
