/- The walks of lex's cursor: pass, step, while at its four predicates (chapter 06). -/
import Derived.Test.YtcnihmlmaigkdaaGreatDoorMLxSpec
import Derived.Test.YtcnihmlmaigkdaaGreatDoorChecked
import Derived.WalkKit
import Derived.WalkSpells
import Derived.WalkLawsBesides
import Derived.Deep.QuietTactic
import Derived.BigQuiet
import Derived.BigGuardPart
import Derived.Outline
import Derived.Deep.DeepMust
import Derived.Deep.RegionHeld3
import Derived.Laws.AppendOwn
namespace Go.Proofs.YtcnihmlmaigkdaaGreatDoor
open Go.RowKit Go.Lib

def curA (p : Nat × Nat) (s : ByteArray) (k : Nat) : Array Value := #[.int .i64 (p.1 : Int), .int .i64 (p.2 : Int), .string s, .int .i64 (k : Int)]
/-- A cursor in its block. -/
def Cur (w : World) (X : Nat) (p : Nat × Nat) (s : ByteArray) (k : Nat) : Prop :=
  Blk w X 202 (curA p s k) ∧ p.1 ≤ k + 1 ∧ p.2 ≤ k + 1 ∧ k ≤ s.size ∧ s.size ≤ 100000000000000
/-- Only block X, and what is new, has turned. -/
def Only (X : Nat) (w w' : World) : Prop := w.grownBy w' (some X)
theorem Only.refl (X : Nat) (w : World) : Only X w w := World.grownBy.refl w _
theorem Only.trans {X : Nat} {a b c : World} (h : Only X a b) (k : Only X b c) : Only X a c :=
  ⟨k.os.trans h.os, k.tape.trans h.tape, k.output.trans h.output, Nat.le_trans h.size k.size, fun i hi hn => (k.block i (Nat.lt_of_lt_of_le hi h.size) hn).trans (h.block i hi hn)⟩
theorem Only.below {X : Nat} {a b : World} (h : Only X a b) (hX : X < a.heap.size) : Below X a b :=
  ⟨h.os, h.tape, h.output, h.size, fun i hi => h.block i (by omega) (by intro e; injection e with e; omega)⟩
theorem Only.set_ {X : Nat} {a w : World} (h : Only X a w) (i : Nat) (u : Value) : Only X a (w.setCell ⟨X, i, none⟩ u) := only_setCell h (.inl rfl) u
theorem Only.drewN {X : Nat} {a w : World} (h : Only X a w) (n : Nat) : Only X a (w.drewN n) := only_drewN h n
theorem Only.drew {X : Nat} {a w : World} (h : Only X a w) : Only X a w.drew := only_drew h
theorem Only.alloc {X : Nat} {a w : World} (h : Only X a w) (o : Obj) : Only X a (w.alloc o) := only_alloc h o
theorem Only.of_below {X : Nat} {a w : World} (h : Below a.heap.size a w) : Only X a w := only_of_below h _
theorem Cur.lt {w : World} {X : Nat} {p : Nat × Nat} {s : ByteArray} {k : Nat} (h : Cur w X p s k) : X < w.heap.size := h.1.lt
theorem Cur.drewN {w : World} {X : Nat} {p : Nat × Nat} {s : ByteArray} {k : Nat} (h : Cur w X p s k) (n : Nat) : Cur (w.drewN n) X p s k := ⟨h.1.drewN n, h.2⟩
theorem Cur.drew {w : World} {X : Nat} {p : Nat × Nat} {s : ByteArray} {k : Nat} (h : Cur w X p s k) : Cur w.drew X p s k := ⟨h.1.drew, h.2⟩
theorem Cur.cells {w : World} {X : Nat} {p : Nat × Nat} {s : ByteArray} {k : Nat} (h : Cur w X p s k) :
    w.cell? ⟨X, 0, none⟩ = some (.int .i64 (p.1 : Int)) ∧ w.cell? ⟨X, 1, none⟩ = some (.int .i64 (p.2 : Int)) ∧ w.cell? ⟨X, 2, none⟩ = some (.string s) ∧ w.cell? ⟨X, 3, none⟩ = some (.int .i64 (k : Int)) :=
  ⟨h.1.cell 0, h.1.cell 1, h.1.cell 2, h.1.cell 3⟩
theorem at_data (s : ByteArray) (k : Nat) (h : k < s.size) : s.data.toList.drop k = s[k] :: s.data.toList.drop (k + 1) := by
  rw [List.drop_eq_getElem_cons (by simpa using h)]; rfl

set_option maxHeartbeats 400000 in
theorem pass_calls (X : Nat) (w : World) (p : Nat × Nat) (s : ByteArray) (k : Nat) (c : UInt8) (h : Cur w X p s k) :
    Calls Tryz.prog 329 #[.pointer (some ⟨X, 0, none⟩), .int .u8 (c.toNat : Int)] w fun e w' => e = .returned (.tuple #[]) ∧ Blk w' X 202 (curA (pass p c) s k) ∧ Only X w w' := by
  obtain ⟨c0, c1, c2, c3⟩ := h.cells
  have kf := fun i => h.1.frozen i
  obtain ⟨hB, h1, h2, h3, h4⟩ := h
  have HB := hide hB
  clear hB
  obtain ⟨l, q⟩ := p
  simp only at h1 h2 c0 c1
  have h256 := UInt8.toNat_lt c
  by_cases hc : c = 10
  · have e1 : Hid (pass (l, q) c = (l + 1, 1)) := by show _ = _; unfold pass; rw [if_pos hc]
    have hb : ((c.toNat : Int) == 10) = true := by rw [hc]; rfl
    clear hc
    go_enter Tryz.func329, Tryz.ntmps329
    go_wp2
    refine bodyPost_ret (results_none rfl _ _ _) rfl ?_
    refine ⟨rfl, ?_, ((Only.refl _ _).set_ _ _).set_ _ _⟩
    rw [e1.out]
    have h := (HB.out.set_ 0 (.int .i64 ((l : Int) + 1))).set_ 1 (.int .i64 1)
    exact h
  · have e1 : Hid (pass (l, q) c = (l, q + 1)) := by show _ = _; unfold pass; rw [if_neg hc]
    have hb : ((c.toNat : Int) == 10) = false := by
      have : c.toNat ≠ 10 := fun e => hc (UInt8.toNat_inj.1 (by rw [e]; rfl))
      simp; omega
    clear hc
    go_enter Tryz.func329, Tryz.ntmps329
    go_wp2
    go_end0
    refine ⟨rfl, ?_, (Only.refl _ _).set_ _ _⟩
    rw [e1.out]
    exact HB.out.set_ 1 (.int .i64 ((q : Int) + 1))

set_option maxHeartbeats 400000 in
theorem step_calls (X : Nat) (w : World) (p : Nat × Nat) (s : ByteArray) (k : Nat) (hk : k < s.size) (h : Cur w X p s k) :
    Calls Tryz.prog 276 #[.pointer (some ⟨X, 0, none⟩)] w fun e w' => e = .returned (.tuple #[]) ∧ Cur w' X (pass p s[k]) s (k + 1) ∧ Only X w w' := by
  obtain ⟨c0, c1, c2, c3⟩ := h.cells
  have kf := fun i => h.1.frozen i
  have H := hide h
  have hsz := h.2.2.2.2
  clear h
  have hP := hide (fun W (hC : Cur W X p s k) => pass_calls X W p s k s[k] hC)
  go_enter Tryz.func276, Tryz.ntmps276
  go_wp2_with fail
  go_region_held3 (fun W => W.cell? ⟨X, 2, none⟩ = some (.string s) ∧ W.cell? ⟨X, 3, none⟩ = some (.int .i64 (k : Int))) (first | assumption | exact ⟨c2, c3⟩ | exact ⟨hB2.cell 2, hB2.cell 3⟩)
    (first | (go_at_call 329; first | ((refine (hP.out _ H.out).mono ?_); rintro e w2 ⟨rfl, hB2, hO2⟩) | ((refine (hP.out _ H.out.drew).mono ?_); rintro e w2 ⟨rfl, hB2, hO2⟩)))
  have c3' : w2.cell? ⟨X, 3, none⟩ = some (.int .i64 (k : Int)) := hB2.cell 3
  have kf2 := fun i => hB2.frozen i
  have HB2 := hide hB2
  have HO2 := hide hO2
  clear hB2 hO2
  go_wp2
  go_end0
  refine ⟨rfl, ⟨HB2.out.set_ 3 (.int .i64 ((k : Int) + 1)), ?_, ?_, by omega, hsz⟩, (((Only.refl X w).drew).trans HO2.out).set_ _ _⟩
  · have h := H.out.2.1
    unfold pass; split <;> (simp; omega)
  · have h := H.out.2.2.1
    unfold pass; split <;> (simp; try omega)

theorem isLetter_calls (c : UInt8) (w : World) : Calls Tryz.prog 246 #[.int .u8 (c.toNat : Int)] w fun e w' => e = .returned (.bool (isLet c)) ∧ w' = w := by
  have h256 := UInt8.toNat_lt c
  by_cases h1 : 97 ≤ c.toNat <;> by_cases h2 : c.toNat ≤ 122
  all_goals
    have hv : Hid (isLet c = (decide (97 ≤ c.toNat) && decide (c.toNat ≤ 122))) := rfl
    go_enter Tryz.func246, Tryz.ntmps246
    go_wp2
    all_goals first | (exfalso; omega) | (go_ret; exact ⟨by rw [hv.out]; simp [h1, h2]; try omega, rfl⟩)
theorem isDigit_calls (c : UInt8) (w : World) : Calls Tryz.prog 248 #[.int .u8 (c.toNat : Int)] w fun e w' => e = .returned (.bool (isDig c)) ∧ w' = w := by
  have h256 := UInt8.toNat_lt c
  by_cases h1 : 48 ≤ c.toNat <;> by_cases h2 : c.toNat ≤ 57
  all_goals
    have hv : Hid (isDig c = (decide (48 ≤ c.toNat) && decide (c.toNat ≤ 57))) := rfl
    go_enter Tryz.func248, Tryz.ntmps248
    go_wp2
    all_goals first | (exfalso; omega) | (go_ret; exact ⟨by rw [hv.out]; simp [h1, h2]; try omega, rfl⟩)
theorem alnum_calls (c : UInt8) (w : World) : Calls Tryz.prog 277 #[.int .u8 (c.toNat : Int)] w fun e w' => e = .returned (.bool (isAl c)) ∧ w' = w := by
  cases h1 : isLet c <;> cases h2 : isDig c
  all_goals
    have hv : Hid (isAl c = (isLet c || isDig c)) := rfl
    have hL := fun W => isLetter_calls c W
    have hD := fun W => isDigit_calls c W
    rw [h1] at hL
    rw [h2] at hD
    have HL := hide hL
    have HD := hide hD
    have H1 := hide h1
    have H2 := hide h2
    clear hL hD h1 h2
    go_enter Tryz.func277, Tryz.ntmps277
    go_wp2_with (first | (go_at_call 246; refine (HL.out _).mono ?_; rintro e w' ⟨rfl, rfl⟩) | (go_at_call 248; refine (HD.out _).mono ?_; rintro e w' ⟨rfl, rfl⟩))
    go_ret
    exact ⟨by rw [hv.out, H1.out, H2.out]; rfl, rfl⟩
theorem nofeed_calls (c : UInt8) (w : World) : Calls Tryz.prog 244 #[.int .u8 (c.toNat : Int)] w fun e w' => e = .returned (.bool (notFeed c)) ∧ w' = w := by
  by_cases h : c = 10
  · subst h
    go_enter Tryz.func244, Tryz.ntmps244
    go_wp2
    go_ret
    exact ⟨rfl, rfl⟩
  · have hb : ((c.toNat : Int) == 10) = false := by
      have : c.toNat ≠ 10 := fun e => h (UInt8.toNat_inj.1 (by rw [e]; rfl))
      simp; omega
    have hb2 : ((c.toNat : Int) != 10) = true := by rw [bne, hb]; rfl
    have hv : Hid (notFeed c = true) := by show _ = _; unfold notFeed; simpa using h
    clear h
    go_enter Tryz.func244, Tryz.ntmps244
    go_wp2
    go_ret
    exact ⟨by rw [hv.out]; rfl, rfl⟩
end Go.Proofs.YtcnihmlmaigkdaaGreatDoor
