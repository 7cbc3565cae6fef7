/- Plain facts behind the replacer's run: escaped bytes, and a row of bytes that is filled. -/
import Derived.Test.YtgjdhndlbhbjhaaGreatReplSpec
import Derived.Test.YtgjdhndlbhbjhaaGreatNmSpec
import Derived.Laws.MakeOwn
import Derived.Laws.Entries
import Derived.Laws.CopyOwn
namespace Go.Proofs.YtgjdhndlbhbjhaaGreat
open Go.RowKit

/-- The bytes that a backslash precedes. -/
theorem Stage.esc {G : Nat} {w : World} {cs : Array Value} {s0 s1 : Value} (hS : Stage G w 2 cs s0 s1) (c : UInt8) (h : isEsc c = true) :
    ∃ g cap, G + 1 < g ∧ g < w.heap.size ∧ w.cell? ⟨G + 1, c.toNat, none⟩ = some (.slice (some ⟨g, 0, none⟩) 2 cap) ∧
      w.cell? ⟨g, 0, none⟩ = some (.int .u8 92) ∧ w.cell? ⟨g, 1, none⟩ = some (.int .u8 (c.toNat : Int)) := by
  simp only [isEsc, Bool.or_eq_true, beq_iff_eq] at h
  rcases h with rfl | rfl
  · have hq := hS.quot
    rw [if_pos (by omega)] at hq
    obtain ⟨g, cap, h0, h1, h2, h3⟩ := hq
    exact ⟨g, cap, h0, h1, (hS.blk.cell 34).trans h2, h3 0 (by simp), h3 1 (by simp)⟩
  · have hq := hS.back
    rw [if_pos (by omega)] at hq
    obtain ⟨g, cap, h0, h1, h2, h3⟩ := hq
    exact ⟨g, cap, h0, h1, (hS.blk.cell 92).trans h2, h3 0 (by simp), h3 1 (by simp)⟩
theorem Stage.nil_ {G : Nat} {w : World} {cs : Array Value} {s0 s1 : Value} (hS : Stage G w 2 cs s0 s1) (c : UInt8) (h : isEsc c = false) :
    w.cell? ⟨G + 1, c.toNat, none⟩ = some (.slice none 0 0) := by
  simp only [isEsc, Bool.or_eq_false_iff, beq_eq_false_iff_ne, ne_eq] at h
  refine (hS.blk.cell c.toNat).trans (hS.plain _ (UInt8.toNat_lt c) ?_ ?_)
  · intro h2; exact h.1 (UInt8.toNat.inj (by rw [h2]; rfl))
  · intro h2; exact h.2 (UInt8.toNat.inj (by rw [h2]; rfl))
theorem Stage.drewN {G : Nat} {w : World} {k : Nat} {cs : Array Value} {s0 s1 : Value} (hS : Stage G w k cs s0 s1) (n : Nat) : Stage G (w.drewN n) k cs s0 s1 :=
  ⟨hS.row, hS.blk, hS.size, hS.last, hS.plain, hS.quot, hS.back, hS.first, hS.second⟩

/-- How many of the first k bytes a backslash precedes. -/
def escN (s : ByteArray) (k : Nat) : Nat := (s.data.toList.take k).countP isEsc
theorem escN_zero (s : ByteArray) : escN s 0 = 0 := by simp [escN]
theorem escN_succ (s : ByteArray) (k : Nat) (hk : k < s.size) : escN s (k + 1) = escN s k + if isEsc s[k] = true then 1 else 0 := by
  unfold escN
  rw [List.take_succ_eq_append_getElem (by simpa using hk), List.countP_append]
  simp only [List.countP_cons, List.countP_nil, Nat.zero_add]
  rfl
theorem escN_le (s : ByteArray) (k : Nat) : escN s k ≤ k := by
  unfold escN
  exact Nat.le_trans List.countP_le_length (List.length_take_le _ _)
theorem quoteB_eq (c : UInt8) : quoteB c = if isEsc c = true then [92, c] else [c] := by
  unfold quoteB isEsc
  simp
theorem quoteL_len (l : List UInt8) : (quoteL l).length = l.length + l.countP isEsc := by
  induction l with
  | nil => simp [quoteL]
  | cons c l ih =>
    simp only [quoteL, List.flatMap_cons, List.length_append, List.length_cons, List.countP_cons] at *
    rw [ih, quoteB_eq]
    split <;> simp <;> omega
theorem quoteL_id (l : List UInt8) (h : l.countP isEsc = 0) : quoteL l = l := by
  induction l with
  | nil => simp [quoteL]
  | cons c l ih =>
    rw [List.countP_cons] at h
    have hc : ¬ isEsc c = true := by
      intro h2; rw [if_pos h2] at h; omega
    simp only [quoteL, List.flatMap_cons] at *
    rw [ih (by omega), quoteB_eq, if_neg hc]
    rfl
theorem Stage.below {G : Nat} {w w' : World} {k : Nat} {cs : Array Value} {s0 s1 : Value} (hS : Stage G w k cs s0 s1) (hb : Below w.heap.size w w') : Stage G w' k cs s0 s1 where
  row := hS.row.below hb hS.row.lt
  blk := hS.blk.below hb hS.blk.lt
  size := hS.size
  last := hS.last
  plain := hS.plain
  quot := by
    have := hS.quot
    split at this
    · rw [if_pos (by assumption)]; exact this.keep hb.size rfl (fun g _ hg => hb.block g hg)
    · rw [if_neg (by assumption)]; exact this
  back := by
    have := hS.back
    split at this
    · rw [if_pos (by assumption)]; exact this.keep hb.size rfl (fun g _ hg => hb.block g hg)
    · rw [if_neg (by assumption)]; exact this
  first := hS.first
  second := hS.second

/-- A row of bytes in memory: the cells of a block, the first of which are the bytes l. -/
def Filling (w : World) (D m : Nat) (l : List UInt8) : Prop :=
  ∃ cur : List Value, w.heap[D]? = some (.cells cur.toArray 5 (0, 0)) ∧ cur.length = m ∧ cur.take l.length = l.map byteV
theorem make_bytes (n : Nat) (hn : n ≤ 100000) (w : World) :
    (Instr.makeSlice 40 (.int .i64 (n : Int)) (.int .i64 (n : Int))).run Tryz.prog w = .ok (.slice (some ⟨w.heap.size, 0, none⟩) n n) (w.alloc (.cells (madeCells #[.int .u8 0] n) 5)) := by
  obtain ⟨i0, hi, hz0, hz1, hz2⟩ := info_parts (show (Tryz.prog.info? 5).map (fun i => (i.zero, i.size, i.bytes)) = some (some (.int .u8 0), 1, 1) by kernel_rfl)
  have hr := run_make (P := Tryz.prog) w 40 5 i0 (.int .u8 0) Tryz.underlying40 hi hz0 .i64 .i64 (n : Int) (n : Int) (by omega) (by omega) (by rw [hz2]; omega) (by omega)
  simp only [Int.toNat_natCast, hz1, Nat.mul_one] at hr
  exact hr
theorem filling_made (w : World) (n : Nat) : Filling (w.alloc (.cells (madeCells #[.int .u8 0] n) 5)) w.heap.size n [] :=
  ⟨(madeCells #[.int .u8 0] n).toList, by rw [Array.toArray_toList]; exact heap_alloc_new w _, by rw [Array.length_toList, size_madeCells], by simp⟩
theorem Filling.more {w' : World} {D m : Nat} {cur : List Value} {l r : List UInt8} (hl : cur.length = m) (ht : cur.take l.length = l.map byteV) (hm : l.length + r.length ≤ m)
    (hw : w'.heap[D]? = some (.cells (splice cur l.length (r.map byteV)).toArray 5 (0, 0))) : Filling w' D m (l ++ r) := by
  refine ⟨_, hw, ?_, ?_⟩
  · simp only [splice, List.length_append, List.length_take, List.length_drop, List.length_map]; omega
  · simp only [splice]
    rw [ht, ← List.append_assoc, ← List.map_append]
    exact List.take_left' (by simp)
theorem Filling.set_ {w : World} {D m : Nat} {l : List UInt8} (h : Filling w D m l) (hm : l.length < m) (c : UInt8) : Filling (w.setCell ⟨D, l.length, none⟩ (byteV c)) D m (l ++ [c]) := by
  obtain ⟨cur, h1, h2, h3⟩ := h
  have hb : Blk (w.setCell ⟨D, l.length, none⟩ (byteV c)) D 5 (cur.toArray.setIfInBounds l.length (byteV c)) := Blk.set_ (cs := cur.toArray) h1 _ _
  refine ⟨cur.set l.length (byteV c), by rw [← List.setIfInBounds_toArray]; exact hb, by simpa using h2, ?_⟩
  rw [List.length_append, List.length_singleton, List.take_succ_eq_append_getElem (by simp; omega), List.take_set_of_le (Nat.le_refl _), h3]
  simp
theorem Filling.cell {w : World} {D m : Nat} {l : List UInt8} (h : Filling w D m l) (j : Nat) (hj : j < m) : ∃ v, w.cell? ⟨D, j, none⟩ = some v ∧ w.frozen? ⟨D, j, none⟩ = false := by
  obtain ⟨cur, h1, h2, h3⟩ := h
  have hb : Blk w D 5 cur.toArray := h1
  exact ⟨cur[j]'(by omega), by rw [hb.cell]; simp, hb.frozen j⟩
theorem Filling.full {w : World} {D m : Nat} {l : List UInt8} (h : Filling w D m l) (hm : l.length = m) (j : Nat) (hj : j < l.length) : w.cell? ((⟨D, 0, none⟩ : Addr).add j) = some (.int .u8 (l[j].toNat : Int)) := by
  obtain ⟨cur, h1, h2, h3⟩ := h
  have hb : Blk w D 5 cur.toArray := h1
  have hadd : (⟨D, 0, none⟩ : Addr).add j = ⟨D, j, none⟩ := by unfold Addr.add; split <;> simp_all
  rw [List.take_of_length_le (by omega)] at h3
  rw [hadd, hb.cell, h3]
  simp [hj, byteV]
theorem quoteL_take_succ (s : ByteArray) (k : Nat) (hk : k < s.size) : quoteL (s.data.toList.take (k + 1)) = quoteL (s.data.toList.take k) ++ quoteB s[k] := by
  rw [List.take_succ_eq_append_getElem (by simpa using hk)]
  simp only [quoteL, List.flatMap_append, List.flatMap_cons, List.flatMap_nil, List.append_nil]
  rfl
theorem quoteL_take_len (s : ByteArray) (k : Nat) (hk : k ≤ s.size) : (quoteL (s.data.toList.take k)).length = k + escN s k := by
  rw [quoteL_len, List.length_take, Nat.min_eq_left (by simpa using hk)]; rfl
theorem escN_mono (s : ByteArray) (k : Nat) : escN s k ≤ escN s s.size := by
  unfold escN
  rw [List.take_of_length_le (l := s.data.toList) (i := s.size) (by simp)]
  exact List.Sublist.countP_le (List.take_sublist _ _)
/-- What the first loop of the replacer has counted. -/
def cntTo (s : ByteArray) : Nat → Nat
  | 0 => 0
  | 1 => s.data.toList.count 34
  | _ => s.data.toList.count 34 + s.data.toList.count 92
theorem count_esc (l : List UInt8) : l.count 34 + l.count 92 = l.countP isEsc := by
  induction l with
  | nil => rfl
  | cons c l ih =>
    rw [List.count_cons, List.count_cons, List.countP_cons, ← ih]
    simp only [isEsc, Bool.or_eq_true]
    by_cases h1 : c = 34
    · subst h1; simp; omega
    · by_cases h2 : c = 92
      · subst h2; simp; omega
      · simp [h1, h2]
theorem cntTo_two (s : ByteArray) : cntTo s 2 = escN s s.size := by
  unfold escN
  rw [List.take_of_length_le (by simp)]
  exact count_esc _
theorem cntTo_le (s : ByteArray) (k : Nat) : cntTo s k ≤ s.size := by
  have h2 := cntTo_two s
  have h3 := escN_le s s.size
  have h4 : cntTo s 2 = s.data.toList.count 34 + s.data.toList.count 92 := rfl
  match k with
  | 0 => simp [cntTo]
  | 1 => show s.data.toList.count 34 ≤ _; omega
  | k + 2 => show s.data.toList.count 34 + s.data.toList.count 92 ≤ _; omega
end Go.Proofs.YtgjdhndlbhbjhaaGreat
