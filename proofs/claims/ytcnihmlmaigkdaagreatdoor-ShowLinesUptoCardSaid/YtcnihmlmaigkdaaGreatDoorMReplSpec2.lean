/- Plain facts behind the replacer's run: escaped bytes, and a row of bytes that is filled. The walk of the library's replacer for bytes, at the two pairs of a quoted name. The walk of the library's replacer for bytes, at longer strings. The walk of the replacer's maker and of its front: 'NewReplacer(..).Replace(s)' at the two pairs of a quoted name. -/
import Derived.Test.YtcnihmlmaigkdaaGreatDoorMReplSpec
import Derived.Test.YtcnihmlmaigkdaaGreatDoorMNmSpec
import Derived.Laws.MakeOwn
import Derived.Laws.Entries
import Derived.Laws.CopyOwn
import Derived.Test.YtcnihmlmaigkdaaGreatDoorChecked
import Derived.Test.YtcnihmlmaigkdaaGreatDoorShelf
import Derived.WalkKit
import Derived.BigGuardPart
import Derived.WalkSpells
import Derived.WalkLawsBesides
import Derived.Handy
import Derived.Outline
import Derived.BigQuiet
import Derived.Deep.QuietTactic
import Derived.Lib.SliceRun
import Derived.Deep.RegionLaw
import Derived.BigRegion
import Derived.Test.YtcnihmlmaigkdaaGreatDoorNmValid
import Derived.OwnWalk
import Derived.Maps.AppendAt
import Derived.Deep.RegionWith
namespace Go.Proofs.YtcnihmlmaigkdaaGreatDoor
open Go.RowKit

/-- The bytes that a backslash precedes. -/
theorem Stage.esc {G : Nat} {w : World} {cs : Array Value} {s0 s1 : Value} (hS : Stage G w 2 cs s0 s1) (c : UInt8) (h : isEsc c = true) :
    ∃ g cap, G + 1 < g ∧ g < w.heap.size ∧ w.cell? ⟨G + 1, c.toNat, none⟩ = some (.slice (some ⟨g, 0, none⟩) 2 cap) ∧
      w.cell? ⟨g, 0, none⟩ = some (.int .u8 92) ∧ w.cell? ⟨g, 1, none⟩ = some (.int .u8 (c.toNat : Int)) := by
  simp only [isEsc, Bool.or_eq_true, beq_iff_eq] at h
  rcases h with rfl | rfl
  · have hq := hS.quot
    rw [if_pos (by omega)] at hq
    obtain ⟨g, cap, h0, h1, h2, h3⟩ := hq
    exact ⟨g, cap, h0, h1, (hS.blk.cell 34).trans h2, h3 0 (by simp), h3 1 (by simp)⟩
  · have hq := hS.back
    rw [if_pos (by omega)] at hq
    obtain ⟨g, cap, h0, h1, h2, h3⟩ := hq
    exact ⟨g, cap, h0, h1, (hS.blk.cell 92).trans h2, h3 0 (by simp), h3 1 (by simp)⟩
theorem Stage.nil_ {G : Nat} {w : World} {cs : Array Value} {s0 s1 : Value} (hS : Stage G w 2 cs s0 s1) (c : UInt8) (h : isEsc c = false) :
    w.cell? ⟨G + 1, c.toNat, none⟩ = some (.slice none 0 0) := by
  simp only [isEsc, Bool.or_eq_false_iff, beq_eq_false_iff_ne, ne_eq] at h
  refine (hS.blk.cell c.toNat).trans (hS.plain _ (UInt8.toNat_lt c) ?_ ?_)
  · intro h2; exact h.1 (UInt8.toNat.inj (by rw [h2]; rfl))
  · intro h2; exact h.2 (UInt8.toNat.inj (by rw [h2]; rfl))
theorem Stage.drewN {G : Nat} {w : World} {k : Nat} {cs : Array Value} {s0 s1 : Value} (hS : Stage G w k cs s0 s1) (n : Nat) : Stage G (w.drewN n) k cs s0 s1 :=
  ⟨hS.row, hS.blk, hS.size, hS.last, hS.plain, hS.quot, hS.back, hS.first, hS.second⟩

/-- How many of the first k bytes a backslash precedes. -/
def escN (s : ByteArray) (k : Nat) : Nat := (s.data.toList.take k).countP isEsc
theorem escN_zero (s : ByteArray) : escN s 0 = 0 := by simp [escN]
theorem escN_succ (s : ByteArray) (k : Nat) (hk : k < s.size) : escN s (k + 1) = escN s k + if isEsc s[k] = true then 1 else 0 := by
  unfold escN
  rw [List.take_succ_eq_append_getElem (by simpa using hk), List.countP_append]
  simp only [List.countP_cons, List.countP_nil, Nat.zero_add]
  rfl
theorem escN_le (s : ByteArray) (k : Nat) : escN s k ≤ k := by
  unfold escN
  exact Nat.le_trans List.countP_le_length (List.length_take_le _ _)
theorem quoteB_eq (c : UInt8) : quoteB c = if isEsc c = true then [92, c] else [c] := by
  unfold quoteB isEsc
  simp
theorem quoteL_len (l : List UInt8) : (quoteL l).length = l.length + l.countP isEsc := by
  induction l with
  | nil => simp [quoteL]
  | cons c l ih =>
    simp only [quoteL, List.flatMap_cons, List.length_append, List.length_cons, List.countP_cons] at *
    rw [ih, quoteB_eq]
    split <;> simp <;> omega
theorem quoteL_id (l : List UInt8) (h : l.countP isEsc = 0) : quoteL l = l := by
  induction l with
  | nil => simp [quoteL]
  | cons c l ih =>
    rw [List.countP_cons] at h
    have hc : ¬ isEsc c = true := by
      intro h2; rw [if_pos h2] at h; omega
    simp only [quoteL, List.flatMap_cons] at *
    rw [ih (by omega), quoteB_eq, if_neg hc]
    rfl
theorem Stage.below {G : Nat} {w w' : World} {k : Nat} {cs : Array Value} {s0 s1 : Value} (hS : Stage G w k cs s0 s1) (hb : Below w.heap.size w w') : Stage G w' k cs s0 s1 where
  row := hS.row.below hb hS.row.lt
  blk := hS.blk.below hb hS.blk.lt
  size := hS.size
  last := hS.last
  plain := hS.plain
  quot := by
    have := hS.quot
    split at this
    · rw [if_pos (by assumption)]; exact this.keep hb.size rfl (fun g _ hg => hb.block g hg)
    · rw [if_neg (by assumption)]; exact this
  back := by
    have := hS.back
    split at this
    · rw [if_pos (by assumption)]; exact this.keep hb.size rfl (fun g _ hg => hb.block g hg)
    · rw [if_neg (by assumption)]; exact this
  first := hS.first
  second := hS.second

/-- A row of bytes in memory: the cells of a block, the first of which are the bytes l. -/
def Filling (w : World) (D m : Nat) (l : List UInt8) : Prop :=
  ∃ cur : List Value, w.heap[D]? = some (.cells cur.toArray 5 (0, 0)) ∧ cur.length = m ∧ cur.take l.length = l.map byteV
theorem make_bytes (n : Nat) (hn : n ≤ 100000) (w : World) :
    (Instr.makeSlice 97 (.int .i64 (n : Int)) (.int .i64 (n : Int))).run Tryz.prog w = .ok (.slice (some ⟨w.heap.size, 0, none⟩) n n) (w.alloc (.cells (madeCells #[.int .u8 0] n) 5)) := by
  obtain ⟨i0, hi, hz0, hz1, hz2⟩ := info_parts (show (Tryz.prog.info? 5).map (fun i => (i.zero, i.size, i.bytes)) = some (some (.int .u8 0), 1, 1) by kernel_rfl)
  have hr := run_make (P := Tryz.prog) w 97 5 i0 (.int .u8 0) Tryz.underlying97 hi hz0 .i64 .i64 (n : Int) (n : Int) (by omega) (by omega) (by rw [hz2]; omega) (by omega)
  simp only [Int.toNat_natCast, hz1, Nat.mul_one] at hr
  exact hr
theorem filling_made (w : World) (n : Nat) : Filling (w.alloc (.cells (madeCells #[.int .u8 0] n) 5)) w.heap.size n [] :=
  ⟨(madeCells #[.int .u8 0] n).toList, by rw [Array.toArray_toList]; exact heap_alloc_new w _, by rw [Array.length_toList, size_madeCells], by simp⟩
theorem Filling.more {w' : World} {D m : Nat} {cur : List Value} {l r : List UInt8} (hl : cur.length = m) (ht : cur.take l.length = l.map byteV) (hm : l.length + r.length ≤ m)
    (hw : w'.heap[D]? = some (.cells (splice cur l.length (r.map byteV)).toArray 5 (0, 0))) : Filling w' D m (l ++ r) := by
  refine ⟨_, hw, ?_, ?_⟩
  · simp only [splice, List.length_append, List.length_take, List.length_drop, List.length_map]; omega
  · simp only [splice]
    rw [ht, ← List.append_assoc, ← List.map_append]
    exact List.take_left' (by simp)
theorem Filling.set_ {w : World} {D m : Nat} {l : List UInt8} (h : Filling w D m l) (hm : l.length < m) (c : UInt8) : Filling (w.setCell ⟨D, l.length, none⟩ (byteV c)) D m (l ++ [c]) := by
  obtain ⟨cur, h1, h2, h3⟩ := h
  have hb : Blk (w.setCell ⟨D, l.length, none⟩ (byteV c)) D 5 (cur.toArray.setIfInBounds l.length (byteV c)) := Blk.set_ (cs := cur.toArray) h1 _ _
  refine ⟨cur.set l.length (byteV c), by rw [← List.setIfInBounds_toArray]; exact hb, by simpa using h2, ?_⟩
  rw [List.length_append, List.length_singleton, List.take_succ_eq_append_getElem (by simp; omega), List.take_set_of_le (Nat.le_refl _), h3]
  simp
theorem Filling.cell {w : World} {D m : Nat} {l : List UInt8} (h : Filling w D m l) (j : Nat) (hj : j < m) : ∃ v, w.cell? ⟨D, j, none⟩ = some v ∧ w.frozen? ⟨D, j, none⟩ = false := by
  obtain ⟨cur, h1, h2, h3⟩ := h
  have hb : Blk w D 5 cur.toArray := h1
  exact ⟨cur[j]'(by omega), by rw [hb.cell]; simp, hb.frozen j⟩
theorem Filling.full {w : World} {D m : Nat} {l : List UInt8} (h : Filling w D m l) (hm : l.length = m) (j : Nat) (hj : j < l.length) : w.cell? ((⟨D, 0, none⟩ : Addr).add j) = some (.int .u8 (l[j].toNat : Int)) := by
  obtain ⟨cur, h1, h2, h3⟩ := h
  have hb : Blk w D 5 cur.toArray := h1
  have hadd : (⟨D, 0, none⟩ : Addr).add j = ⟨D, j, none⟩ := by unfold Addr.add; split <;> simp_all
  rw [List.take_of_length_le (by omega)] at h3
  rw [hadd, hb.cell, h3]
  simp [hj, byteV]
theorem quoteL_take_succ (s : ByteArray) (k : Nat) (hk : k < s.size) : quoteL (s.data.toList.take (k + 1)) = quoteL (s.data.toList.take k) ++ quoteB s[k] := by
  rw [List.take_succ_eq_append_getElem (by simpa using hk)]
  simp only [quoteL, List.flatMap_append, List.flatMap_cons, List.flatMap_nil, List.append_nil]
  rfl
theorem quoteL_take_len (s : ByteArray) (k : Nat) (hk : k ≤ s.size) : (quoteL (s.data.toList.take k)).length = k + escN s k := by
  rw [quoteL_len, List.length_take, Nat.min_eq_left (by simpa using hk)]; rfl
theorem escN_mono (s : ByteArray) (k : Nat) : escN s k ≤ escN s s.size := by
  unfold escN
  rw [List.take_of_length_le (l := s.data.toList) (i := s.size) (by simp)]
  exact List.Sublist.countP_le (List.take_sublist _ _)
/-- What the first loop of the replacer has counted. -/
def cntTo (s : ByteArray) : Nat → Nat
  | 0 => 0
  | 1 => s.data.toList.count 34
  | _ => s.data.toList.count 34 + s.data.toList.count 92
theorem count_esc (l : List UInt8) : l.count 34 + l.count 92 = l.countP isEsc := by
  induction l with
  | nil => rfl
  | cons c l ih =>
    rw [List.count_cons, List.count_cons, List.countP_cons, ← ih]
    simp only [isEsc, Bool.or_eq_true]
    by_cases h1 : c = 34
    · subst h1; simp; omega
    · by_cases h2 : c = 92
      · subst h2; simp; omega
      · simp [h1, h2]
theorem cntTo_two (s : ByteArray) : cntTo s 2 = escN s s.size := by
  unfold escN
  rw [List.take_of_length_le (by simp)]
  exact count_esc _
theorem cntTo_le (s : ByteArray) (k : Nat) : cntTo s k ≤ s.size := by
  have h2 := cntTo_two s
  have h3 := escN_le s s.size
  have h4 : cntTo s 2 = s.data.toList.count 34 + s.data.toList.count 92 := rfl
  match k with
  | 0 => simp [cntTo]
  | 1 => show s.data.toList.count 34 ≤ _; omega
  | k + 2 => show s.data.toList.count 34 + s.data.toList.count 92 ≤ _; omega
end Go.Proofs.YtcnihmlmaigkdaaGreatDoor
namespace Go.Proofs.YtcnihmlmaigkdaaGreatDoor
open Go.RowKit Go.Lib

set_option maxRecDepth 100000 in
set_option maxHeartbeats 1600000 in
theorem Replace_short (G : Nat) (cs : Array Value) (s0 s1 : Value) (s : ByteArray) (w : World) (hS : Stage G w 2 cs s0 s1) (hs : s.size < 16) :
    Calls Tryz.prog 418 #[.pointer (some ⟨G + 1, 0, none⟩), .string s] w fun e w' => e = .returned (.string ⟨(quoteL s.data.toList).toArray⟩) ∧ Below w.heap.size w w' := by
  have r2 := (hS.blk.cell 256).trans hS.last
  have hd : decide ((16 : Int) ≤ (s.size : Int)) = false := by simp; omega
  have hS' := hide hS
  clear hS
  go_enter Tryz.func418, Tryz.ntmps418
  go_wp2_with fail
  go_loop [5, 6, 10, 11] (fun n b i _ => ∃ k : Nat, k ≤ s.size ∧ i = .int .i64 k ∧ n = .int .i64 ((s.size + escN s k : Nat) : Int) ∧ b = .bool (decide (0 < escN s k))) (fun _ _ i _ => s.size - (intOf i).toNat)
  case atStart => exact ⟨0, by omega, rfl, by rw [escN_zero]; rfl, by rw [escN_zero]; rfl⟩
  case round =>
    obtain ⟨k, hk, rfl, rfl, rfl⟩ := hrel
    have he := escN_le s k
    by_cases hlt : k < s.size
    · have hn := hide (escN_succ s k hlt)
      have h256 := UInt8.toNat_lt s[k]
      generalize escN s k = e at *
      cases hx : isEsc s[k]
      · have hc := hS'.out.nil_ s[k] hx
        have Hx := hide hx
        clear hx
        go_wp2
        go_round
        case rel =>
          have h2 := hn.out
          rw [Hx.out] at h2
          exact ⟨k + 1, by omega, by go_num, by rw [h2]; go_num, by rw [h2]; rfl⟩
        case measure => simp [intOf]; omega
      · obtain ⟨g, cap, _, _, hc, _, _⟩ := hS'.out.esc s[k] hx
        have Hx := hide hx
        clear hx
        go_wp2
        go_round
        case rel =>
          have h2 := hn.out
          rw [Hx.out] at h2
          exact ⟨k + 1, by omega, by go_num, by rw [h2]; go_num, by rw [h2]; simp⟩
        case measure => simp [intOf]; omega
    · obtain rfl : k = s.size := by omega
      have hlen := hide (quoteL_take_len s s.size (Nat.le_refl _))
      have hid := hide (quoteL_id s.data.toList)
      by_cases h0 : escN s s.size = 0
      · have h0' : decide (0 < escN s s.size) = false := by simp [h0]
        have H0 := hide h0
        clear h0
        go_wp2
        go_ret
        refine ⟨?_, Below.refl _ _⟩
        have h1 : quoteL s.data.toList = s.data.toList := by
          apply hid.out
          have h2 := H0.out
          unfold escN at h2
          rwa [List.take_of_length_le (by simp)] at h2
        rw [h1]; rfl
      · have h0' : decide (0 < escN s s.size) = true := by simp; omega
        have hmono := hide (escN_mono s)
        have hmk := make_bytes (s.size + escN s s.size) (by omega)
        simp only [Int.natCast_add] at hmk
        clear h0
        generalize hE : escN s s.size = E at *
        have HE := hide hE
        clear hE
        go_wp2
        clear hmk h0' r2
        go_loopw [13, 14, 15] (fun j i _ wr => ∃ k : Nat, k ≤ s.size ∧ i = .int .i64 k ∧ j = .int .i64 ((k + escN s k : Nat) : Int) ∧ Below w.heap.size w wr ∧ Filling wr w.heap.size (s.size + E) (quoteL (s.data.toList.take k))) (fun _ i _ _ => s.size - (intOf i).toNat)
        case atStart => exact ⟨0, by omega, rfl, by rw [escN_zero]; rfl, (Below.refl _ _).alloc (Nat.le_refl _) _, filling_made w _⟩
        case round =>
          obtain ⟨k, hk, rfl, rfl, hb, hF⟩ := hrel
          have hek := escN_le s k
          have hll := hide (quoteL_take_len s k hk)
          by_cases hlt : k < s.size
          · have hn := hide (escN_succ s k hlt)
            have hm1 := hmono.out (k + 1)
            have hq := hide (quoteL_take_succ s k hlt)
            have h256 := UInt8.toNat_lt s[k]
            cases hx : isEsc s[k]
            · have hc := (hS'.out.below hb).nil_ s[k] hx
              have hm2 : k + escN s k < s.size + E := by rw [escN_succ s k hlt, hx] at hm1; simp at hm1; omega
              obtain ⟨v, hv, hf⟩ := hF.cell (k + escN s k) hm2
              have Hx := hide hx
              have HF := hide hF
              have hbs := hb.size
              have Hb := hide hb
              clear hx hF hb hm1
              generalize escN s k = e at *
              go_wp2
              go_roundw
              case rel =>
                have h2 := hn.out
                rw [Hx.out] at h2
                have h3 := HF.out.set_ (by rw [hll.out]; exact hm2) s[k]
                rw [hll.out] at h3
                refine ⟨k + 1, by omega, by go_num, by rw [h2]; go_num, Hb.out.setCell (p := ⟨w.heap.size, k + e, none⟩) (Nat.le_refl _) _, ?_⟩
                rw [hq.out, quoteB_eq, Hx.out]
                exact h3
              case measure => simp [intOf]; omega
            · obtain ⟨g, cap, hg1, hg2, hc, hc0, hc1⟩ := (hS'.out.below hb).esc s[k] hx
              have hm2 : k + escN s k + 1 < s.size + E := by rw [escN_succ s k hlt, hx] at hm1; simp at hm1; omega
              have Hx := hide hx
              have HF := hide hF
              have hbs := hb.size
              have Hb := hide hb
              clear hx hF hb hm1
              generalize escN s k = e at *
              have hne : ¬ s.size + E = k + e := by omega
              have hb1 : (0 : Int) ≤ (k : Int) + (e : Int) := by omega
              have hb2 : (k : Int) + (e : Int) ≤ (s.size : Int) + (E : Int) := by omega
              go_wp2
              obtain ⟨cur, hh1, hh2, hh3⟩ := HF.out
              have hh3' := hide hh3
              clear hh3
              have hsz5 : (Tryz.prog.info? 5).map (·.size) = some 1 := by kernel_rfl
              have hnn : [byteV 92, byteV s[k]].length = Nat.min 2 (s.size + E - (k + e)) := by show (2 : Nat) = Min.min 2 (s.size + E - (k + e)); omega
              have hsrc : ∀ j v, [byteV 92, byteV s[k]][j]? = some v → wr.cell? ((⟨g, 0, none⟩ : Addr).add j) = some v := by
                intro j v hj
                match j, hj with
                | 0, hj => simp at hj; rw [← hj]; exact hc0
                | 1, hj => simp at hj; rw [← hj]; exact hc1
                | j + 2, hj => simp at hj
              have hfit : k + e + [byteV 92, byteV s[k]].length ≤ cur.length := by simp; omega
              have h1c : ∀ v ∈ [byteV 92, byteV s[k]], v.oneCell' = true := by intro v hv; simp at hv; rcases hv with rfl | rfl <;> rfl
              have HP := hide (And.intro hh1 (And.intro hh2 (And.intro hnn (And.intro hsrc (And.intro hfit h1c)))))
              clear hh1 hh2 hnn hsrc hfit h1c
              have hb3 : ((s[k].toNat : Nat) : Int) < 256 := by omega
              have ht : ((k : Int) + (e : Int)).toNat = k + e := by omega
              go_region_law (refine step_copy_splice rfl (.tmp 105) (.tmp 111) 97 97 rfl 5 Tryz.underlying97 hsz5 (some ⟨w.heap.size, k + e, none⟩) (some ⟨g, 0, none⟩) (s.size + E - (k + e)) (s.size + E - (k + e)) 2 cap rfl rfl w.heap.size (k + e) cur 5 HP.out.1 [byteV 92, byteV s[k]] HP.out.2.2.1 (fun _ => ⟨rfl, _, rfl, HP.out.2.2.2.1⟩) HP.out.2.2.2.2.1 HP.out.2.2.2.2.2 w.heap.size w Hb.out.drew (Nat.le_refl _) ?_; intro w4 hg4 hb4)
              have hF4 : Filling w4 w.heap.size (s.size + E) (quoteL (s.data.toList.take (k + 1))) := by
                rw [hq.out, quoteB_eq, Hx.out]
                have h3 := hg4.out
                rw [← hll.out] at h3
                exact Filling.more (r := [92, s[k]]) HP.out.2.1 hh3'.out (by rw [hll.out]; simp; omega) h3
              have h2 := hn.out
              rw [Hx.out] at h2
              have H2 := hide h2
              have HF4 := hide hF4
              have Hb4 := hide hb4
              clear hF4 hb4 h2 hb1 hb2 hb3 ht
              go_wp2
              go_roundw
              case rel => exact ⟨k + 1, by omega, by go_num, by rw [H2.out]; simp only [if_true]; go_num, Hb4.out, HF4.out⟩
              case measure => simp [intOf]; omega
          · obtain rfl : k = s.size := by omega
            have htk : s.data.toList.take s.size = s.data.toList := List.take_of_length_le (by simp)
            rw [htk] at hF
            have hl2 : (quoteL s.data.toList).length = s.size + E := by have := hlen.out; rwa [htk] at this
            have hcb := run_convert_bytes_back (P := Tryz.prog) wr 97 9 5 ⟨w.heap.size, 0, none⟩ (s.size + E) (quoteL s.data.toList) Tryz.underlying97 Tryz.underlying5 Tryz.underlying9 (fun j hj => hF.full hl2 j hj)
            rw [hl2] at hcb
            have Hb := hide hb
            clear hF hl2 hb htk
            obtain ⟨q, hqq⟩ : ∃ q, q = quoteL s.data.toList := ⟨_, rfl⟩
            rw [← hqq] at hcb
            have HQ := hide hqq
            clear hqq
            go_wp2
            go_ret
            exact ⟨by rw [← HQ.out]; rfl, Hb.out⟩
end Go.Proofs.YtcnihmlmaigkdaaGreatDoor
namespace Go.Proofs.YtcnihmlmaigkdaaGreatDoor
open Go.RowKit Go.Lib

set_option maxRecDepth 100000 in
set_option maxHeartbeats 1600000 in
theorem Replace_long (G : Nat) (cs : Array Value) (s0 s1 : Value) (s : ByteArray) (w : World) (hS : Stage G w 2 cs s0 s1) (hs : s.size ≤ 100) (h16 : 16 ≤ s.size) :
    Calls Tryz.prog 418 #[.pointer (some ⟨G + 1, 0, none⟩), .string s] w fun e w' => e = .returned (.string ⟨(quoteL s.data.toList).toArray⟩) ∧ Below w.heap.size w w' := by
  have r2 := (hS.blk.cell 256).trans hS.last
  have hd : decide ((16 : Int) ≤ (s.size : Int)) = true := by simp; omega
  have hS' := hide hS
  clear hS
  go_enter Tryz.func418, Tryz.ntmps418
  go_wp2_with fail
  go_loopw [5, 6, 8, 9, 32] (fun n b _ _ i wr => ∃ k : Nat, ∃ d : Nat, k ≤ 2 ∧ wr = w.drewN d ∧ i = .int .i64 k ∧ n = .int .i64 ((s.size + cntTo s k : Nat) : Int) ∧ b = .bool (decide (0 < cntTo s k))) (fun _ _ _ _ i _ => 2 - (intOf i).toNat)
  case atStart => exact ⟨0, 0, by omega, rfl, rfl, rfl, rfl⟩
  case round =>
    obtain ⟨k, d, hk, rfl, rfl, rfl, rfl⟩ := hrel
    have he := cntTo_le s k
    have q0 : w.cell? ⟨G, 0, none⟩ = some (.string ⟨#[34]⟩) := by rw [hS'.out.row.cell, ← hS'.out.first (by omega)]; rfl
    have q1 : w.cell? ⟨G, 1, none⟩ = some (.string ⟨#[92]⟩) := by rw [hS'.out.row.cell, ← hS'.out.second (by omega)]; rfl
    obtain ⟨g, cap, _, _, hc, _, _⟩ := hS'.out.esc 34 rfl
    obtain ⟨g', cap', _, _, hc', _, _⟩ := hS'.out.esc 92 rfl
    have x34 : ∀ h, ((⟨#[34]⟩ : ByteArray)[0]'h).toNat = 34 := fun _ => rfl
    have x92 : ∀ h, ((⟨#[92]⟩ : ByteArray)[0]'h).toNat = 92 := fun _ => rfl
    obtain rfl | rfl | rfl : k = 0 ∨ k = 1 ∨ k = 2 := by omega
    · have hn : Hid (cntTo s 1 = s.data.toList.count 34) := rfl
      have hle : s.data.toList.count 34 ≤ s.size := cntTo_le s 1
      have hcnt := Tryz.strings_Count_one s 34
      unfold Lib.countByte at hcnt
      have hz : Hid (cntTo s 0 = 0) := rfl
      generalize s.data.toList.count 34 = c at *
      skip
      have Hcnt := hide hcnt
      clear hcnt
      have cc : w.cell? ⟨G + 1, 34, none⟩ = some (.slice (some ⟨g, 0, none⟩) 2 cap) := hc
      generalize cntTo s 0 = z at *
      obtain rfl : z = 0 := hz.out
      clear hz
      by_cases hc0 : c = 0
      · have hcn : ((c : Int) != 0) = false := by simp; omega
        have HC := hide hc0
        clear hc0
        go_wp2_with (go_at_call 71; refine (Hcnt.out _).mono ?_; rintro e w' ⟨rfl, rfl⟩)
        go_roundw
        case rel => exact ⟨1, d, by omega, rfl, rfl, by rw [hn.out, HC.out]; rfl, by rw [hn.out, HC.out]; rfl⟩
        case measure => simp [intOf]
      · have hcn : ((c : Int) != 0) = true := by simp; omega
        have hpos : 0 < c := by omega
        have HP := hide hpos
        clear hpos
        go_wp2_with (go_at_call 71; refine (Hcnt.out _).mono ?_; rintro e w' ⟨rfl, rfl⟩)
        go_quiet (fail)
        go_wp2
        go_roundw
        case rel => exact ⟨1, d + nq, by omega, rfl, rfl, by rw [hn.out]; go_num, by rw [hn.out]; simp [HP.out]⟩
        case measure => simp [intOf]
    · have hn : Hid (cntTo s 2 = s.data.toList.count 34 + s.data.toList.count 92) := rfl
      have hle : s.data.toList.count 34 + s.data.toList.count 92 ≤ s.size := cntTo_le s 2
      have hcnt := Tryz.strings_Count_one s 92
      unfold Lib.countByte at hcnt
      have hz : Hid (cntTo s 1 = s.data.toList.count 34) := rfl
      generalize s.data.toList.count 92 = c at *
      generalize s.data.toList.count 34 = z0 at *
      have Hcnt := hide hcnt
      clear hcnt
      have cc : w.cell? ⟨G + 1, 92, none⟩ = some (.slice (some ⟨g', 0, none⟩) 2 cap') := hc'
      generalize cntTo s 1 = z at *
      obtain rfl : z = z0 := hz.out
      clear hz
      by_cases hc0 : c = 0
      · have hcn : ((c : Int) != 0) = false := by simp; omega
        have HC := hide hc0
        clear hc0
        go_wp2_with (go_at_call 71; refine (Hcnt.out _).mono ?_; rintro e w' ⟨rfl, rfl⟩)
        go_roundw
        case rel => exact ⟨2, d, by omega, rfl, rfl, by rw [hn.out, HC.out]; rfl, by rw [hn.out, HC.out]; rfl⟩
        case measure => simp [intOf]
      · have hcn : ((c : Int) != 0) = true := by simp; omega
        have hpos : 0 < z + c := by omega
        have HP := hide hpos
        clear hpos
        go_wp2_with (go_at_call 71; refine (Hcnt.out _).mono ?_; rintro e w' ⟨rfl, rfl⟩)
        go_quiet (fail)
        go_wp2
        go_roundw
        case rel => exact ⟨2, d + nq, by omega, rfl, rfl, by rw [hn.out]; go_num, by rw [hn.out]; simp [HP.out]⟩
        case measure => simp [intOf]
    · rw [cntTo_two] at he ⊢
      have hz : cntTo s 2 = escN s s.size := cntTo_two s
      obtain ⟨W, hW⟩ : ∃ W, W = w.drewN d := ⟨_, rfl⟩
      have hSW : Hid (Stage G W 2 cs s0 s1) := by rw [hW]; exact hS'.out.drewN d
      have hbW : Below w.heap.size w W := by rw [hW]; exact below_drewN (Below.refl _ _) d
      have hszW : W.heap.size = w.heap.size := by rw [hW]; rfl
      have HbW := hide hbW
      have HszW := hide hszW
      rw [← hW]
      clear hW hbW hszW hz
      have hlen := hide (quoteL_take_len s s.size (Nat.le_refl _))
      have hid := hide (quoteL_id s.data.toList)
      by_cases h0 : escN s s.size = 0
      · have h0' : decide (0 < escN s s.size) = false := by simp [h0]
        have H0 := hide h0
        clear h0
        go_wp2
        go_ret
        refine ⟨?_, HbW.out⟩
        have h1 : quoteL s.data.toList = s.data.toList := by
          apply hid.out
          have h2 := H0.out
          unfold escN at h2
          rwa [List.take_of_length_le (by simp)] at h2
        rw [h1]; rfl
      · have h0' : decide (0 < escN s s.size) = true := by simp; omega
        have hmono := hide (escN_mono s)
        have hmk := make_bytes (s.size + escN s s.size) (by omega)
        simp only [Int.natCast_add] at hmk
        clear h0
        generalize hE : escN s s.size = E at *
        have HE := hide hE
        clear hE
        go_wp2
        clear hmk h0' r2
        go_loopw [13, 14, 15] (fun j i _ wr => ∃ k : Nat, k ≤ s.size ∧ i = .int .i64 k ∧ j = .int .i64 ((k + escN s k : Nat) : Int) ∧ Below W.heap.size W wr ∧ Filling wr W.heap.size (s.size + E) (quoteL (s.data.toList.take k))) (fun _ i _ _ => s.size - (intOf i).toNat)
        case atStart => exact ⟨0, by omega, rfl, by rw [escN_zero]; rfl, (Below.refl _ _).alloc (Nat.le_refl _) _, filling_made W _⟩
        case round =>
          obtain ⟨k, hk, rfl, rfl, hb, hF⟩ := hrel
          have hek := escN_le s k
          have hll := hide (quoteL_take_len s k hk)
          by_cases hlt : k < s.size
          · have hn := hide (escN_succ s k hlt)
            have hm1 := hmono.out (k + 1)
            have hq := hide (quoteL_take_succ s k hlt)
            have h256 := UInt8.toNat_lt s[k]
            cases hx : isEsc s[k]
            · have hc := (hSW.out.below hb).nil_ s[k] hx
              have hm2 : k + escN s k < s.size + E := by rw [escN_succ s k hlt, hx] at hm1; simp at hm1; omega
              obtain ⟨v, hv, hf⟩ := hF.cell (k + escN s k) hm2
              have Hx := hide hx
              have HF := hide hF
              have hbs := hb.size
              have Hb := hide hb
              clear hx hF hb hm1
              generalize escN s k = e at *
              go_wp2
              go_roundw
              case rel =>
                have h2 := hn.out
                rw [Hx.out] at h2
                have h3 := HF.out.set_ (by rw [hll.out]; exact hm2) s[k]
                rw [hll.out] at h3
                refine ⟨k + 1, by omega, by go_num, by rw [h2]; go_num, Hb.out.setCell (p := ⟨W.heap.size, k + e, none⟩) (Nat.le_refl _) _, ?_⟩
                rw [hq.out, quoteB_eq, Hx.out]
                exact h3
              case measure => simp [intOf]; omega
            · obtain ⟨g, cap, hg1, hg2, hc, hc0, hc1⟩ := (hSW.out.below hb).esc s[k] hx
              have hm2 : k + escN s k + 1 < s.size + E := by rw [escN_succ s k hlt, hx] at hm1; simp at hm1; omega
              have Hx := hide hx
              have HF := hide hF
              have hbs := hb.size
              have Hb := hide hb
              clear hx hF hb hm1
              generalize escN s k = e at *
              have hne : ¬ s.size + E = k + e := by omega
              have hb1 : (0 : Int) ≤ (k : Int) + (e : Int) := by omega
              have hb2 : (k : Int) + (e : Int) ≤ (s.size : Int) + (E : Int) := by omega
              go_wp2
              obtain ⟨cur, hh1, hh2, hh3⟩ := HF.out
              have hh3' := hide hh3
              clear hh3
              have hsz5 : (Tryz.prog.info? 5).map (·.size) = some 1 := by kernel_rfl
              have hnn : [byteV 92, byteV s[k]].length = Nat.min 2 (s.size + E - (k + e)) := by show (2 : Nat) = Min.min 2 (s.size + E - (k + e)); omega
              have hsrc : ∀ j v, [byteV 92, byteV s[k]][j]? = some v → wr.cell? ((⟨g, 0, none⟩ : Addr).add j) = some v := by
                intro j v hj
                match j, hj with
                | 0, hj => simp at hj; rw [← hj]; exact hc0
                | 1, hj => simp at hj; rw [← hj]; exact hc1
                | j + 2, hj => simp at hj
              have hfit : k + e + [byteV 92, byteV s[k]].length ≤ cur.length := by simp; omega
              have h1c : ∀ v ∈ [byteV 92, byteV s[k]], v.oneCell' = true := by intro v hv; simp at hv; rcases hv with rfl | rfl <;> rfl
              have HP := hide (And.intro hh1 (And.intro hh2 (And.intro hnn (And.intro hsrc (And.intro hfit h1c)))))
              clear hh1 hh2 hnn hsrc hfit h1c
              have hb3 : ((s[k].toNat : Nat) : Int) < 256 := by omega
              have ht : ((k : Int) + (e : Int)).toNat = k + e := by omega
              go_region_law (refine step_copy_splice rfl (.tmp 105) (.tmp 111) 97 97 rfl 5 Tryz.underlying97 hsz5 (some ⟨W.heap.size, k + e, none⟩) (some ⟨g, 0, none⟩) (s.size + E - (k + e)) (s.size + E - (k + e)) 2 cap rfl rfl W.heap.size (k + e) cur 5 HP.out.1 [byteV 92, byteV s[k]] HP.out.2.2.1 (fun _ => ⟨rfl, _, rfl, HP.out.2.2.2.1⟩) HP.out.2.2.2.2.1 HP.out.2.2.2.2.2 W.heap.size W Hb.out.drew (Nat.le_refl _) ?_; intro w4 hg4 hb4)
              have hF4 : Filling w4 W.heap.size (s.size + E) (quoteL (s.data.toList.take (k + 1))) := by
                rw [hq.out, quoteB_eq, Hx.out]
                have h3 := hg4.out
                rw [← hll.out] at h3
                exact Filling.more (r := [92, s[k]]) HP.out.2.1 hh3'.out (by rw [hll.out]; simp; omega) h3
              have h2 := hn.out
              rw [Hx.out] at h2
              have H2 := hide h2
              have HF4 := hide hF4
              have Hb4 := hide hb4
              clear hF4 hb4 h2 hb1 hb2 hb3 ht
              go_wp2
              go_roundw
              case rel => exact ⟨k + 1, by omega, by go_num, by rw [H2.out]; simp only [if_true]; go_num, Hb4.out, HF4.out⟩
              case measure => simp [intOf]; omega
          · obtain rfl : k = s.size := by omega
            have htk : s.data.toList.take s.size = s.data.toList := List.take_of_length_le (by simp)
            rw [htk] at hF
            have hl2 : (quoteL s.data.toList).length = s.size + E := by have := hlen.out; rwa [htk] at this
            have hcb := run_convert_bytes_back (P := Tryz.prog) wr 97 9 5 ⟨W.heap.size, 0, none⟩ (s.size + E) (quoteL s.data.toList) Tryz.underlying97 Tryz.underlying5 Tryz.underlying9 (fun j hj => hF.full hl2 j hj)
            rw [hl2] at hcb
            have Hb := hide hb
            clear hF hl2 hb htk
            obtain ⟨q, hqq⟩ : ∃ q, q = quoteL s.data.toList := ⟨_, rfl⟩
            rw [← hqq] at hcb
            have HQ := hide hqq
            clear hqq
            go_wp2
            go_ret
            exact ⟨by rw [← HQ.out]; rfl, HbW.out.trans (HszW.out ▸ Hb.out)⟩
end Go.Proofs.YtcnihmlmaigkdaaGreatDoor
namespace Go.Proofs.YtcnihmlmaigkdaaGreatDoor
open Go.RowKit Go.Lib

/-- The four strings lie in memory. -/
def Pairs (w : World) (o : Nat) : Prop :=
  w.cell? ⟨o, 0, none⟩ = some (.string ⟨#[92]⟩) ∧ w.cell? ⟨o, 1, none⟩ = some (.string ⟨#[92, 92]⟩) ∧ w.cell? ⟨o, 2, none⟩ = some (.string ⟨#[34]⟩) ∧ w.cell? ⟨o, 3, none⟩ = some (.string ⟨#[92, 34]⟩)
def pairL : List Value := [.string ⟨#[92]⟩, .string ⟨#[92, 92]⟩, .string ⟨#[34]⟩, .string ⟨#[92, 34]⟩]

theorem string_info : (Tryz.prog.info? 9).map (fun i => (i.zero, i.size, i.bytes)) = some (some (.string ⟨#[]⟩), 1, 16) := by kernel_rfl

/-- What lies behind 'NewReplacer'. -/
def Fresh (w : World) (e : Ending) (w' : World) : Prop :=
  ∃ b o2 c, e = .returned (.pointer (some ⟨b, 0, none⟩)) ∧ w.heap.size ≤ b ∧ b ≠ o2 ∧
      Blk w' b 323 #[.int .u32 0, .int .i32 0, .int .u32 0, .nilIface, .slice (some ⟨o2, 0, none⟩) 4 c] ∧ Pairs w' o2 ∧ Below w.heap.size w w'

set_option maxRecDepth 100000 in
set_option maxHeartbeats 1000000 in
theorem NewReplacer_calls (o : Nat) (w : World) (hp : Pairs w o) :
    Calls Tryz.prog 182 #[.slice (some ⟨o, 0, none⟩) 4 4] w (Fresh w) := by
  obtain ⟨i0, hi, hz0, hz1, hz2⟩ := info_parts string_info
  have hc : ∀ j v, pairL[j]? = some v → w.cell? ((⟨o, 0, none⟩ : Addr).add j) = some v := by
    intro j v hj
    obtain ⟨p0, p1, p2, p3⟩ := hp
    match j, hj with
    | 0, hj => simp [pairL] at hj; rw [← hj]; exact p0
    | 1, hj => simp [pairL] at hj; rw [← hj]; exact p1
    | 2, hj => simp [pairL] at hj; rw [← hj]; exact p2
    | 3, hj => simp [pairL] at hj; rw [← hj]; exact p3
    | j + 4, hj => simp [pairL] at hj
  have h1 : ∀ u ∈ pairL, u.oneCell' = true := by
    intro u hu
    simp only [pairL, List.mem_cons, List.not_mem_nil, or_false] at hu
    rcases hu with rfl | rfl | rfl | rfl <;> rfl
  clear hp
  have Hc := hide hc
  have H1 := hide h1
  clear hc h1
  go_enter Tryz.func182, Tryz.ntmps182
  go_wp2_with (at_builtin; go_loud (refine wpList_append_own_at _ rfl (.const (.slice none 0 0)) (.tmp 8) 34 rfl w.heap.size 9 i0 _ 1 16 Tryz.underlying34 hi hz0 hz1 hz2 rfl (by decide) (.slice none 0 0) 0 [] rfl (World.ownsRow_nil _ _ _ _) ⟨o, 0, none⟩ 4 4 pairL rfl rfl Hc.out H1.out (by simp only [maxLen]; omega) (by omega) (Nat.le_refl _) ?_); intro v' w1 hown hg hnl hat; obtain ⟨g, cap, hv, hgb, hgl, _, _, hgc, _⟩ := own_form hown (by omega); rw [hv]; clear hv hown hat hnl)
  go_ret
  have hb := (Below.refl _ w).grown hg (Nat.le_refl _) (by simp [Value.ownBlock])
  have hbs := hb.size
  refine ⟨w1.heap.size, g, cap, rfl, hb.size, by omega, Blk.new w1 _ _, ?_, hb.alloc hb.size _⟩
  have hk : ∀ j, (w1.alloc (.cells #[.int .u32 0, .int .i32 0, .int .u32 0, .nilIface, .slice (some ⟨g, 0, none⟩) 4 cap] 323)).cell? ⟨g, j, none⟩ = w1.cell? ⟨g, j, none⟩ := fun j => World.cell?_alloc_lt w1 _ _ hgl
  exact ⟨(hk 0).trans (hgc 0 _ rfl), (hk 1).trans (hgc 1 _ rfl), (hk 2).trans (hgc 2 _ rfl), (hk 3).trans (hgc 3 _ rfl)⟩
theorem bsReplace_calls (G : Nat) (cs : Array Value) (s0 s1 : Value) (s : ByteArray) (w : World) (hS : Stage G w 2 cs s0 s1) (hs : s.size ≤ 100) :
    Calls Tryz.prog 418 #[.pointer (some ⟨G + 1, 0, none⟩), .string s] w fun e w' => e = .returned (.string ⟨(quoteL s.data.toList).toArray⟩) ∧ Below w.heap.size w w' := by
  by_cases h : s.size < 16
  · exact Replace_short G cs s0 s1 s w hS h
  · exact Replace_long G cs s0 s1 s w hS hs (by omega)

set_option maxHeartbeats 1000000 in
theorem Front_calls (b o c : Nat) (s : ByteArray) (w : World) (hs : s.size ≤ 100) (hbo : b ≠ o)
    (hB : Blk w b 323 #[.int .u32 0, .int .i32 0, .int .u32 0, .nilIface, .slice (some ⟨o, 0, none⟩) 4 c]) (hp : Pairs w o) :
    Calls Tryz.prog 183 #[.pointer (some ⟨b, 0, none⟩), .string s] w fun e w' => e = .returned (.string ⟨(quoteL s.data.toList).toArray⟩) ∧ w.grownBy w' (some b) := by
  obtain ⟨g0, g1, g2, g3⟩ := hp
  have H := hide (Do_calls b o c w hB hbo g0 g1 g2 g3)
  have hmf : ∀ (fn : Fn) (first cap : Array Value) (w : World), (Instr.makeFunc fn first cap).run Tryz.prog w = .ok (.func fn first cap) w := fun _ _ _ _ => rfl
  have k0 : w.cell? ⟨b, 0, none⟩ = some (.int .u32 0) := hB.cell 0
  clear g0 g1 g2 g3 hB
  go_enter Tryz.func183, Tryz.ntmps183
  go_wp2_with (first | (go_at_call 235; refine H.out.mono ?_; rintro e w2 ⟨rfl, hg2, G, cs, s0, s1, hG, hB2, hS⟩; have k3 : w2.cell? ⟨b, 3, none⟩ = some (.iface 397 (.pointer (some ⟨G + 1, 0, none⟩))) := hB2.cell 3) | (go_at_call 418; refine (bsReplace_calls G cs s0 s1 s _ hS hs).mono ?_; rintro e w3 ⟨rfl, hb3⟩))
  go_ret
  exact ⟨rfl, hg2.trans (only_of_below hb3 _)⟩

theorem quoteL_size (s : ByteArray) (hs : s.size ≤ 100) : (quoteL s.data.toList).length ≤ 200 := by
  have := quoteL_length s.data.toList
  have h2 : s.data.toList.length = s.size := by simp
  omega
theorem quote_join (s : ByteArray) (h : validS s = true) : (⟨#[34]⟩ : ByteArray) ++ ⟨(quoteL s.data.toList).toArray⟩ ++ ⟨#[34]⟩ = quoteS s := by
  rw [quoteS_yes s h]
  apply ByteArray.ext
  apply Array.ext'
  simp
theorem validS_size (s : ByteArray) (h : validS s = true) : s.size ≤ 30 := by
  simp only [validS, validL, Bool.and_eq_true, decide_eq_true_eq] at h
  simpa using h.1.2

set_option maxRecDepth 100000 in
set_option maxHeartbeats 1000000 in
theorem Quote_calls (s : ByteArray) (w : World) :
    Calls Tryz.prog 120 #[.string s] w fun e w' => e = .returned (.string (quoteS s)) ∧ Below w.heap.size w w' := by
  cases hv : validS s
  · have Hv := hide hv
    have Hq := hide (quoteS_not s hv)
    clear hv
    go_enter Tryz.func120, Tryz.ntmps120
    go_wp2_with (go_at_call 181; refine (Valid_calls _ _).mono ?_; rintro e w1 ⟨rfl, hb1⟩; rw [Hv.out])
    go_ret
    exact ⟨by rw [Hq.out]; rfl, hb1⟩
  · have Hv := hide hv
    have Hq := hide (quote_join s hv)
    have hsz := validS_size s hv
    have hqs := quoteL_size s (by omega)
    clear hv
    go_enter Tryz.func120, Tryz.ntmps120
    go_wp2_with (first
      | (go_at_call 181; refine (Valid_calls _ _).mono ?_; rintro e w1 ⟨rfl, hb1⟩; rw [Hv.out])
      | (go_at_call 182; refine (NewReplacer_calls _ _ ⟨by go_simp, by go_simp, by go_simp, by go_simp⟩).mono ?_; rintro e w2 ⟨b, o2, c, rfl, hbb, hbo, hB, hP, hb2⟩)
      | (go_at_call 183; refine (Front_calls b o2 c s _ (by omega) hbo hB hP).mono ?_; rintro e w3 ⟨rfl, hg3⟩))
    have hbx : w1.heap.size ≤ b := by simp at hbb; omega
    go_ret
    refine ⟨by rw [← Hq.out]; rfl, ?_⟩
    have h2 := ((hb1.alloc hb1.size _).trans (hb2.mono (by simp; have := hb1.size; omega)))
    exact h2.grown hg3 h2.size (fun k hk => by cases hk; have := hb1.size; omega)
end Go.Proofs.YtcnihmlmaigkdaaGreatDoor
