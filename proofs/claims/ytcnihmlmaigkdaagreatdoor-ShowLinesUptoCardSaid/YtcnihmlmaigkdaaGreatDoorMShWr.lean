/- show: the writer of lines in memory, id and line (chapter 08). parse.Word (chapter 07). show.text (chapter 08). -/
import Derived.Test.YtcnihmlmaigkdaaGreatDoorMShSpec
import Derived.Test.YtcnihmlmaigkdaaGreatDoorNuFmt10
import Derived.Test.YtcnihmlmaigkdaaGreatDoorMReplSpec2
import Derived.Test.YtcnihmlmaigkdaaGreatDoorMMem
import Derived.Deep.RegionHeld3
import Derived.BigQuiet
import Derived.Test.YtcnihmlmaigkdaaGreatDoorBld
import Derived.Handy
namespace Go.Proofs.YtcnihmlmaigkdaaGreatDoor
open Go.RowKit Go.Lib
set_option linter.unusedVariables false

def strsV (l : List ByteArray) : List Value := l.map .string
def ofL (l : List UInt8) : ByteArray := ⟨l.toArray⟩
theorem ofL_list (l : List UInt8) : (ofL l).data.toList = l := by simp [ofL]
theorem ofL_of (s : ByteArray) : ofL s.data.toList = s := by cases s; simp [ofL]
theorem ofL_size (l : List UInt8) : (ofL l).size = l.length := by show l.toArray.size = l.length; simp
theorem lit_size (l : List UInt8) : (⟨l.toArray⟩ : ByteArray).size = l.length := ofL_size l
theorem list_append (a b : ByteArray) : (a ++ b).data.toList = a.data.toList ++ b.data.toList := by rw [ByteArray.data_append]; simp
theorem list_size (a : ByteArray) : a.data.toList.length = a.size := by show a.data.toList.length = a.data.size; simp
theorem bytes_eq {a b : ByteArray} (h : a.data.toList = b.data.toList) : a = b := by rw [← ofL_of a, ← ofL_of b, h]
theorem ret_s {a b : ByteArray} (h : a = b) : Ending.returned (.string a) = .returned (.string b) := by rw [h]
theorem strsV_snoc (l : List ByteArray) (s : ByteArray) : strsV (l ++ [s]) = strsV l ++ [.string s] := by simp [strsV]
theorem strs_one (s : ByteArray) : ∀ u ∈ [Value.string s], u.oneCell' = true := by intro u hu; rw [List.mem_singleton] at hu; rw [hu]; rfl
theorem own_lt2 {w : World} {base e size n : Nat} {v : Value} {xs : List Value} (h : w.ownsRow base e size v n xs) : ∀ k, v.ownBlock = some k → base ≤ k ∧ k < w.heap.size := by
  intro k hk
  rcases h.2 with ⟨rfl, _⟩ | ⟨g, cap, cur, rfl, hb, hg, _⟩
  · simp [Value.ownBlock] at hk
  · have hk : g = k := by simpa [Value.ownBlock] using hk
    subst hk
    have hg' : Blk w g e cur := hg
    exact ⟨hb, hg'.lt⟩

/-- The writer at block g (of B or later), with the lines L; all its blocks lie below C. -/
def WrAt (B C g : Nat) (L : List ByteArray) (w : World) : Prop :=
  ∃ v, Blk w g 108 #[v] ∧ w.ownsRow B 9 1 v L.length (strsV L) ∧ B ≤ g ∧ g < C ∧ C ≤ w.heap.size ∧ ∀ k, v.ownBlock = some k → k < C
section
variable {B C C' g : Nat} {L : List ByteArray} {w w' : World}
theorem WrAt.below (h : WrAt B C g L w) (hb : Below w.heap.size w w') : WrAt B C g L w' := by
  obtain ⟨v, h1, h2, h3, h4, h5, h6⟩ := h
  exact ⟨v, h1.below hb h1.lt, own_below h2 hb, h3, h4, Nat.le_trans h5 hb.size, h6⟩
theorem WrAt.alloc (h : WrAt B C g L w) (o : Obj) : WrAt B C g L (w.alloc o) := h.below ((Below.refl _ w).alloc (Nat.le_refl _) o)
theorem WrAt.drew (h : WrAt B C g L w) : WrAt B C g L w.drew := h.below (Below.drew (Below.refl _ w))
theorem WrAt.drewN (h : WrAt B C g L w) (n : Nat) : WrAt B C g L (w.drewN n) := h.below (below_drewN (Below.refl _ w) n)
theorem WrAt.more (h : WrAt B C g L w) (hC : C ≤ C') (hw : C' ≤ w.heap.size) : WrAt B C' g L w := by
  obtain ⟨v, h1, h2, h3, h4, h5, h6⟩ := h
  exact ⟨v, h1, h2, h3, by omega, hw, fun k hk => by have := h6 k hk; omega⟩
end
/-- What a method of the writer leaves: one line more. -/
def Wrote (B C g : Nat) (L : List ByteArray) (s : ByteArray) (w : World) (e : Ending) (w' : World) : Prop :=
  e = .returned (.tuple #[]) ∧ WrAt B w'.heap.size g (L ++ [s]) w' ∧ But (fun k => B ≤ k ∧ k < C) w w'
theorem join_calls (fs : List ByteArray) (sep : ByteArray) (b c : Nat) (w : World) (hf : ∀ j x, fs[j]? = some x → w.cell? ⟨b, j, none⟩ = some (.string x)) (hb : b < w.heap.size) (hc : fs.length ≤ c) (hn : fs.length ≤ 1000000)
    (hj : (Lib.join (fs.map (·.data.toList)) sep.data.toList).length ≤ 140737488355328) :
    Calls Tryz.prog 123 #[.slice (some ⟨b, 0, none⟩) fs.length c, .string sep] w fun e w' => e = .returned (.string (ofL (Lib.join (fs.map (·.data.toList)) sep.data.toList))) ∧ Below w.heap.size w w' :=
  Tryz.strings_Join b 0 c fs sep w (fun j x hx => by rw [Nat.zero_add]; exact hf j x hx) hb (by omega) hc hj
set_option maxRecDepth 100000 in
theorem id_calls (x : Nat) (hx : x < 65536) (w : World) (htab : Tab10 w) :
    Calls Tryz.prog 119 #[.int .u16 (x : Int)] w fun e w' => e = .returned (.string (ofL (numB x))) ∧ Below w.heap.size w w' := by
  have H := Lib.hid (Decimal_calls x (by unfold top64; omega) w htab)
  clear htab
  go_enter Tryz.func119, Tryz.ntmps119
  go_wp2_with (go_at_call 27; refine H.out.mono ?_; rintro e w' ⟨rfl, hb⟩)
  go_ret
  exact ⟨rfl, hb⟩
set_option maxRecDepth 100000 in
set_option maxHeartbeats 4000000 in
theorem line_calls (B C g : Nat) (L : List ByteArray) (head : ByteArray) (fs : List ByteArray) (b c : Nat) (w : World) (h : WrAt B C g L w) (hL : L.length ≤ 1000000)
    (hf : ∀ j x, fs[j]? = some x → w.cell? ⟨b, j, none⟩ = some (.string x)) (hb : b < w.heap.size) (hc : fs.length ≤ c) (hn : fs.length ≤ 1000000)
    (hj : (Lib.join (fs.map (·.data.toList)) [59, 32]).length ≤ 1000000) (hh : head.size ≤ 1000000) :
    Calls Tryz.prog 118 #[.pointer (some ⟨g, 0, none⟩), .string head, .slice (some ⟨b, 0, none⟩) fs.length c] w (Wrote B C g L (ofL (lnB head.data.toList (fs.map (·.data.toList)))) w) := by
  obtain ⟨v, hblk, hown, hBg, hgC, hCw, hvC⟩ := h
  obtain ⟨a, n, c0, rfl⟩ : ∃ a n c0, v = .slice a n c0 := by obtain ⟨a, c0, e⟩ := own_slice hown; exact ⟨_, _, _, e⟩
  obtain ⟨i0, hi, hz0, hz1, hz2⟩ := info_parts string_info
  have HJ : Hid (∀ W, Below w.heap.size w W → Calls Tryz.prog 123 #[.slice (some ⟨b, 0, none⟩) fs.length c, .string ⟨#[59, 32]⟩] W fun e w' => e = .returned (.string (ofL (Lib.join (fs.map (·.data.toList)) [59, 32]))) ∧ Below W.heap.size W w') := hide (fun W hW =>
    join_calls fs ⟨#[59, 32]⟩ b c W (fun j x hx => (hW.cell (p := ⟨b, j, none⟩) hb).trans (hf j x hx)) (Nat.lt_of_lt_of_le hb hW.size) hc hn (Nat.le_trans hj (by decide)))
  obtain ⟨jn, hjn⟩ : ∃ s, s = ofL (Lib.join (fs.map (·.data.toList)) [59, 32]) := ⟨_, rfl⟩
  have hjs : jn.size ≤ 1000000 := by rw [hjn, ofL_size]; exact hj
  rw [← hjn] at HJ
  have HR : Hid (ofL (lnB head.data.toList (fs.map (·.data.toList))) = head ++ ⟨#[32, 123, 32]⟩ ++ jn ++ ⟨#[59, 32, 125]⟩) := hide (by
    apply bytes_eq
    rw [ofL_list, list_append, list_append, list_append, hjn, ofL_list]
    rfl)
  rw [HR.out]
  have q1 : (9223372036854775807 < head.size + 3) = False := by simp; omega
  have q2 : (9223372036854775807 < head.size + 3 + jn.size) = False := by simp; omega
  have q3 : (9223372036854775807 < head.size + 3 + jn.size + 3) = False := by simp; omega
  have k0 : w.cell? ⟨g, 0, none⟩ = some (.slice a n c0) := hblk.cell 0
  have kf := fun i => hblk.frozen i
  have hgw := hblk.lt
  have hne : (Value.slice a n c0).ownBlock ≠ some g := own_blk_ne hown hblk (by decide)
  have HB := hide hblk
  have HO := hide hown
  have HV := hide hvC
  have HNE := hide hne
  have H1 := hide (strs_one (head ++ ⟨#[32, 123, 32]⟩ ++ jn ++ ⟨#[59, 32, 125]⟩))
  have HC1 : Hid (∀ W : World, ∀ j u, [Value.string (head ++ ⟨#[32, 123, 32]⟩ ++ jn ++ ⟨#[59, 32, 125]⟩)][j]? = some u → (W.alloc (.cells #[.string (head ++ ⟨#[32, 123, 32]⟩ ++ jn ++ ⟨#[59, 32, 125]⟩)] 9)).cell? ((⟨W.heap.size, 0, none⟩ : Addr).add j) = some u) := hide (fun W => cell_one_new W _ _)
  have HI := hide hi
  clear hblk hown hvC hne hjn hf hj hi
  go_enter Tryz.func118, Tryz.ntmps118
  go_wp2_with fail
  go_region_law (first
    | (go_simp; go_at_call 123; refine (HJ.out _ (Below.drew (Below.refl _ w))).mono ?_; rintro e w2 ⟨rfl, hb2⟩; have hB2 := HB.out.drew.below hb2 hgw; have k2 : w2.cell? ⟨g, 0, none⟩ = some (.slice a n c0) := hB2.cell 0; have k3 : (w2.alloc (.cells #[.string (head ++ ⟨#[32, 123, 32]⟩ ++ jn ++ ⟨#[59, 32, 125]⟩)] 9)).cell? ⟨g, 0, none⟩ = some (.slice a n c0) := (hB2.alloc _).cell 0; have HB2 := hide hB2; have HO2 := hide (own_below (w := w.drew) (by exact HO.out) hb2); have hz2w : w.heap.size ≤ w2.heap.size := hb2.size; have HG2 := hide (Below.trans (Below.drew (Below.refl w.heap.size w)) hb2); clear hb2 hB2)
    | (refine step_append_any _ rfl (.tmp 10) (.tmp 17) 34 rfl B 9 i0 _ 1 16 Tryz.underlying34 HI.out hz0 hz1 hz2 rfl (by decide) (.slice a n c0) L.length (strsV L) (by simp [Act.eval]) (HO2.out.alloc _) (w2.heap.size + 1) (some ⟨w2.heap.size, 0, none⟩) 1 1 [.string (head ++ ⟨#[32, 123, 32]⟩ ++ jn ++ ⟨#[59, 32, 125]⟩)] (by simp [Act.eval]) ⟨rfl, fun _ => ⟨_, rfl, by simp, HC1.out w2⟩⟩ H1.out (by simp only [maxLen]; omega) (by omega) (by simp; omega) ?_; intro v4 w4 ho4 hg4 hat4; obtain ⟨a4, c4, hv4⟩ := own_slice ho4; subst hv4; have hB4 := Blk.grown (HB2.out.alloc (.cells #[.string (head ++ ⟨#[32, 123, 32]⟩ ++ jn ++ ⟨#[59, 32, 125]⟩)] 9)) hg4 (fun e => HNE.out e.symm); have q0 : w4.cell? ⟨g, 0, none⟩ = some (.slice a n c0) := hB4.cell 0; have qf := fun i => hB4.frozen i; have HB4 := hide hB4; have HO4 := hide ho4; have HG4 := hide ((((But.of_below HG2.out : But (fun k => B ≤ k ∧ k < C) w w2).alloc (.cells #[.string (head ++ ⟨#[32, 123, 32]⟩ ++ jn ++ ⟨#[59, 32, 125]⟩)] 9))).grown hg4 (fun r hr => .inl ⟨(own_lt2 HO.out r hr).1, HV.out r hr⟩)); have HAT := hide hat4; clear ho4 hg4 hat4 hB4))
  all_goals
    go_end0
    have hne4 : (Value.slice a4 (L.length + 1) c4).ownBlock ≠ some g := own_blk_ne HO4.out HB4.out (by decide)
    have hov := own_lt2 HO4.out
    refine ⟨rfl, ⟨_, HB4.out.set_ 0 _, ?_, hBg, ?_, ?_, fun k hk => ?_⟩, HG4.out.setCell (.inl ⟨hBg, hgC⟩) _⟩
    · rw [strsV_snoc, List.length_append]
      exact ownsRow_setCell_other HO4.out hne4 _
    · rw [size_setCell]; exact HB4.out.lt
    · exact Nat.le_refl _
    · rw [size_setCell]; exact (hov k hk).2
end Go.Proofs.YtcnihmlmaigkdaaGreatDoor
namespace Go.Proofs.YtcnihmlmaigkdaaGreatDoor
open Go.RowKit Go.Lib
set_option linter.unusedVariables false

theorem word_size {r : Nat} (h : r ≤ 7) : (rightsW r).length ≤ 4 := by
  have key : ∀ r : Fin 8, (rightsW r.val).length ≤ 4 := by decide +kernel
  exact key ⟨r, by omega⟩
def letsTo (r k : Nat) : List UInt8 := (if 0 < k ∧ r % 2 = 1 then [114] else []) ++ (if 1 < k ∧ r / 2 % 2 = 1 then [119] else []) ++ (if 2 < k ∧ r / 4 % 2 = 1 then [120] else [])
def setIter (W : World) (g : Nat) (s : ByteArray) (p : Nat) : World := { W with heap := W.heap.setIfInBounds g (.stringIter s p) }
theorem run_next_at {P : Program} (W : World) (g : Nat) (s : ByteArray) (pos : Nat) (ty : TypeId) (hg : W.heap[g]? = some (.stringIter s pos)) (h : pos < s.size) (ha : (s[pos]'h).toNat < 128) :
    (Instr.next (.pointer (some ⟨g, 0, none⟩)) true ty).run P W = .ok (.tuple #[.bool true, .int .i64 pos, .int .i32 (s[pos]'h).toNat]) (setIter W g s (pos + 1)) := by
  simp only [Instr.next, getObj, setObj, Sem.run_bind, Sem.run, hg, Result.andThen, h, if_true, decode_ascii s pos h ha]
  simp [goInt, setIter]
theorem run_next_over {P : Program} (W : World) (g : Nat) (s : ByteArray) (pos : Nat) (ty : TypeId) (hg : W.heap[g]? = some (.stringIter s pos)) (h : ¬ pos < s.size) :
    (Instr.next (.pointer (some ⟨g, 0, none⟩)) true ty).run P W = .ok (.tuple #[.bool false]) W := by
  simp [Instr.next, getObj, Sem.run, hg, h]
theorem setIter_at (W : World) (g : Nat) (s : ByteArray) (p : Nat) (hg : g < W.heap.size) : (setIter W g s p).heap[g]? = some (.stringIter s p) := by simp [setIter, hg]
theorem setIter_far (W : World) (g : Nat) (s : ByteArray) (p i : Nat) (hi : i ≠ g) : (setIter W g s p).heap[i]? = W.heap[i]? := by simp [setIter, Ne.symm hi]
theorem setIter_below {B : Nat} {w W : World} (h : Below B w W) (g : Nat) (hg : B ≤ g) (s : ByteArray) (p : Nat) : Below B w (setIter W g s p) :=
  ⟨h.os, h.tape, h.output, by simpa [setIter] using h.size, fun i hi => (setIter_far W g s p i (by omega)).trans (h.block i hi)⟩
theorem bld_iter {B b : Nat} {l : List UInt8} {W : World} (h : Bld B b l W) (g : Nat) (s : ByteArray) (p q : Nat) (hg : W.heap[g]? = some (.stringIter s p)) : Bld B b l (setIter W g s q) := by
  have key : ∀ v, Lib.BuilderAt 99 5 B b v (Lib.byteCells l) W → Lib.BuilderAt 99 5 B b v (Lib.byteCells l) (setIter W g s q) := by
    rintro v ⟨h1, u, h2, h3, h4⟩
    have hb : b ≠ g := fun e => by subst e; rw [hg] at h2; cases h2
    refine ⟨h1, u, (setIter_far W g s q b hb).trans h2, ⟨h3.1, ?_⟩, h4⟩
    rcases h3.2 with h0 | ⟨r, cap, cur, hv, hb2, hr, h5⟩
    · exact .inl h0
    · have hrg : r ≠ g := fun e => by subst e; rw [hg] at hr; cases hr
      exact .inr ⟨r, cap, cur, hv, hb2, (setIter_far W g s q r hrg).trans hr, h5⟩
  rcases h with h | h
  · exact .inl (key _ h)
  · exact .inr (key _ h)
abbrev rwx : ByteArray := ⟨#[114, 119, 120]⟩
/-- In Word's loop. -/
def WdS (w : World) (r k : Nat) (W : World) : Prop := Bld w.heap.size w.heap.size (letsTo r k) W ∧ W.heap[w.heap.size + 1]? = some (.stringIter rwx k) ∧ Below w.heap.size w W
theorem WdS.start (w : World) (r : Nat) : WdS w r 0 ((w.alloc (.cells #[.pointer none, .slice none 0 0] 99)).iter rwx 0) := by
  have hb : Below (w.alloc (.cells #[.pointer none, .slice none 0 0] 99)).heap.size (w.alloc (.cells #[.pointer none, .slice none 0 0] 99)) ((w.alloc (.cells #[.pointer none, .slice none 0 0] 99)).iter rwx 0) := (Below.refl _ _).alloc (Nat.le_refl _) _
  refine ⟨.inl ⟨Nat.le_refl _, .slice none 0 0, ?_, ?_, by simp [Value.ownBlock]⟩, ?_, ?_⟩
  · rw [hb.block w.heap.size (by simp)]; exact heap_alloc_new w _
  · simp [letsTo, Lib.byteCells]; exact World.ownsRow_nil _ _ _ _
  · have := World.iter_heap (w.alloc (.cells #[.pointer none, .slice none 0 0] 99)) rwx 0
    rwa [World.size_alloc] at this
  · exact ((Below.refl _ w).alloc (Nat.le_refl _) _).trans (hb.mono (by simp))
/-- The iterator goes on. -/
theorem WdS.next {w W : World} {r k : Nat} (h : WdS w r k W) : Bld w.heap.size w.heap.size (letsTo r k) (setIter W (w.heap.size + 1) rwx (k + 1)) ∧ (setIter W (w.heap.size + 1) rwx (k + 1)).heap[w.heap.size + 1]? = some (.stringIter rwx (k + 1)) ∧ Below w.heap.size w (setIter W (w.heap.size + 1) rwx (k + 1)) := by
  have hl : w.heap.size + 1 < W.heap.size := by
    rcases Nat.lt_or_ge (w.heap.size + 1) W.heap.size with h' | h'
    · exact h'
    · have := h.2.1; simp [Array.getElem?_eq_none h'] at this
  exact ⟨bld_iter h.1 _ _ _ _ h.2.1, setIter_at W _ _ _ hl, setIter_below h.2.2 _ (by omega) _ _⟩
theorem WdS.wrote {w W W' : World} {r k : Nat} {c : UInt8} {l : List UInt8} (h : W.heap[w.heap.size + 1]? = some (.stringIter rwx (k + 1)) ∧ Below w.heap.size w W) (hb : Bld w.heap.size w.heap.size l W') (hl : l = letsTo r (k + 1)) (h2 : Below w.heap.size W W') (ho : Oth w.heap.size W W') : WdS w r (k + 1) W' := by
  have hlt : w.heap.size + 1 < W.heap.size := by
    rcases Nat.lt_or_ge (w.heap.size + 1) W.heap.size with h' | h'
    · exact h'
    · have := h.1; simp [Array.getElem?_eq_none h'] at this
  subst hl
  refine ⟨hb, (ho _ hlt (by omega) (fun cs fr e => ?_)).trans h.1, h.2.trans h2⟩
  rw [h.1] at e; cases e
theorem WdS.skip {w W : World} {r k : Nat} (h : WdS w r k W) (he : letsTo r (k + 1) = letsTo r k) : WdS w r (k + 1) (setIter W (w.heap.size + 1) rwx (k + 1)) := by
  have hn := h.next
  unfold WdS
  rw [he]
  exact hn
theorem WdS.pos {w W : World} {r k : Nat} (h : WdS w r k W) : W.iterPos (w.heap.size + 1) = k := by simp [World.iterPos, h.2.1]
set_option maxRecDepth 100000 in
set_option maxHeartbeats 16000000 in
theorem Word_at0 (w : World) :
    Calls Tryz.prog 122 #[.int .u8 0] w fun e w' => e = .returned (.string (ofL (rightsW 0))) ∧ Below w.heap.size w w' := by
  have HS0 := hide (WdS.start w 0)
  have HN0 : Hid (∀ W, WdS w 0 0 W → (Instr.next (.pointer (some ⟨w.heap.size + 1, 0, none⟩)) true 0).run Tryz.prog W = .ok (.tuple #[.bool true, .int .i64 0, .int .i32 114]) (setIter W (w.heap.size + 1) rwx 1)) := hide (fun W hW => run_next_at (P := Tryz.prog) W (w.heap.size + 1) rwx 0 0 hW.2.1 (by decide) (by decide))
  have HN1 : Hid (∀ W, WdS w 0 1 W → (Instr.next (.pointer (some ⟨w.heap.size + 1, 0, none⟩)) true 0).run Tryz.prog W = .ok (.tuple #[.bool true, .int .i64 1, .int .i32 119]) (setIter W (w.heap.size + 1) rwx 2)) := hide (fun W hW => run_next_at (P := Tryz.prog) W (w.heap.size + 1) rwx 1 0 hW.2.1 (by decide) (by decide))
  have HN2 : Hid (∀ W, WdS w 0 2 W → (Instr.next (.pointer (some ⟨w.heap.size + 1, 0, none⟩)) true 0).run Tryz.prog W = .ok (.tuple #[.bool true, .int .i64 2, .int .i32 120]) (setIter W (w.heap.size + 1) rwx 3)) := hide (fun W hW => run_next_at (P := Tryz.prog) W (w.heap.size + 1) rwx 2 0 hW.2.1 (by decide) (by decide))
  have HNE := hide (fun W (hW : WdS w 0 3 W) => run_next_over (P := Tryz.prog) W (w.heap.size + 1) rwx 3 0 hW.2.1 (by decide))
  go_enter Tryz.func122, Tryz.ntmps122
  go_wp2
  go_loopw [9] (fun v wr => ∃ k : Nat, k ≤ 3 ∧ Hid (WdS w 0 k wr)) (fun v wr => 3 - wr.iterPos (w.heap.size + 1))
  case atStart => exact ⟨0, by omega, HS0⟩
  case round =>
    obtain ⟨k, hk, hrel⟩ := hrel
    have : k = 0 ∨ k = 1 ∨ k = 2 ∨ k = 3 := by omega
    rcases this with rfl | rfl | rfl | rfl
    · have hn := HN0.out wr hrel.out
      have HP := hide hrel.out.pos
      have HR : Hid (WdS w 0 1 (setIter wr (w.heap.size + 1) rwx 1)) := hide (WdS.skip (k := 0) hrel.out (by decide))
      go_wp2
      go_roundw
      case rel => exact ⟨1, by omega, HR⟩
      case measure => rw [HP.out]; have := HR.out.pos; omega
    · have hn := HN1.out wr hrel.out
      have HP := hide hrel.out.pos
      have HR : Hid (WdS w 0 2 (setIter wr (w.heap.size + 1) rwx 2)) := hide (WdS.skip (k := 1) hrel.out (by decide))
      go_wp2
      go_roundw
      case rel => exact ⟨2, by omega, HR⟩
      case measure => rw [HP.out]; have := HR.out.pos; omega
    · have hn := HN2.out wr hrel.out
      have HP := hide hrel.out.pos
      have HR : Hid (WdS w 0 3 (setIter wr (w.heap.size + 1) rwx 3)) := hide (WdS.skip (k := 2) hrel.out (by decide))
      go_wp2
      go_roundw
      case rel => exact ⟨3, by omega, HR⟩
      case measure => rw [HP.out]; have := HR.out.pos; omega
    · have hn := HNE.out wr hrel.out
      have HL := hide (BLen_calls w.heap.size w.heap.size _ wr hrel.out.1)
      have HS := hide (Tryz.Builder_String_any w.heap.size w.heap.size _ wr hrel.out.1 hrel.out.2.2.size)
      have HB := hide hrel.out.2.2
      clear hrel
      have e3 : (letsTo 0 3).length = 0 := by decide
      rw [e3] at HL
      go_wp2_with (first
        | (go_at_call 185; refine HL.out.mono ?_; rintro e w2 ⟨rfl, rfl⟩)
        | (go_at_call 52; refine HS.out.mono ?_; rintro e w2 ⟨rfl, hb⟩; have HB2 := hide (HB.out.trans hb); clear hb))
      go_ret
      exact ⟨ret_s (by decide +kernel), HB.out⟩
set_option maxRecDepth 100000 in
set_option maxHeartbeats 16000000 in
theorem Word_at1 (w : World) :
    Calls Tryz.prog 122 #[.int .u8 1] w fun e w' => e = .returned (.string (ofL (rightsW 1))) ∧ Below w.heap.size w w' := by
  have HS0 := hide (WdS.start w 1)
  have HN0 : Hid (∀ W, WdS w 1 0 W → (Instr.next (.pointer (some ⟨w.heap.size + 1, 0, none⟩)) true 0).run Tryz.prog W = .ok (.tuple #[.bool true, .int .i64 0, .int .i32 114]) (setIter W (w.heap.size + 1) rwx 1)) := hide (fun W hW => run_next_at (P := Tryz.prog) W (w.heap.size + 1) rwx 0 0 hW.2.1 (by decide) (by decide))
  have HN1 : Hid (∀ W, WdS w 1 1 W → (Instr.next (.pointer (some ⟨w.heap.size + 1, 0, none⟩)) true 0).run Tryz.prog W = .ok (.tuple #[.bool true, .int .i64 1, .int .i32 119]) (setIter W (w.heap.size + 1) rwx 2)) := hide (fun W hW => run_next_at (P := Tryz.prog) W (w.heap.size + 1) rwx 1 0 hW.2.1 (by decide) (by decide))
  have HN2 : Hid (∀ W, WdS w 1 2 W → (Instr.next (.pointer (some ⟨w.heap.size + 1, 0, none⟩)) true 0).run Tryz.prog W = .ok (.tuple #[.bool true, .int .i64 2, .int .i32 120]) (setIter W (w.heap.size + 1) rwx 3)) := hide (fun W hW => run_next_at (P := Tryz.prog) W (w.heap.size + 1) rwx 2 0 hW.2.1 (by decide) (by decide))
  have HNE := hide (fun W (hW : WdS w 1 3 W) => run_next_over (P := Tryz.prog) W (w.heap.size + 1) rwx 3 0 hW.2.1 (by decide))
  have HW0 : Hid (∀ l W, Bld w.heap.size w.heap.size l W → l.length ≤ 1000000 → w.heap.size ≤ W.heap.size → Calls Tryz.prog 184 #[.pointer (some ⟨w.heap.size, 0, none⟩), .int .i32 114] W fun e w' => (∃ v, e = .returned v) ∧ (Bld w.heap.size w.heap.size (l ++ [114]) w' ∧ Below w.heap.size W w' ∧ Oth w.heap.size W w')) := hide (fun l W h1 h2 h3 => by
    have h := BWriteRune_calls w.heap.size w.heap.size l 114 (by decide) W h1 h2 h3
    rw [show (((114 : UInt8).toNat : Nat) : Int) = 114 from rfl] at h
    exact h)
  go_enter Tryz.func122, Tryz.ntmps122
  go_wp2
  go_loopw [9] (fun v wr => ∃ k : Nat, k ≤ 3 ∧ Hid (WdS w 1 k wr)) (fun v wr => 3 - wr.iterPos (w.heap.size + 1))
  case atStart => exact ⟨0, by omega, HS0⟩
  case round =>
    obtain ⟨k, hk, hrel⟩ := hrel
    have : k = 0 ∨ k = 1 ∨ k = 2 ∨ k = 3 := by omega
    rcases this with rfl | rfl | rfl | rfl
    · have hn := HN0.out wr hrel.out
      have HP := hide hrel.out.pos
      have HX := hide hrel.out.next
      go_wp2_with (go_at_call 184; refine (HW0.out _ _ HX.out.1 (by decide) HX.out.2.2.size).mono ?_; rintro e w2 ⟨⟨v, rfl⟩, hb, h2, ho⟩; have HR := hide (WdS.wrote (r := 1) (k := 0) (c := 114) HX.out.2 hb (by decide) h2 ho); clear hb h2 ho)
      go_roundw
      case rel => exact ⟨1, by omega, HR⟩
      case measure => rw [HP.out]; have := HR.out.pos; omega
    · have hn := HN1.out wr hrel.out
      have HP := hide hrel.out.pos
      have HR : Hid (WdS w 1 2 (setIter wr (w.heap.size + 1) rwx 2)) := hide (WdS.skip (k := 1) hrel.out (by decide))
      go_wp2
      go_roundw
      case rel => exact ⟨2, by omega, HR⟩
      case measure => rw [HP.out]; have := HR.out.pos; omega
    · have hn := HN2.out wr hrel.out
      have HP := hide hrel.out.pos
      have HR : Hid (WdS w 1 3 (setIter wr (w.heap.size + 1) rwx 3)) := hide (WdS.skip (k := 2) hrel.out (by decide))
      go_wp2
      go_roundw
      case rel => exact ⟨3, by omega, HR⟩
      case measure => rw [HP.out]; have := HR.out.pos; omega
    · have hn := HNE.out wr hrel.out
      have HL := hide (BLen_calls w.heap.size w.heap.size _ wr hrel.out.1)
      have HS := hide (Tryz.Builder_String_any w.heap.size w.heap.size _ wr hrel.out.1 hrel.out.2.2.size)
      have HB := hide hrel.out.2.2
      clear hrel
      have e3 : (letsTo 1 3).length = 1 := by decide
      rw [e3] at HL
      go_wp2_with (first
        | (go_at_call 185; refine HL.out.mono ?_; rintro e w2 ⟨rfl, rfl⟩)
        | (go_at_call 52; refine HS.out.mono ?_; rintro e w2 ⟨rfl, hb⟩; have HB2 := hide (HB.out.trans hb); clear hb))
      go_ret
      exact ⟨ret_s (by decide +kernel), HB2.out⟩
set_option maxRecDepth 100000 in
set_option maxHeartbeats 16000000 in
theorem Word_at2 (w : World) :
    Calls Tryz.prog 122 #[.int .u8 2] w fun e w' => e = .returned (.string (ofL (rightsW 2))) ∧ Below w.heap.size w w' := by
  have HS0 := hide (WdS.start w 2)
  have HN0 : Hid (∀ W, WdS w 2 0 W → (Instr.next (.pointer (some ⟨w.heap.size + 1, 0, none⟩)) true 0).run Tryz.prog W = .ok (.tuple #[.bool true, .int .i64 0, .int .i32 114]) (setIter W (w.heap.size + 1) rwx 1)) := hide (fun W hW => run_next_at (P := Tryz.prog) W (w.heap.size + 1) rwx 0 0 hW.2.1 (by decide) (by decide))
  have HN1 : Hid (∀ W, WdS w 2 1 W → (Instr.next (.pointer (some ⟨w.heap.size + 1, 0, none⟩)) true 0).run Tryz.prog W = .ok (.tuple #[.bool true, .int .i64 1, .int .i32 119]) (setIter W (w.heap.size + 1) rwx 2)) := hide (fun W hW => run_next_at (P := Tryz.prog) W (w.heap.size + 1) rwx 1 0 hW.2.1 (by decide) (by decide))
  have HN2 : Hid (∀ W, WdS w 2 2 W → (Instr.next (.pointer (some ⟨w.heap.size + 1, 0, none⟩)) true 0).run Tryz.prog W = .ok (.tuple #[.bool true, .int .i64 2, .int .i32 120]) (setIter W (w.heap.size + 1) rwx 3)) := hide (fun W hW => run_next_at (P := Tryz.prog) W (w.heap.size + 1) rwx 2 0 hW.2.1 (by decide) (by decide))
  have HNE := hide (fun W (hW : WdS w 2 3 W) => run_next_over (P := Tryz.prog) W (w.heap.size + 1) rwx 3 0 hW.2.1 (by decide))
  have HW1 : Hid (∀ l W, Bld w.heap.size w.heap.size l W → l.length ≤ 1000000 → w.heap.size ≤ W.heap.size → Calls Tryz.prog 184 #[.pointer (some ⟨w.heap.size, 0, none⟩), .int .i32 119] W fun e w' => (∃ v, e = .returned v) ∧ (Bld w.heap.size w.heap.size (l ++ [119]) w' ∧ Below w.heap.size W w' ∧ Oth w.heap.size W w')) := hide (fun l W h1 h2 h3 => by
    have h := BWriteRune_calls w.heap.size w.heap.size l 119 (by decide) W h1 h2 h3
    rw [show (((119 : UInt8).toNat : Nat) : Int) = 119 from rfl] at h
    exact h)
  go_enter Tryz.func122, Tryz.ntmps122
  go_wp2
  go_loopw [9] (fun v wr => ∃ k : Nat, k ≤ 3 ∧ Hid (WdS w 2 k wr)) (fun v wr => 3 - wr.iterPos (w.heap.size + 1))
  case atStart => exact ⟨0, by omega, HS0⟩
  case round =>
    obtain ⟨k, hk, hrel⟩ := hrel
    have : k = 0 ∨ k = 1 ∨ k = 2 ∨ k = 3 := by omega
    rcases this with rfl | rfl | rfl | rfl
    · have hn := HN0.out wr hrel.out
      have HP := hide hrel.out.pos
      have HR : Hid (WdS w 2 1 (setIter wr (w.heap.size + 1) rwx 1)) := hide (WdS.skip (k := 0) hrel.out (by decide))
      go_wp2
      go_roundw
      case rel => exact ⟨1, by omega, HR⟩
      case measure => rw [HP.out]; have := HR.out.pos; omega
    · have hn := HN1.out wr hrel.out
      have HP := hide hrel.out.pos
      have HX := hide hrel.out.next
      go_wp2_with (go_at_call 184; refine (HW1.out _ _ HX.out.1 (by decide) HX.out.2.2.size).mono ?_; rintro e w2 ⟨⟨v, rfl⟩, hb, h2, ho⟩; have HR := hide (WdS.wrote (r := 2) (k := 1) (c := 119) HX.out.2 hb (by decide) h2 ho); clear hb h2 ho)
      go_roundw
      case rel => exact ⟨2, by omega, HR⟩
      case measure => rw [HP.out]; have := HR.out.pos; omega
    · have hn := HN2.out wr hrel.out
      have HP := hide hrel.out.pos
      have HR : Hid (WdS w 2 3 (setIter wr (w.heap.size + 1) rwx 3)) := hide (WdS.skip (k := 2) hrel.out (by decide))
      go_wp2
      go_roundw
      case rel => exact ⟨3, by omega, HR⟩
      case measure => rw [HP.out]; have := HR.out.pos; omega
    · have hn := HNE.out wr hrel.out
      have HL := hide (BLen_calls w.heap.size w.heap.size _ wr hrel.out.1)
      have HS := hide (Tryz.Builder_String_any w.heap.size w.heap.size _ wr hrel.out.1 hrel.out.2.2.size)
      have HB := hide hrel.out.2.2
      clear hrel
      have e3 : (letsTo 2 3).length = 1 := by decide
      rw [e3] at HL
      go_wp2_with (first
        | (go_at_call 185; refine HL.out.mono ?_; rintro e w2 ⟨rfl, rfl⟩)
        | (go_at_call 52; refine HS.out.mono ?_; rintro e w2 ⟨rfl, hb⟩; have HB2 := hide (HB.out.trans hb); clear hb))
      go_ret
      exact ⟨ret_s (by decide +kernel), HB2.out⟩
set_option maxRecDepth 100000 in
set_option maxHeartbeats 16000000 in
theorem Word_at3 (w : World) :
    Calls Tryz.prog 122 #[.int .u8 3] w fun e w' => e = .returned (.string (ofL (rightsW 3))) ∧ Below w.heap.size w w' := by
  have HS0 := hide (WdS.start w 3)
  have HN0 : Hid (∀ W, WdS w 3 0 W → (Instr.next (.pointer (some ⟨w.heap.size + 1, 0, none⟩)) true 0).run Tryz.prog W = .ok (.tuple #[.bool true, .int .i64 0, .int .i32 114]) (setIter W (w.heap.size + 1) rwx 1)) := hide (fun W hW => run_next_at (P := Tryz.prog) W (w.heap.size + 1) rwx 0 0 hW.2.1 (by decide) (by decide))
  have HN1 : Hid (∀ W, WdS w 3 1 W → (Instr.next (.pointer (some ⟨w.heap.size + 1, 0, none⟩)) true 0).run Tryz.prog W = .ok (.tuple #[.bool true, .int .i64 1, .int .i32 119]) (setIter W (w.heap.size + 1) rwx 2)) := hide (fun W hW => run_next_at (P := Tryz.prog) W (w.heap.size + 1) rwx 1 0 hW.2.1 (by decide) (by decide))
  have HN2 : Hid (∀ W, WdS w 3 2 W → (Instr.next (.pointer (some ⟨w.heap.size + 1, 0, none⟩)) true 0).run Tryz.prog W = .ok (.tuple #[.bool true, .int .i64 2, .int .i32 120]) (setIter W (w.heap.size + 1) rwx 3)) := hide (fun W hW => run_next_at (P := Tryz.prog) W (w.heap.size + 1) rwx 2 0 hW.2.1 (by decide) (by decide))
  have HNE := hide (fun W (hW : WdS w 3 3 W) => run_next_over (P := Tryz.prog) W (w.heap.size + 1) rwx 3 0 hW.2.1 (by decide))
  have HW0 : Hid (∀ l W, Bld w.heap.size w.heap.size l W → l.length ≤ 1000000 → w.heap.size ≤ W.heap.size → Calls Tryz.prog 184 #[.pointer (some ⟨w.heap.size, 0, none⟩), .int .i32 114] W fun e w' => (∃ v, e = .returned v) ∧ (Bld w.heap.size w.heap.size (l ++ [114]) w' ∧ Below w.heap.size W w' ∧ Oth w.heap.size W w')) := hide (fun l W h1 h2 h3 => by
    have h := BWriteRune_calls w.heap.size w.heap.size l 114 (by decide) W h1 h2 h3
    rw [show (((114 : UInt8).toNat : Nat) : Int) = 114 from rfl] at h
    exact h)
  have HW1 : Hid (∀ l W, Bld w.heap.size w.heap.size l W → l.length ≤ 1000000 → w.heap.size ≤ W.heap.size → Calls Tryz.prog 184 #[.pointer (some ⟨w.heap.size, 0, none⟩), .int .i32 119] W fun e w' => (∃ v, e = .returned v) ∧ (Bld w.heap.size w.heap.size (l ++ [119]) w' ∧ Below w.heap.size W w' ∧ Oth w.heap.size W w')) := hide (fun l W h1 h2 h3 => by
    have h := BWriteRune_calls w.heap.size w.heap.size l 119 (by decide) W h1 h2 h3
    rw [show (((119 : UInt8).toNat : Nat) : Int) = 119 from rfl] at h
    exact h)
  go_enter Tryz.func122, Tryz.ntmps122
  go_wp2
  go_loopw [9] (fun v wr => ∃ k : Nat, k ≤ 3 ∧ Hid (WdS w 3 k wr)) (fun v wr => 3 - wr.iterPos (w.heap.size + 1))
  case atStart => exact ⟨0, by omega, HS0⟩
  case round =>
    obtain ⟨k, hk, hrel⟩ := hrel
    have : k = 0 ∨ k = 1 ∨ k = 2 ∨ k = 3 := by omega
    rcases this with rfl | rfl | rfl | rfl
    · have hn := HN0.out wr hrel.out
      have HP := hide hrel.out.pos
      have HX := hide hrel.out.next
      go_wp2_with (go_at_call 184; refine (HW0.out _ _ HX.out.1 (by decide) HX.out.2.2.size).mono ?_; rintro e w2 ⟨⟨v, rfl⟩, hb, h2, ho⟩; have HR := hide (WdS.wrote (r := 3) (k := 0) (c := 114) HX.out.2 hb (by decide) h2 ho); clear hb h2 ho)
      go_roundw
      case rel => exact ⟨1, by omega, HR⟩
      case measure => rw [HP.out]; have := HR.out.pos; omega
    · have hn := HN1.out wr hrel.out
      have HP := hide hrel.out.pos
      have HX := hide hrel.out.next
      go_wp2_with (go_at_call 184; refine (HW1.out _ _ HX.out.1 (by decide) HX.out.2.2.size).mono ?_; rintro e w2 ⟨⟨v, rfl⟩, hb, h2, ho⟩; have HR := hide (WdS.wrote (r := 3) (k := 1) (c := 119) HX.out.2 hb (by decide) h2 ho); clear hb h2 ho)
      go_roundw
      case rel => exact ⟨2, by omega, HR⟩
      case measure => rw [HP.out]; have := HR.out.pos; omega
    · have hn := HN2.out wr hrel.out
      have HP := hide hrel.out.pos
      have HR : Hid (WdS w 3 3 (setIter wr (w.heap.size + 1) rwx 3)) := hide (WdS.skip (k := 2) hrel.out (by decide))
      go_wp2
      go_roundw
      case rel => exact ⟨3, by omega, HR⟩
      case measure => rw [HP.out]; have := HR.out.pos; omega
    · have hn := HNE.out wr hrel.out
      have HL := hide (BLen_calls w.heap.size w.heap.size _ wr hrel.out.1)
      have HS := hide (Tryz.Builder_String_any w.heap.size w.heap.size _ wr hrel.out.1 hrel.out.2.2.size)
      have HB := hide hrel.out.2.2
      clear hrel
      have e3 : (letsTo 3 3).length = 2 := by decide
      rw [e3] at HL
      go_wp2_with (first
        | (go_at_call 185; refine HL.out.mono ?_; rintro e w2 ⟨rfl, rfl⟩)
        | (go_at_call 52; refine HS.out.mono ?_; rintro e w2 ⟨rfl, hb⟩; have HB2 := hide (HB.out.trans hb); clear hb))
      go_ret
      exact ⟨ret_s (by decide +kernel), HB2.out⟩
set_option maxRecDepth 100000 in
set_option maxHeartbeats 16000000 in
theorem Word_at4 (w : World) :
    Calls Tryz.prog 122 #[.int .u8 4] w fun e w' => e = .returned (.string (ofL (rightsW 4))) ∧ Below w.heap.size w w' := by
  have HS0 := hide (WdS.start w 4)
  have HN0 : Hid (∀ W, WdS w 4 0 W → (Instr.next (.pointer (some ⟨w.heap.size + 1, 0, none⟩)) true 0).run Tryz.prog W = .ok (.tuple #[.bool true, .int .i64 0, .int .i32 114]) (setIter W (w.heap.size + 1) rwx 1)) := hide (fun W hW => run_next_at (P := Tryz.prog) W (w.heap.size + 1) rwx 0 0 hW.2.1 (by decide) (by decide))
  have HN1 : Hid (∀ W, WdS w 4 1 W → (Instr.next (.pointer (some ⟨w.heap.size + 1, 0, none⟩)) true 0).run Tryz.prog W = .ok (.tuple #[.bool true, .int .i64 1, .int .i32 119]) (setIter W (w.heap.size + 1) rwx 2)) := hide (fun W hW => run_next_at (P := Tryz.prog) W (w.heap.size + 1) rwx 1 0 hW.2.1 (by decide) (by decide))
  have HN2 : Hid (∀ W, WdS w 4 2 W → (Instr.next (.pointer (some ⟨w.heap.size + 1, 0, none⟩)) true 0).run Tryz.prog W = .ok (.tuple #[.bool true, .int .i64 2, .int .i32 120]) (setIter W (w.heap.size + 1) rwx 3)) := hide (fun W hW => run_next_at (P := Tryz.prog) W (w.heap.size + 1) rwx 2 0 hW.2.1 (by decide) (by decide))
  have HNE := hide (fun W (hW : WdS w 4 3 W) => run_next_over (P := Tryz.prog) W (w.heap.size + 1) rwx 3 0 hW.2.1 (by decide))
  have HW2 : Hid (∀ l W, Bld w.heap.size w.heap.size l W → l.length ≤ 1000000 → w.heap.size ≤ W.heap.size → Calls Tryz.prog 184 #[.pointer (some ⟨w.heap.size, 0, none⟩), .int .i32 120] W fun e w' => (∃ v, e = .returned v) ∧ (Bld w.heap.size w.heap.size (l ++ [120]) w' ∧ Below w.heap.size W w' ∧ Oth w.heap.size W w')) := hide (fun l W h1 h2 h3 => by
    have h := BWriteRune_calls w.heap.size w.heap.size l 120 (by decide) W h1 h2 h3
    rw [show (((120 : UInt8).toNat : Nat) : Int) = 120 from rfl] at h
    exact h)
  go_enter Tryz.func122, Tryz.ntmps122
  go_wp2
  go_loopw [9] (fun v wr => ∃ k : Nat, k ≤ 3 ∧ Hid (WdS w 4 k wr)) (fun v wr => 3 - wr.iterPos (w.heap.size + 1))
  case atStart => exact ⟨0, by omega, HS0⟩
  case round =>
    obtain ⟨k, hk, hrel⟩ := hrel
    have : k = 0 ∨ k = 1 ∨ k = 2 ∨ k = 3 := by omega
    rcases this with rfl | rfl | rfl | rfl
    · have hn := HN0.out wr hrel.out
      have HP := hide hrel.out.pos
      have HR : Hid (WdS w 4 1 (setIter wr (w.heap.size + 1) rwx 1)) := hide (WdS.skip (k := 0) hrel.out (by decide))
      go_wp2
      go_roundw
      case rel => exact ⟨1, by omega, HR⟩
      case measure => rw [HP.out]; have := HR.out.pos; omega
    · have hn := HN1.out wr hrel.out
      have HP := hide hrel.out.pos
      have HR : Hid (WdS w 4 2 (setIter wr (w.heap.size + 1) rwx 2)) := hide (WdS.skip (k := 1) hrel.out (by decide))
      go_wp2
      go_roundw
      case rel => exact ⟨2, by omega, HR⟩
      case measure => rw [HP.out]; have := HR.out.pos; omega
    · have hn := HN2.out wr hrel.out
      have HP := hide hrel.out.pos
      have HX := hide hrel.out.next
      go_wp2_with (go_at_call 184; refine (HW2.out _ _ HX.out.1 (by decide) HX.out.2.2.size).mono ?_; rintro e w2 ⟨⟨v, rfl⟩, hb, h2, ho⟩; have HR := hide (WdS.wrote (r := 4) (k := 2) (c := 120) HX.out.2 hb (by decide) h2 ho); clear hb h2 ho)
      go_roundw
      case rel => exact ⟨3, by omega, HR⟩
      case measure => rw [HP.out]; have := HR.out.pos; omega
    · have hn := HNE.out wr hrel.out
      have HL := hide (BLen_calls w.heap.size w.heap.size _ wr hrel.out.1)
      have HS := hide (Tryz.Builder_String_any w.heap.size w.heap.size _ wr hrel.out.1 hrel.out.2.2.size)
      have HB := hide hrel.out.2.2
      clear hrel
      have e3 : (letsTo 4 3).length = 1 := by decide
      rw [e3] at HL
      go_wp2_with (first
        | (go_at_call 185; refine HL.out.mono ?_; rintro e w2 ⟨rfl, rfl⟩)
        | (go_at_call 52; refine HS.out.mono ?_; rintro e w2 ⟨rfl, hb⟩; have HB2 := hide (HB.out.trans hb); clear hb))
      go_ret
      exact ⟨ret_s (by decide +kernel), HB2.out⟩
set_option maxRecDepth 100000 in
set_option maxHeartbeats 16000000 in
theorem Word_at5 (w : World) :
    Calls Tryz.prog 122 #[.int .u8 5] w fun e w' => e = .returned (.string (ofL (rightsW 5))) ∧ Below w.heap.size w w' := by
  have HS0 := hide (WdS.start w 5)
  have HN0 : Hid (∀ W, WdS w 5 0 W → (Instr.next (.pointer (some ⟨w.heap.size + 1, 0, none⟩)) true 0).run Tryz.prog W = .ok (.tuple #[.bool true, .int .i64 0, .int .i32 114]) (setIter W (w.heap.size + 1) rwx 1)) := hide (fun W hW => run_next_at (P := Tryz.prog) W (w.heap.size + 1) rwx 0 0 hW.2.1 (by decide) (by decide))
  have HN1 : Hid (∀ W, WdS w 5 1 W → (Instr.next (.pointer (some ⟨w.heap.size + 1, 0, none⟩)) true 0).run Tryz.prog W = .ok (.tuple #[.bool true, .int .i64 1, .int .i32 119]) (setIter W (w.heap.size + 1) rwx 2)) := hide (fun W hW => run_next_at (P := Tryz.prog) W (w.heap.size + 1) rwx 1 0 hW.2.1 (by decide) (by decide))
  have HN2 : Hid (∀ W, WdS w 5 2 W → (Instr.next (.pointer (some ⟨w.heap.size + 1, 0, none⟩)) true 0).run Tryz.prog W = .ok (.tuple #[.bool true, .int .i64 2, .int .i32 120]) (setIter W (w.heap.size + 1) rwx 3)) := hide (fun W hW => run_next_at (P := Tryz.prog) W (w.heap.size + 1) rwx 2 0 hW.2.1 (by decide) (by decide))
  have HNE := hide (fun W (hW : WdS w 5 3 W) => run_next_over (P := Tryz.prog) W (w.heap.size + 1) rwx 3 0 hW.2.1 (by decide))
  have HW0 : Hid (∀ l W, Bld w.heap.size w.heap.size l W → l.length ≤ 1000000 → w.heap.size ≤ W.heap.size → Calls Tryz.prog 184 #[.pointer (some ⟨w.heap.size, 0, none⟩), .int .i32 114] W fun e w' => (∃ v, e = .returned v) ∧ (Bld w.heap.size w.heap.size (l ++ [114]) w' ∧ Below w.heap.size W w' ∧ Oth w.heap.size W w')) := hide (fun l W h1 h2 h3 => by
    have h := BWriteRune_calls w.heap.size w.heap.size l 114 (by decide) W h1 h2 h3
    rw [show (((114 : UInt8).toNat : Nat) : Int) = 114 from rfl] at h
    exact h)
  have HW2 : Hid (∀ l W, Bld w.heap.size w.heap.size l W → l.length ≤ 1000000 → w.heap.size ≤ W.heap.size → Calls Tryz.prog 184 #[.pointer (some ⟨w.heap.size, 0, none⟩), .int .i32 120] W fun e w' => (∃ v, e = .returned v) ∧ (Bld w.heap.size w.heap.size (l ++ [120]) w' ∧ Below w.heap.size W w' ∧ Oth w.heap.size W w')) := hide (fun l W h1 h2 h3 => by
    have h := BWriteRune_calls w.heap.size w.heap.size l 120 (by decide) W h1 h2 h3
    rw [show (((120 : UInt8).toNat : Nat) : Int) = 120 from rfl] at h
    exact h)
  go_enter Tryz.func122, Tryz.ntmps122
  go_wp2
  go_loopw [9] (fun v wr => ∃ k : Nat, k ≤ 3 ∧ Hid (WdS w 5 k wr)) (fun v wr => 3 - wr.iterPos (w.heap.size + 1))
  case atStart => exact ⟨0, by omega, HS0⟩
  case round =>
    obtain ⟨k, hk, hrel⟩ := hrel
    have : k = 0 ∨ k = 1 ∨ k = 2 ∨ k = 3 := by omega
    rcases this with rfl | rfl | rfl | rfl
    · have hn := HN0.out wr hrel.out
      have HP := hide hrel.out.pos
      have HX := hide hrel.out.next
      go_wp2_with (go_at_call 184; refine (HW0.out _ _ HX.out.1 (by decide) HX.out.2.2.size).mono ?_; rintro e w2 ⟨⟨v, rfl⟩, hb, h2, ho⟩; have HR := hide (WdS.wrote (r := 5) (k := 0) (c := 114) HX.out.2 hb (by decide) h2 ho); clear hb h2 ho)
      go_roundw
      case rel => exact ⟨1, by omega, HR⟩
      case measure => rw [HP.out]; have := HR.out.pos; omega
    · have hn := HN1.out wr hrel.out
      have HP := hide hrel.out.pos
      have HR : Hid (WdS w 5 2 (setIter wr (w.heap.size + 1) rwx 2)) := hide (WdS.skip (k := 1) hrel.out (by decide))
      go_wp2
      go_roundw
      case rel => exact ⟨2, by omega, HR⟩
      case measure => rw [HP.out]; have := HR.out.pos; omega
    · have hn := HN2.out wr hrel.out
      have HP := hide hrel.out.pos
      have HX := hide hrel.out.next
      go_wp2_with (go_at_call 184; refine (HW2.out _ _ HX.out.1 (by decide) HX.out.2.2.size).mono ?_; rintro e w2 ⟨⟨v, rfl⟩, hb, h2, ho⟩; have HR := hide (WdS.wrote (r := 5) (k := 2) (c := 120) HX.out.2 hb (by decide) h2 ho); clear hb h2 ho)
      go_roundw
      case rel => exact ⟨3, by omega, HR⟩
      case measure => rw [HP.out]; have := HR.out.pos; omega
    · have hn := HNE.out wr hrel.out
      have HL := hide (BLen_calls w.heap.size w.heap.size _ wr hrel.out.1)
      have HS := hide (Tryz.Builder_String_any w.heap.size w.heap.size _ wr hrel.out.1 hrel.out.2.2.size)
      have HB := hide hrel.out.2.2
      clear hrel
      have e3 : (letsTo 5 3).length = 2 := by decide
      rw [e3] at HL
      go_wp2_with (first
        | (go_at_call 185; refine HL.out.mono ?_; rintro e w2 ⟨rfl, rfl⟩)
        | (go_at_call 52; refine HS.out.mono ?_; rintro e w2 ⟨rfl, hb⟩; have HB2 := hide (HB.out.trans hb); clear hb))
      go_ret
      exact ⟨ret_s (by decide +kernel), HB2.out⟩
set_option maxRecDepth 100000 in
set_option maxHeartbeats 16000000 in
theorem Word_at6 (w : World) :
    Calls Tryz.prog 122 #[.int .u8 6] w fun e w' => e = .returned (.string (ofL (rightsW 6))) ∧ Below w.heap.size w w' := by
  have HS0 := hide (WdS.start w 6)
  have HN0 : Hid (∀ W, WdS w 6 0 W → (Instr.next (.pointer (some ⟨w.heap.size + 1, 0, none⟩)) true 0).run Tryz.prog W = .ok (.tuple #[.bool true, .int .i64 0, .int .i32 114]) (setIter W (w.heap.size + 1) rwx 1)) := hide (fun W hW => run_next_at (P := Tryz.prog) W (w.heap.size + 1) rwx 0 0 hW.2.1 (by decide) (by decide))
  have HN1 : Hid (∀ W, WdS w 6 1 W → (Instr.next (.pointer (some ⟨w.heap.size + 1, 0, none⟩)) true 0).run Tryz.prog W = .ok (.tuple #[.bool true, .int .i64 1, .int .i32 119]) (setIter W (w.heap.size + 1) rwx 2)) := hide (fun W hW => run_next_at (P := Tryz.prog) W (w.heap.size + 1) rwx 1 0 hW.2.1 (by decide) (by decide))
  have HN2 : Hid (∀ W, WdS w 6 2 W → (Instr.next (.pointer (some ⟨w.heap.size + 1, 0, none⟩)) true 0).run Tryz.prog W = .ok (.tuple #[.bool true, .int .i64 2, .int .i32 120]) (setIter W (w.heap.size + 1) rwx 3)) := hide (fun W hW => run_next_at (P := Tryz.prog) W (w.heap.size + 1) rwx 2 0 hW.2.1 (by decide) (by decide))
  have HNE := hide (fun W (hW : WdS w 6 3 W) => run_next_over (P := Tryz.prog) W (w.heap.size + 1) rwx 3 0 hW.2.1 (by decide))
  have HW1 : Hid (∀ l W, Bld w.heap.size w.heap.size l W → l.length ≤ 1000000 → w.heap.size ≤ W.heap.size → Calls Tryz.prog 184 #[.pointer (some ⟨w.heap.size, 0, none⟩), .int .i32 119] W fun e w' => (∃ v, e = .returned v) ∧ (Bld w.heap.size w.heap.size (l ++ [119]) w' ∧ Below w.heap.size W w' ∧ Oth w.heap.size W w')) := hide (fun l W h1 h2 h3 => by
    have h := BWriteRune_calls w.heap.size w.heap.size l 119 (by decide) W h1 h2 h3
    rw [show (((119 : UInt8).toNat : Nat) : Int) = 119 from rfl] at h
    exact h)
  have HW2 : Hid (∀ l W, Bld w.heap.size w.heap.size l W → l.length ≤ 1000000 → w.heap.size ≤ W.heap.size → Calls Tryz.prog 184 #[.pointer (some ⟨w.heap.size, 0, none⟩), .int .i32 120] W fun e w' => (∃ v, e = .returned v) ∧ (Bld w.heap.size w.heap.size (l ++ [120]) w' ∧ Below w.heap.size W w' ∧ Oth w.heap.size W w')) := hide (fun l W h1 h2 h3 => by
    have h := BWriteRune_calls w.heap.size w.heap.size l 120 (by decide) W h1 h2 h3
    rw [show (((120 : UInt8).toNat : Nat) : Int) = 120 from rfl] at h
    exact h)
  go_enter Tryz.func122, Tryz.ntmps122
  go_wp2
  go_loopw [9] (fun v wr => ∃ k : Nat, k ≤ 3 ∧ Hid (WdS w 6 k wr)) (fun v wr => 3 - wr.iterPos (w.heap.size + 1))
  case atStart => exact ⟨0, by omega, HS0⟩
  case round =>
    obtain ⟨k, hk, hrel⟩ := hrel
    have : k = 0 ∨ k = 1 ∨ k = 2 ∨ k = 3 := by omega
    rcases this with rfl | rfl | rfl | rfl
    · have hn := HN0.out wr hrel.out
      have HP := hide hrel.out.pos
      have HR : Hid (WdS w 6 1 (setIter wr (w.heap.size + 1) rwx 1)) := hide (WdS.skip (k := 0) hrel.out (by decide))
      go_wp2
      go_roundw
      case rel => exact ⟨1, by omega, HR⟩
      case measure => rw [HP.out]; have := HR.out.pos; omega
    · have hn := HN1.out wr hrel.out
      have HP := hide hrel.out.pos
      have HX := hide hrel.out.next
      go_wp2_with (go_at_call 184; refine (HW1.out _ _ HX.out.1 (by decide) HX.out.2.2.size).mono ?_; rintro e w2 ⟨⟨v, rfl⟩, hb, h2, ho⟩; have HR := hide (WdS.wrote (r := 6) (k := 1) (c := 119) HX.out.2 hb (by decide) h2 ho); clear hb h2 ho)
      go_roundw
      case rel => exact ⟨2, by omega, HR⟩
      case measure => rw [HP.out]; have := HR.out.pos; omega
    · have hn := HN2.out wr hrel.out
      have HP := hide hrel.out.pos
      have HX := hide hrel.out.next
      go_wp2_with (go_at_call 184; refine (HW2.out _ _ HX.out.1 (by decide) HX.out.2.2.size).mono ?_; rintro e w2 ⟨⟨v, rfl⟩, hb, h2, ho⟩; have HR := hide (WdS.wrote (r := 6) (k := 2) (c := 120) HX.out.2 hb (by decide) h2 ho); clear hb h2 ho)
      go_roundw
      case rel => exact ⟨3, by omega, HR⟩
      case measure => rw [HP.out]; have := HR.out.pos; omega
    · have hn := HNE.out wr hrel.out
      have HL := hide (BLen_calls w.heap.size w.heap.size _ wr hrel.out.1)
      have HS := hide (Tryz.Builder_String_any w.heap.size w.heap.size _ wr hrel.out.1 hrel.out.2.2.size)
      have HB := hide hrel.out.2.2
      clear hrel
      have e3 : (letsTo 6 3).length = 2 := by decide
      rw [e3] at HL
      go_wp2_with (first
        | (go_at_call 185; refine HL.out.mono ?_; rintro e w2 ⟨rfl, rfl⟩)
        | (go_at_call 52; refine HS.out.mono ?_; rintro e w2 ⟨rfl, hb⟩; have HB2 := hide (HB.out.trans hb); clear hb))
      go_ret
      exact ⟨ret_s (by decide +kernel), HB2.out⟩
set_option maxRecDepth 100000 in
set_option maxHeartbeats 16000000 in
theorem Word_at7 (w : World) :
    Calls Tryz.prog 122 #[.int .u8 7] w fun e w' => e = .returned (.string (ofL (rightsW 7))) ∧ Below w.heap.size w w' := by
  have HS0 := hide (WdS.start w 7)
  have HN0 : Hid (∀ W, WdS w 7 0 W → (Instr.next (.pointer (some ⟨w.heap.size + 1, 0, none⟩)) true 0).run Tryz.prog W = .ok (.tuple #[.bool true, .int .i64 0, .int .i32 114]) (setIter W (w.heap.size + 1) rwx 1)) := hide (fun W hW => run_next_at (P := Tryz.prog) W (w.heap.size + 1) rwx 0 0 hW.2.1 (by decide) (by decide))
  have HN1 : Hid (∀ W, WdS w 7 1 W → (Instr.next (.pointer (some ⟨w.heap.size + 1, 0, none⟩)) true 0).run Tryz.prog W = .ok (.tuple #[.bool true, .int .i64 1, .int .i32 119]) (setIter W (w.heap.size + 1) rwx 2)) := hide (fun W hW => run_next_at (P := Tryz.prog) W (w.heap.size + 1) rwx 1 0 hW.2.1 (by decide) (by decide))
  have HN2 : Hid (∀ W, WdS w 7 2 W → (Instr.next (.pointer (some ⟨w.heap.size + 1, 0, none⟩)) true 0).run Tryz.prog W = .ok (.tuple #[.bool true, .int .i64 2, .int .i32 120]) (setIter W (w.heap.size + 1) rwx 3)) := hide (fun W hW => run_next_at (P := Tryz.prog) W (w.heap.size + 1) rwx 2 0 hW.2.1 (by decide) (by decide))
  have HNE := hide (fun W (hW : WdS w 7 3 W) => run_next_over (P := Tryz.prog) W (w.heap.size + 1) rwx 3 0 hW.2.1 (by decide))
  have HW0 : Hid (∀ l W, Bld w.heap.size w.heap.size l W → l.length ≤ 1000000 → w.heap.size ≤ W.heap.size → Calls Tryz.prog 184 #[.pointer (some ⟨w.heap.size, 0, none⟩), .int .i32 114] W fun e w' => (∃ v, e = .returned v) ∧ (Bld w.heap.size w.heap.size (l ++ [114]) w' ∧ Below w.heap.size W w' ∧ Oth w.heap.size W w')) := hide (fun l W h1 h2 h3 => by
    have h := BWriteRune_calls w.heap.size w.heap.size l 114 (by decide) W h1 h2 h3
    rw [show (((114 : UInt8).toNat : Nat) : Int) = 114 from rfl] at h
    exact h)
  have HW1 : Hid (∀ l W, Bld w.heap.size w.heap.size l W → l.length ≤ 1000000 → w.heap.size ≤ W.heap.size → Calls Tryz.prog 184 #[.pointer (some ⟨w.heap.size, 0, none⟩), .int .i32 119] W fun e w' => (∃ v, e = .returned v) ∧ (Bld w.heap.size w.heap.size (l ++ [119]) w' ∧ Below w.heap.size W w' ∧ Oth w.heap.size W w')) := hide (fun l W h1 h2 h3 => by
    have h := BWriteRune_calls w.heap.size w.heap.size l 119 (by decide) W h1 h2 h3
    rw [show (((119 : UInt8).toNat : Nat) : Int) = 119 from rfl] at h
    exact h)
  have HW2 : Hid (∀ l W, Bld w.heap.size w.heap.size l W → l.length ≤ 1000000 → w.heap.size ≤ W.heap.size → Calls Tryz.prog 184 #[.pointer (some ⟨w.heap.size, 0, none⟩), .int .i32 120] W fun e w' => (∃ v, e = .returned v) ∧ (Bld w.heap.size w.heap.size (l ++ [120]) w' ∧ Below w.heap.size W w' ∧ Oth w.heap.size W w')) := hide (fun l W h1 h2 h3 => by
    have h := BWriteRune_calls w.heap.size w.heap.size l 120 (by decide) W h1 h2 h3
    rw [show (((120 : UInt8).toNat : Nat) : Int) = 120 from rfl] at h
    exact h)
  go_enter Tryz.func122, Tryz.ntmps122
  go_wp2
  go_loopw [9] (fun v wr => ∃ k : Nat, k ≤ 3 ∧ Hid (WdS w 7 k wr)) (fun v wr => 3 - wr.iterPos (w.heap.size + 1))
  case atStart => exact ⟨0, by omega, HS0⟩
  case round =>
    obtain ⟨k, hk, hrel⟩ := hrel
    have : k = 0 ∨ k = 1 ∨ k = 2 ∨ k = 3 := by omega
    rcases this with rfl | rfl | rfl | rfl
    · have hn := HN0.out wr hrel.out
      have HP := hide hrel.out.pos
      have HX := hide hrel.out.next
      go_wp2_with (go_at_call 184; refine (HW0.out _ _ HX.out.1 (by decide) HX.out.2.2.size).mono ?_; rintro e w2 ⟨⟨v, rfl⟩, hb, h2, ho⟩; have HR := hide (WdS.wrote (r := 7) (k := 0) (c := 114) HX.out.2 hb (by decide) h2 ho); clear hb h2 ho)
      go_roundw
      case rel => exact ⟨1, by omega, HR⟩
      case measure => rw [HP.out]; have := HR.out.pos; omega
    · have hn := HN1.out wr hrel.out
      have HP := hide hrel.out.pos
      have HX := hide hrel.out.next
      go_wp2_with (go_at_call 184; refine (HW1.out _ _ HX.out.1 (by decide) HX.out.2.2.size).mono ?_; rintro e w2 ⟨⟨v, rfl⟩, hb, h2, ho⟩; have HR := hide (WdS.wrote (r := 7) (k := 1) (c := 119) HX.out.2 hb (by decide) h2 ho); clear hb h2 ho)
      go_roundw
      case rel => exact ⟨2, by omega, HR⟩
      case measure => rw [HP.out]; have := HR.out.pos; omega
    · have hn := HN2.out wr hrel.out
      have HP := hide hrel.out.pos
      have HX := hide hrel.out.next
      go_wp2_with (go_at_call 184; refine (HW2.out _ _ HX.out.1 (by decide) HX.out.2.2.size).mono ?_; rintro e w2 ⟨⟨v, rfl⟩, hb, h2, ho⟩; have HR := hide (WdS.wrote (r := 7) (k := 2) (c := 120) HX.out.2 hb (by decide) h2 ho); clear hb h2 ho)
      go_roundw
      case rel => exact ⟨3, by omega, HR⟩
      case measure => rw [HP.out]; have := HR.out.pos; omega
    · have hn := HNE.out wr hrel.out
      have HL := hide (BLen_calls w.heap.size w.heap.size _ wr hrel.out.1)
      have HS := hide (Tryz.Builder_String_any w.heap.size w.heap.size _ wr hrel.out.1 hrel.out.2.2.size)
      have HB := hide hrel.out.2.2
      clear hrel
      have e3 : (letsTo 7 3).length = 3 := by decide
      rw [e3] at HL
      go_wp2_with (first
        | (go_at_call 185; refine HL.out.mono ?_; rintro e w2 ⟨rfl, rfl⟩)
        | (go_at_call 52; refine HS.out.mono ?_; rintro e w2 ⟨rfl, hb⟩; have HB2 := hide (HB.out.trans hb); clear hb))
      go_ret
      exact ⟨ret_s (by decide +kernel), HB2.out⟩
theorem Word_calls (r : Nat) (hr : r ≤ 7) (w : World) :
    Calls Tryz.prog 122 #[.int .u8 (r : Int)] w fun e w' => e = .returned (.string (ofL (rightsW r))) ∧ Below w.heap.size w w' := by
  have : r = 0 ∨ r = 1 ∨ r = 2 ∨ r = 3 ∨ r = 4 ∨ r = 5 ∨ r = 6 ∨ r = 7 := by omega
  rcases this with rfl | rfl | rfl | rfl | rfl | rfl | rfl | rfl
  · exact Word_at0 w
  · exact Word_at1 w
  · exact Word_at2 w
  · exact Word_at3 w
  · exact Word_at4 w
  · exact Word_at5 w
  · exact Word_at6 w
  · exact Word_at7 w
end Go.Proofs.YtcnihmlmaigkdaaGreatDoor
namespace Go.Proofs.YtcnihmlmaigkdaaGreatDoor
open Go.RowKit Go.Lib
set_option linter.unusedVariables false

def bytesOf (l : List ByteArray) : List (List UInt8) := l.map (·.data.toList)
theorem textB_take (bf : List UInt8) (l : List (List UInt8)) (k : Nat) (h : k < l.length) : textB bf (l.take (k + 1)) = textB bf (l.take k) ++ (bf ++ l[k] ++ [10]) := by
  unfold textB
  rw [List.take_succ_eq_append_getElem h, List.flatMap_append]
  simp
theorem textB_mono (bf : List UInt8) (l : List (List UInt8)) (k : Nat) : (textB bf (l.take k)).length ≤ (textB bf l).length := by
  unfold textB
  conv => rhs; rw [← List.take_append_drop k l, List.flatMap_append, List.length_append]
  omega
theorem str_cell {w : World} {base n : Nat} {A : Option Addr} {c : Nat} {l : List ByteArray} (h : w.ownsRow base 9 1 (.slice A n c) n (strsV l)) (hl : l.length = n) (i : Nat) (hi : i < l.length) :
    ∃ g, A = some ⟨g, 0, none⟩ ∧ base ≤ g ∧ n ≤ c ∧ g < w.heap.size ∧ w.cell? ⟨g, i, none⟩ = some (.string l[i]) := by
  rcases h.2 with ⟨_, h0⟩ | ⟨g, cap, cur, hv, hb, hg, h1, h2, h3, h4⟩
  · omega
  · injection hv with e1 e2 e3
    have hg' : Blk w g 9 cur := hg
    refine ⟨g, e1, hb, by omega, hg'.lt, ?_⟩
    rw [hg'.cell, ← Array.getElem?_toList]
    have h5 : (strsV l)[i]? = some (.string l[i]) := by simp [strsV, hi]
    rw [← h4, List.getElem?_take] at h5
    split at h5
    · exact h5
    · cases h5
set_option maxRecDepth 100000 in
set_option maxHeartbeats 4000000 in
theorem text_calls (bf : ByteArray) (ls : List ByteArray) (A : Option Addr) (c base : Nat) (w : World) (h : w.ownsRow base 9 1 (.slice A ls.length c) ls.length (strsV ls)) (hl : ls.length ≤ 1000000) (hb : bf.size ≤ 1000000)
    (hT : (textB bf.data.toList (bytesOf ls)).length ≤ 1000000000) (hs : ∀ s ∈ ls, s.size ≤ 1000000000) :
    Calls Tryz.prog 26 #[.string bf, .slice A ls.length c] w fun e w' => e = .returned (.string (ofL (textB bf.data.toList (bytesOf ls)))) ∧ Below w.heap.size w w' := by
  have HH := hide h
  have HS := hide hs
  have HT := hide hT
  obtain ⟨n, hn⟩ : ∃ n, n = ls.length := ⟨_, rfl⟩
  have HN := hide hn
  rw [← hn]
  have hnI : (n : Int) ≤ 1000000 := by omega
  have HB0 := hide (Lib.fresh_isBuilder 99 5 w)
  have hlen : (bytesOf ls).length = n := by rw [hn]; simp [bytesOf]
  have HL := hide hlen
  clear h hs hT hn hlen
  go_enter Tryz.func26, Tryz.ntmps26
  go_wp2
  go_loopw [10] (fun i wr => ∃ k : Nat, k ≤ n ∧ i = .int .i64 (k : Int) ∧ Hid (Lib.IsBuilder 99 5 w.heap.size w.heap.size (Lib.byteCells (textB bf.data.toList ((bytesOf ls).take k))) wr ∧ Below w.heap.size w wr)) (fun i _ => n - (intOf i).toNat)
  case atStart => exact ⟨0, Nat.zero_le _, rfl, HB0.out, (Below.refl _ w).alloc (Nat.le_refl _) _⟩
  case round =>
    obtain ⟨k, hk, rfl, hrel⟩ := hrel
    have hsz := hrel.out.2.size
    by_cases hlt : k < n
    · have hlt2 : (k : Int) < (n : Int) := by omega
      have hkl : k < ls.length := by have := HN.out; omega
      have hkb : k < (bytesOf ls).length := by have := HL.out; omega
      obtain ⟨g, rfl, _, hcn, hgl, hcell⟩ := str_cell HH.out rfl k hkl
      have hcI : (n : Int) ≤ (c : Int) := by have := HN.out; omega
      have x0 : wr.cell? ⟨g, k, none⟩ = some (.string ls[k]) := (hrel.out.2.cell (p := ⟨g, k, none⟩) hgl).trans hcell
      have hsk := HS.out ls[k] (List.getElem_mem _)
      have hte := textB_take bf.data.toList (bytesOf ls) k hkb
      have hbk : (bytesOf ls)[k] = ls[k].data.toList := by simp [bytesOf]
      rw [hbk] at hte
      have htm := textB_mono bf.data.toList (bytesOf ls) (k + 1)
      have htk := textB_mono bf.data.toList (bytesOf ls) k
      have hTT := HT.out
      have hWr := fun W hW (hB : w.heap.size ≤ W.heap.size) => BWriteString_calls w.heap.size w.heap.size (textB bf.data.toList ((bytesOf ls).take k)) (bf ++ ls[k] ++ ⟨#[10]⟩) W hW (by
        rw [ByteArray.size_append, ByteArray.size_append, show (⟨#[10]⟩ : ByteArray).size = 1 from rfl]
        omega) hB
      rw [list_append, list_append] at hWr
      have h10 : (⟨#[10]⟩ : ByteArray).data.toList = [10] := rfl
      rw [h10, ← hte] at hWr
      have HW := hide hWr
      clear hWr hte htm htk hTT h10 hbk hcell
      generalize ls[k] = s at *
      go_wp2_with (go_at_call 51; refine (HW.out _ hrel.out.1 hsz).mono ?_; rintro e w2 ⟨rfl, hb2, hbl⟩; have HR := hide (And.intro hb2 (hrel.out.2.trans hbl)); clear hb2 hbl)
      go_roundw
      case rel => exact ⟨k + 1, by omega, by go_num, HR⟩
      case measure => simp [intOf]; omega
    · obtain rfl : k = n := by omega
      have hfin : (bytesOf ls).take k = bytesOf ls := List.take_of_length_le (by have := HL.out; omega)
      have hrel2 := hrel.out
      rw [hfin] at hrel2
      have HF := hide (Tryz.Builder_String_any w.heap.size w.heap.size (textB bf.data.toList (bytesOf ls)) wr hrel2.1 hsz)
      have HB2 := hide hrel2.2
      clear hrel2 hfin hlt
      go_wp2_with (go_at_call 52; refine HF.out.mono ?_; rintro e w2 ⟨rfl, hbl⟩; have HB3 := hide (HB2.out.trans hbl); clear hbl)
      go_ret
      exact ⟨rfl, HB3.out⟩
end Go.Proofs.YtcnihmlmaigkdaaGreatDoor
