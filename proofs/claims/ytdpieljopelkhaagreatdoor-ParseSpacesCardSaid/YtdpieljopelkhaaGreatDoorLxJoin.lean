/- The walk of lex.Join (chapter 06). -/
import Derived.Test.YtdpieljopelkhaaGreatDoorMLxToks
import Derived.Test.YtdpieljopelkhaaGreatDoorMLxSpec
import Derived.Test.YtdpieljopelkhaaGreatDoorMReplSpec2
namespace Go.Proofs.YtdpieljopelkhaaGreatDoor
open Go.RowKit Go.Lib

def wordB (t : Token) : ByteArray := if t.kind = 3 then quoteS ⟨t.text.toArray⟩ else ⟨t.text.toArray⟩
def wordsB (l : List Token) : List ByteArray := l.map wordB
def strV (l : List ByteArray) : List Value := l.map .string
/-- The words of the first tokens. -/
def JoinR (w : World) (l : List Token) (i : Nat) (v : Value) (wr : World) : Prop :=
  wr.ownsRow w.heap.size 9 1 v i (strV ((wordsB l).take i)) ∧ Below w.heap.size w wr ∧ ∃ a n c, v = .slice a n c
theorem strV_snoc (l : List Token) (i : Nat) (hi : i < l.length) : strV ((wordsB l).take (i + 1)) = strV ((wordsB l).take i) ++ [.string (wordB l[i])] := by
  unfold strV wordsB
  rw [List.take_succ_eq_append_getElem (by simpa using hi)]
  simp
theorem one_str (s : ByteArray) : ∀ u ∈ [Value.string s], u.oneCell' = true := by intro u hu; rw [List.mem_singleton] at hu; rw [hu]; rfl
theorem own_ltJ {w : World} {base e size n : Nat} {v : Value} {xs : List Value} (h : w.ownsRow base e size v n xs) : ∀ k, v.ownBlock = some k → base ≤ k ∧ k < w.heap.size := by
  intro k hk
  rcases h.2 with ⟨rfl, _⟩ | ⟨g, cap, cur, rfl, hb, hg, _⟩
  · simp [Value.ownBlock] at hk
  · have hk : g = k := by simpa [Value.ownBlock] using hk
    subst hk
    have hg' : Blk w g e cur := hg
    exact ⟨hb, hg'.lt⟩
set_option maxRecDepth 100000 in
set_option maxHeartbeats 4000000 in
theorem Join_calls (A : Option Addr) (n cA : Nat) (l : List Token) (hn : l.length = n) (hl : n ≤ 2000000) (w : World) (bA : Nat) (hA : w.ownsRow bA 114 5 (.slice A n cA) l.length (tokCells l))
    (hj : (Lib.join ((wordsB l).map (·.data.toList)) [32]).length ≤ 140737488355328) :
    Calls Tryz.prog 22 #[.slice A n cA] w fun e w' => e = .returned (.string ⟨(Lib.join ((wordsB l).map (·.data.toList)) [32]).toArray⟩) ∧ Below w.heap.size w w' := by
  have HA := hide hA
  have HN := hide hn
  have HJ := hide hj
  have hnI : (n : Int) ≤ 2000000 := by omega
  have hbr := Below.refl w.heap.size w
  clear hA hn hj
  go_enter Tryz.func22, Tryz.ntmps22
  go_wp2
  go_loopw [3, 8] (fun v i wr => ∃ k : Nat, k ≤ n ∧ i = .int .i64 (k : Int) ∧ Hid (JoinR w l k v wr)) (fun _ i _ => n - (RowKit.intOf i).toNat)
  case atStart => exact ⟨0, Nat.zero_le _, rfl, World.ownsRow_nil _ _ _ _, hbr, _, _, _, rfl⟩
  case round =>
    obtain ⟨k, hk, rfl, hrel⟩ := hrel
    obtain ⟨a0, n0, c0, hv⟩ := hrel.out.2.2
    subst hv
    have hsz := hrel.out.2.1.size
    by_cases hlt : k < n
    · have hki : (k : Int) < (n : Int) := by omega
      have hkl : k < l.length := by have := HN.out; omega
      have hA2 := HA.out
      rw [← HN.out] at hA2
      obtain ⟨gL, hgl, hcL, hgL, cellL⟩ := tok_cell hA2 k hkl
      subst hgl
      have hs2 := hide (strV_snoc l k hkl)
      obtain ⟨wd, hwd⟩ : ∃ wd, wd = wordB l[k] := ⟨_, rfl⟩
      rw [← hwd] at hs2
      obtain ⟨⟨kind, text, v, li, co⟩, ht⟩ : ∃ t, t = l[k] := ⟨_, rfl⟩
      rw [← ht] at cellL hwd
      obtain ⟨s, hs⟩ : ∃ s : ByteArray, s = ⟨text.toArray⟩ := ⟨_, rfl⟩
      have htv : tokV ⟨kind, text, v, li, co⟩ = #[.int .i64 (kind : Int), .string s, .int .u64 (v : Int), .int .i64 (li : Int), .int .i64 (co : Int)] := by rw [hs]; rfl
      rw [htv] at cellL
      have p0 : wr.cell? ⟨gL, k * 5, none⟩ = some (.int .i64 (kind : Int)) := (hrel.out.2.1.cell (p := ⟨gL, k * 5 + 0, none⟩) hgL).trans (cellL 0 (by omega))
      have p1 : wr.cell? ⟨gL, k * 5 + 1, none⟩ = some (.string s) := (hrel.out.2.1.cell (p := ⟨gL, k * 5 + 1, none⟩) hgL).trans (cellL 1 (by omega))
      have p2 : wr.cell? ⟨gL, k * 5 + 2, none⟩ = some (.int .u64 (v : Int)) := (hrel.out.2.1.cell (p := ⟨gL, k * 5 + 2, none⟩) hgL).trans (cellL 2 (by omega))
      have p3 : wr.cell? ⟨gL, k * 5 + 3, none⟩ = some (.int .i64 (li : Int)) := (hrel.out.2.1.cell (p := ⟨gL, k * 5 + 3, none⟩) hgL).trans (cellL 3 (by omega))
      have p4 : wr.cell? ⟨gL, k * 5 + 4, none⟩ = some (.int .i64 (co : Int)) := (hrel.out.2.1.cell (p := ⟨gL, k * 5 + 4, none⟩) hgL).trans (cellL 4 (by omega))
      obtain ⟨i0, hi, hz0, hz1, hz2⟩ := info_parts string_info
      have hb1 := hide (hrel.out.2.1.alloc hsz (.cells #[.int .i64 (kind : Int), .string s, .int .u64 (v : Int), .int .i64 (li : Int), .int .i64 (co : Int)] 114))
      have ho1 := hide (hrel.out.1.alloc (.cells #[.int .i64 (kind : Int), .string s, .int .u64 (v : Int), .int .i64 (li : Int), .int .i64 (co : Int)] 114))
      have hnew := hide (Blk.new wr 114 #[.int .i64 (kind : Int), .string s, .int .u64 (v : Int), .int .i64 (li : Int), .int .i64 (co : Int)])
      have hol := hide (own_ltJ hrel.out.1)
      have hne := hide (show (Value.slice a0 n0 c0).ownBlock ≠ some wr.heap.size from fun e => by have := (hol.out _ e).2; omega)
      by_cases h3 : kind = 3
      · have hb3 : ((kind : Int) == 3) = true := by simp; omega
        have hwq : wd = quoteS s := by rw [hwd, hs]; unfold wordB; rw [if_pos h3]
        have hQ := fun W => Quote_calls s W
        rw [← hwq] at hQ
        have HQ := hide hQ
        clear h3 hwq hwd hQ cellL ht hs htv hA2
        go_wp2_with (first
          | (go_at_call 51; refine (HQ.out _).mono ?_; rintro e w2 ⟨rfl, hb2⟩; have hB2 := hide (hnew.out.below hb2 hnew.out.lt); have f1 : w2.cell? ⟨wr.heap.size, 1, none⟩ = some (.string s) := hB2.out.cell 1; have ff := fun i => hB2.out.frozen i; have Hb2 := hide (hb1.out.trans (hb2.mono hb1.out.size)); have Ho2 := hide (own_below ho1.out hb2); have hz2w := hb2.size; have hz3w : wr.heap.size < w2.heap.size := hB2.out.lt; clear hb2)
          | (at_builtin; go_must (refine wpList_append_own_at _ rfl (.tmp 19) (.tmp 22) 117 rfl w.heap.size 9 i0 _ 1 16 Tryz.underlying117 hi hz0 hz1 hz2 rfl (by decide) (.slice a0 n0 c0) k (strV ((wordsB l).take k)) rfl ((ownsRow_setCell_other Ho2.out hne.out _).alloc _) _ 1 1 [.string wd] rfl rfl (cell_one_at _ _ _ _ (by simp [World.setCell])) (one_str wd) (by simp only [maxLen]; omega) (by omega) (by simp [World.setCell]; omega) ?_); intro v' w4 hown' hg hnl hat; have HO4 := hide hown'; have HB4 := hide (((Hb2.out.setCell (p := ⟨wr.heap.size, 1, none⟩) hsz (.string wd)).alloc (by simp [World.setCell]; omega) _).grown hg (by simp [World.setCell]; omega) (fun r hr => (hol.out r hr).1)); clear hown' hg hnl hat))
        have hvs := own_slN HO4.out
        have HO5 := HO4.out
        rw [← hs2.out] at HO5
        have HR := hide (show JoinR w l (k + 1) v' w4 from ⟨HO5, HB4.out, hvs⟩)
        clear HO5 hvs
        go_roundw
        case rel => first | exact ⟨k + 1, by omega, by go_num, HR⟩ | ((repeat apply Exists.intro); exact ⟨⟨k + 1, by omega, by go_num, HR⟩, rfl⟩)
        case measure => simp [RowKit.intOf]; omega
      · have hb3 : ((kind : Int) == 3) = false := by simp; omega
        have hwq : s = wd := by rw [hwd, hs]; unfold wordB; rw [if_neg h3]
        subst hwq
        clear h3 hwd cellL ht htv hA2 hs
        go_wp2_with (at_builtin; go_must (refine wpList_append_own_at _ rfl (.tmp 19) (.tmp 22) 117 rfl w.heap.size 9 i0 _ 1 16 Tryz.underlying117 hi hz0 hz1 hz2 rfl (by decide) (.slice a0 n0 c0) k (strV ((wordsB l).take k)) rfl ((ho1.out).alloc _) _ 1 1 [.string s] rfl rfl (cell_one_at _ _ _ _ (by simp)) (one_str s) (by simp only [maxLen]; omega) (by omega) (by simp; omega) ?_); intro v' w4 hown' hg hnl hat; have HO4 := hide hown'; have HB4 := hide ((hb1.out.alloc (by simp; omega) _).grown hg (by simp; omega) (fun r hr => (hol.out r hr).1)); clear hown' hg hnl hat)
        have hvs := own_slN HO4.out
        have HO5 := HO4.out
        rw [← hs2.out] at HO5
        have HR := hide (show JoinR w l (k + 1) v' w4 from ⟨HO5, HB4.out, hvs⟩)
        clear HO5 hvs
        go_roundw
        case rel => first | exact ⟨k + 1, by omega, by go_num, HR⟩ | ((repeat apply Exists.intro); exact ⟨⟨k + 1, by omega, by go_num, HR⟩, rfl⟩)
        case measure => simp [RowKit.intOf]; omega
    · have hdl : decide ((k : Int) < (n : Int)) = false := by simp; omega
      obtain rfl : k = n := by omega
      have hwl : (wordsB l).length = k := by rw [← HN.out]; simp [wordsB]
      have hown := hrel.out.1
      rw [List.take_of_length_le (by omega)] at hown
      have hJc : Calls Tryz.prog 52 #[.slice a0 n0 c0, .string ⟨#[32]⟩] wr fun e w' => e = .returned (.string ⟨(Lib.join ((wordsB l).map (·.data.toList)) [32]).toArray⟩) ∧ Below wr.heap.size wr w' := by
        by_cases h0 : k = 0
        · have hnil : wordsB l = [] := List.eq_nil_of_length_eq_zero (by omega)
          rw [hnil]
          rcases hown.2 with ⟨hv, _⟩ | ⟨g, cap, cur, hv, _⟩
          · injection hv with e1 e2 e3
            subst e1 e2 e3
            refine (Tryz.strings_Join_none _ _ _ _).mono ?_
            rintro e w' ⟨rfl, rfl⟩
            exact ⟨rfl, Below.refl _ _⟩
          · injection hv with e1 e2 e3
            subst e2
            subst h0
            refine (Tryz.strings_Join_none _ _ _ _).mono ?_
            rintro e w' ⟨rfl, rfl⟩
            exact ⟨rfl, Below.refl _ _⟩
        · obtain ⟨g, cap, hv, _, hgl, hcp, hcm, hcell, _⟩ := own_form hown (by omega)
          injection hv with e1 e2 e3
          subst e1 e2 e3
          have := Tryz.strings_Join g 0 c0 (wordsB l) ⟨#[32]⟩ wr (fun j x hx => by
            rw [Nat.zero_add]
            exact hcell j _ (by unfold strV; rw [List.getElem?_map, hx]; rfl)) hgl (by omega) (by omega) HJ.out
          rw [hwl] at this
          exact this
      have HJC := hide hJc
      clear hJc hown hwl
      go_wp2_with (go_at_call 52; refine HJC.out.mono ?_; rintro e w2 ⟨rfl, hb2⟩; have HB2 := hide (hrel.out.2.1.trans (hb2.mono hsz)); clear hb2)
      go_ret
      exact ⟨rfl, HB2.out⟩
end Go.Proofs.YtdpieljopelkhaaGreatDoor
