/- The text of a configuration, cut at its line feeds (chapter 08, ShowLines). No program in sight. -/
import Derived.Test.YtcnihmlmaigkdaaGreatDoorMShSpec
import Derived.Test.YtcnihmlmaigkdaaGreatDoorMShWr
import Derived.Lib.SplitLaws
import Derived.Lib.IndexLaws
namespace Go.Proofs.YtcnihmlmaigkdaaGreatDoor
open Go.RowKit Go.Lib
set_option linter.unusedVariables false

theorem iB_at : ∀ (x r : List UInt8), nl x → indexByte (x ++ 10 :: r) 10 = (x.length : Int)
  | [], r, _ => by
    show (if (10 : UInt8) == 10 then (0 : Int) else _) = _
    rfl
  | b :: x, r, h => by
    have ih := iB_at x r (fun u hu => h u (List.mem_cons_of_mem _ hu))
    have hb : (b == (10 : UInt8)) = false := by rw [beq_eq_false_iff_ne]; exact h b List.mem_cons_self
    show (if b == 10 then (0 : Int) else if indexByte (x ++ 10 :: r) 10 == -1 then -1 else indexByte (x ++ 10 :: r) 10 + 1) = _
    rw [hb, ih]
    have h2 : (((x.length : Int)) == -1) = false := by rw [beq_eq_false_iff_ne]; omega
    rw [h2, List.length_cons]
    simp
theorem iB_no : ∀ (x : List UInt8), nl x → indexByte x 10 = -1
  | [], _ => rfl
  | b :: x, h => by
    have ih := iB_no x (fun u hu => h u (List.mem_cons_of_mem _ hu))
    have hb : (b == (10 : UInt8)) = false := by rw [beq_eq_false_iff_ne]; exact h b List.mem_cons_self
    show (if b == 10 then (0 : Int) else if indexByte x 10 == -1 then -1 else indexByte x 10 + 1) = _
    rw [hb, ih]
    rfl
theorem cut_all : ∀ (ls : List (List UInt8)) (r : List UInt8), (∀ x ∈ ls, nl x) → nl r → count (ls.flatMap (fun x => x ++ [10]) ++ r) [10] = ls.length ∧ splitK [10] 0 ls.length (ls.flatMap (fun x => x ++ [10]) ++ r) = ls ++ [r]
  | [], r, _, hr => by
    refine ⟨?_, rfl⟩
    exact count_miss (by rw [List.flatMap_nil, List.nil_append, index_one]; exact iB_no r hr)
  | x :: ls, r, h, hr => by
    obtain ⟨h1, h2⟩ := cut_all ls r (fun y hy => h y (List.mem_cons_of_mem _ hy)) hr
    have e : (x :: ls).flatMap (fun x => x ++ [10]) ++ r = x ++ 10 :: (ls.flatMap (fun x => x ++ [10]) ++ r) := by simp
    have hi : index (x ++ 10 :: (ls.flatMap (fun x => x ++ [10]) ++ r)) [10] = (x.length : Int) := by rw [index_one]; exact iB_at x _ (h x List.mem_cons_self)
    have hd : (x ++ 10 :: (ls.flatMap (fun x => x ++ [10]) ++ r)).drop (x.length + 1) = ls.flatMap (fun x => x ++ [10]) ++ r := by
      rw [List.drop_append]
      simp
    rw [e]
    refine ⟨?_, ?_⟩
    · rw [count_hit (by simp) hi]
      show 1 + count (List.drop (x.length + 1) _) _ = _
      rw [hd, h1, List.length_cons]
      omega
    · rw [List.length_cons, splitK, hi]
      have hm : (((x.length : Int)) == -1) = false := by rw [beq_eq_false_iff_ne]; omega
      rw [hm]
      simp only [Bool.false_eq_true, if_false, Int.toNat_natCast, Nat.add_zero, List.length_cons, List.length_nil, Nat.zero_add]
      rw [hd, h2]
      simp
/-- The pieces of the text. -/
def piecesL (c : Cfg) : List (List UInt8) := [109, 111, 100, 117, 108, 101, 32, 123] :: ([9] ++ frameB c.frame) :: ((linesL c).map (fun x => [9] ++ x) ++ [[125]])
theorem pieces_text (c : Cfg) : printL c = (piecesL c).flatMap (fun x => x ++ [10]) ++ [] := by
  unfold printL piecesL textB
  simp [List.flatMap_map]
theorem pieces_nl {c : Cfg} (h : GoodC c) : ∀ x ∈ piecesL c, nl x := by
  intro x hx
  unfold piecesL at hx
  simp only [List.mem_cons, List.mem_append, List.mem_map, List.not_mem_nil, or_false] at hx
  rcases hx with rfl | rfl | ⟨y, hy, rfl⟩ | rfl
  · intro u hu
    simp at hu
    rcases hu with rfl | rfl | rfl | rfl | rfl | rfl | rfl | rfl <;> decide
  · intro u hu
    rw [frameB] at hu
    simp only [List.mem_append, List.mem_cons, List.not_mem_nil, or_false] at hu
    rcases hu with rfl | (hu | hu) | rfl
    · decide
    · rcases hu with rfl | rfl | rfl | rfl | rfl | rfl <;> decide
    · intro e
      have hd := num_dig c.frame u hu
      rw [e] at hd
      exact absurd hd (by decide)
    · decide
  · intro u hu
    rcases List.mem_append.1 hu with hu | hu
    · have : u = 9 := by simpa using hu
      rw [this]
      decide
    · exact nl_lines h y hy u hu
  · intro u hu
    have : u = 125 := by simpa using hu
    rw [this]
    decide
theorem pieces_len (c : Cfg) : (piecesL c).length = (linesL c).length + 3 := by
  unfold piecesL
  simp only [List.length_cons, List.length_append, List.length_map, List.length_nil]
theorem print_cut {c : Cfg} (h : GoodC c) : countB (ofL (printL c)) ⟨#[10]⟩ = (linesL c).length + 3 ∧ splitB ⟨#[10]⟩ 0 ((linesL c).length + 3) (ofL (printL c)) = (piecesL c ++ [[]]).map ofL := by
  obtain ⟨h1, h2⟩ := cut_all (piecesL c) [] (pieces_nl h) (fun u hu => by cases hu)
  rw [← pieces_text, pieces_len] at h1 h2
  have hs : (⟨#[10]⟩ : ByteArray).data.toList = [10] := rfl
  refine ⟨?_, ?_⟩
  · show count (ofL (printL c)).data.toList (⟨#[10]⟩ : ByteArray).data.toList = _
    rw [ofL_list, hs, h1]
  · have h3 := splitB_data ⟨#[10]⟩ 0 ((linesL c).length + 3) (ofL (printL c))
    rw [ofL_list, hs, h2] at h3
    have h4 := congrArg (List.map ofL) h3
    rw [List.map_map] at h4
    have e : (ofL ∘ fun x : ByteArray => x.data.toList) = id := funext fun s => ofL_of s
    rw [e, List.map_id] at h4
    exact h4
/-- Piece at + 2 is line at, behind a tabulator. -/
theorem piece_line (c : Cfg) (at_ : Nat) (h : at_ < (linesL c).length) : ((piecesL c ++ [[]]).map ofL)[at_ + 2]? = some (ofL ([9] ++ (linesL c)[at_])) := by
  have e : (piecesL c ++ [[]]).map ofL = ofL [109, 111, 100, 117, 108, 101, 32, 123] :: ofL ([9] ++ frameB c.frame) :: (((linesL c).map (fun x => [9] ++ x) ++ [[125]] ++ [[]]).map ofL) := by
    unfold piecesL
    simp
  rw [e, List.getElem?_cons_succ, List.getElem?_cons_succ, List.getElem?_map, List.append_assoc, List.getElem?_append_left (by rw [List.length_map]; exact h), List.getElem?_map, List.getElem?_eq_getElem h]
  rfl
end Go.Proofs.YtcnihmlmaigkdaaGreatDoor
