/- The walk of name.Sort (chapter 04, NameSorts). -/
import Derived.Test.YtgjdhndlbhbjhaaGreatNsName
import Derived.Lib.RowBridge
namespace Go.Proofs.YtgjdhndlbhbjhaaGreat
open Go.RowKit Go.Maps Go.Sort Go.Shelf Go.Proofs
set_option linter.unusedVariables false

def sortR (zs : List (List UInt8)) : List (List UInt8) := Lib.compact (zs.mergeSort leS)
/-- What name.Sort hands back: nil for nothing; else a row of its own. -/
def SortV (zs : List (List UInt8)) (w : World) (e : Ending) (w' : World) : Prop :=
  Below w.heap.size w w' ∧ ((zs = [] ∧ e = .returned (.slice none 0 0)) ∨ ∃ g cap, e = .returned (.slice (some ⟨g, 0, none⟩) (sortR zs).length cap) ∧ (sortR zs).length ≤ cap ∧ w.heap.size ≤ g ∧ g < w'.heap.size ∧ ∀ j, (h : j < (sortR zs).length) → w'.cell? ⟨g, j, none⟩ = some (encStr (sortR zs)[j]))
theorem compact_row (zs : List (List UInt8)) (g cap : Nat) (W w : World) (hb : Below w.heap.size w W) (hg : w.heap.size ≤ g) (hgl : g < W.heap.size) (hH : Holds encStr W g 0 (zs.mergeSort leS).toArray) (hcap : zs.length ≤ cap) (hn : zs.length ≤ 1000000000) :
    Calls Tryz.prog 11 #[.slice (some ⟨g, 0, none⟩) zs.length cap] W (SortV zs w) := by
  have hl : (zs.mergeSort leS).length = zs.length := List.length_mergeSort _
  have hC := Tryz.slices_Compact_string g 0 cap (zs.mergeSort leS) W hH (by omega) (by omega)
  rw [hl] at hC
  refine hC.mono ?_
  rintro e w' ⟨rfl, q, rfl⟩
  have hle := Lib.compact_length_le (zs.mergeSort leS)
  rw [hl] at hle
  have hgr := grownBy_sorted (w := W) (g := g) (n := q) (os := #[]) (Lib.compact (zs.mergeSort leS) ++ List.replicate (zs.length - (Lib.compact (zs.mergeSort leS)).length) []).toArray
  rw [grow_empty] at hgr
  refine ⟨hb.grown hgr hb.size (fun k e => by cases e; exact hg), .inr ⟨g, cap, rfl, ?_, hg, ?_, ?_⟩⟩
  · show (Lib.compact (zs.mergeSort leS)).length ≤ cap
    omega
  · rw [size_putRow]; exact hgl
  · intro j hj
    have hj' : j < (Lib.compact (zs.mergeSort leS)).length := hj
    have h := (holds_putRow encStr (Sort.ahead W q) g 0 _ (Lib.compact (zs.mergeSort leS) ++ List.replicate (zs.length - (Lib.compact (zs.mergeSort leS)).length) []).toArray (holds_ahead encStr W q g 0 _ hH) (by simp; omega) j (by simp; omega)).1
    rw [Nat.zero_add] at h
    rw [h]
    congr 2
    simp only [List.getElem!_toArray]
    rw [getElem!_pos _ j (by simp; omega), List.getElem_append_left hj']
    rfl
set_option maxHeartbeats 2000000 in
theorem Sort_calls (zs : List (List UInt8)) (b off cap : Nat) (w : World) (hb : b < w.heap.size) (hc : ∀ j, (h : j < zs.length) → w.cell? ⟨b, off + j, none⟩ = some (encStr zs[j])) (hcap : zs.length ≤ cap) (hn : zs.length ≤ 1000000000) :
    Calls Tryz.prog 5 #[.slice (some ⟨b, off, none⟩) zs.length cap] w (SortV zs w) := by
  have hw1 := (Below.refl w.heap.size w).alloc (Nat.le_refl _) (.cells #[.slice (some ⟨b, off, none⟩) zs.length cap] 22)
  have HS := hide (Sorted_calls w.heap.size b off cap zs hcap hn (w.alloc (.cells #[.slice (some ⟨b, off, none⟩) zs.length cap] 22)) (by simp) (by simp; omega) ((Blk.new w 22 #[.slice (some ⟨b, off, none⟩) zs.length cap]).cell 0)
    (fun j h => (hw1.cell (p := ⟨b, off + j, none⟩) hb).trans (hc j h)))
  have HV := hide (Values_calls (some ⟨b, off, none⟩) zs.length cap w)
  have HW1 := hide hw1
  have HN := hide hn
  have HL : Hid ((zs.mergeSort leS).length = zs.length) := hide (List.length_mergeSort _)
  have HCR := hide (fun W g cap h1 h2 h3 h4 h5 => compact_row zs g cap W w h1 h2 h3 h4 h5 hn)
  obtain ⟨n, hnn⟩ : ∃ n, n = zs.length := ⟨_, rfl⟩
  rw [← hnn] at HS HV hcap HW1 HCR HL ⊢
  have HNN := hide hnn
  clear hw1 hc hn hnn hb
  have HE := hide (fun (h : zs = []) => (Tryz.slices_Compact_string_empty none 0))
  go_enter Tryz.func5, Tryz.ntmps5
  go_wp2_with (first
    | (go_at_call 13; refine HV.out.mono ?_; rintro e w1 ⟨rfl, rfl⟩)
    | (go_at_call 12; refine HS.out.mono ?_; rintro e w2 ⟨v, rfl, hown, hnil, hb2⟩; have HO := hide hown; have HNIL := hide hnil; have HB2 := hide (HW1.out.trans (hb2.mono HW1.out.size)); clear hown hnil hb2)
)
  rcases HO.out.2 with ⟨rfl, hz⟩ | ⟨g, cap', cur, rfl, hbase, hgb, r1, r2, r3, r4⟩
  · refine (Tryz.slices_Compact_string_empty none 0 w2).mono ?_
    rintro e w3 ⟨rfl, rfl⟩
    have hz0 : zs = [] := List.eq_nil_of_length_eq_zero (by have := HNN.out; omega)
    have HZ := hide hz0
    clear hz hz0
    go_wp2
    go_ret
    exact ⟨HB2.out, .inl ⟨HZ.out, rfl⟩⟩
  · have hlen := HL.out
    have hH : Holds encStr w2 g 0 (zs.mergeSort leS).toArray := holds_of_block hgb (by rw [hlen]; simpa using r4)
    have hgl : g < w2.heap.size := (Array.getElem?_eq_some_iff.1 hgb).1
    have hb1 : w.heap.size ≤ g := by simp at hbase; omega
    refine (HCR.out w2 g cap' HB2.out hb1 hgl hH r1).mono ?_
    intro e w3 hS
    have HS3 := hide hS
    obtain ⟨v', rfl⟩ : ∃ v', e = .returned v' := by
      rcases hS.2 with ⟨_, h⟩ | ⟨_, _, h, _⟩
      · exact ⟨_, h⟩
      · exact ⟨_, h⟩
    clear hS hH hgb r1 r2 r3 r4 hlen hgl hb1 hbase
    go_wp2
    go_ret
    exact HS3.out
end Go.Proofs.YtgjdhndlbhbjhaaGreat
