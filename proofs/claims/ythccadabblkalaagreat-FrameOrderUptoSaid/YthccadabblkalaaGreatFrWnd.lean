/- frame's checker of one window (chapter 15). -/
import Derived.Test.YthccadabblkalaaGreatUqIdx
import Derived.Test.YthccadabblkalaaGreatNuAdd
namespace Go.Proofs.YthccadabblkalaaGreat
open Go.RowKit Go.Sort
set_option linter.unusedVariables false

/-- A window's code, as the program reckons it. -/
def winP (f : Nat) (ps : List Nat) (x : WinR) : Nat := if idxId ps x.part < 0 then 19 else match plusO x.st x.len with | none => 20 | some m => if x.len = 0 ∨ f < m then 20 else 0
theorem winP_eq (c : Cfg) (x : WinR) (hf : c.frame < 18446744073709551616) : winP c.frame (ids c.parts.l) x = winCode c x := by
  unfold winP winCode
  split
  · rfl
  · unfold plusO fitO top64
    split
    · rename_i h
      split at h
      · cases h
      · rw [if_pos (by omega)]
    · rename_i m h
      split at h
      · injection h with h
        subst h
        by_cases h1 : x.len = 0
        · rw [if_pos (.inl h1), if_pos (.inl h1)]
        · by_cases h2 : c.frame < x.st + x.len
          · rw [if_pos (.inr h2), if_pos (by omega)]
          · rw [if_neg (by omega), if_neg (by omega)]
      · cases h
theorem ret_i64 {a b : Nat} (h : a = b) : Ending.returned (.int .i64 (a : Int)) = .returned (.int .i64 (b : Int)) := by rw [h]
/-- The checker's and the window's boxes. -/
def WinS (w : World) (f g : Nat) (x : WinR) (W : World) : Prop := Below w.heap.size w W ∧ Blk W w.heap.size 72 #[.int .u64 (f : Int), .pointer (some ⟨g, 0, none⟩)] ∧ Blk W (w.heap.size + 1) 36 #[.int .u64 (x.st : Int), .int .u64 (x.len : Int), .int .u16 (x.part : Int)]
theorem WinS.below {w W W' : World} {f g : Nat} {x : WinR} (h : WinS w f g x W) (hb : Below W.heap.size W W') : WinS w f g x W' := ⟨h.1.trans (hb.mono h.1.size), h.2.1.below hb h.2.1.lt, h.2.2.below hb h.2.2.lt⟩
theorem WinS.cells {w W : World} {f g : Nat} {x : WinR} (h : WinS w f g x W) : W.cell? ⟨w.heap.size, 0, none⟩ = some (.int .u64 (f : Int)) ∧ W.cell? ⟨w.heap.size + 1, 0, none⟩ = some (.int .u64 (x.st : Int)) ∧ W.cell? ⟨w.heap.size + 1, 1, none⟩ = some (.int .u64 (x.len : Int)) ∧ W.cell? ⟨w.heap.size + 1, 2, none⟩ = some (.int .u16 (x.part : Int)) := ⟨h.2.1.cell 0, h.2.2.cell 0, h.2.2.cell 1, h.2.2.cell 2⟩
theorem WinS.lt {w W : World} {f g : Nat} {x : WinR} (h : WinS w f g x W) : w.heap.size + 1 < W.heap.size := h.2.2.lt
set_option maxRecDepth 100000 in
set_option maxHeartbeats 4000000 in
theorem window_calls (f g : Nat) (ps : List Nat) (x : WinR) (w : World) (h : IdxAt ps g w) (hx : x.Ok) :
    Calls Tryz.prog 28 #[.agg #[.int .u64 (f : Int), .pointer (some ⟨g, 0, none⟩)], .agg #[.int .u64 (x.st : Int), .int .u64 (x.len : Int), .int .u16 (x.part : Int)]] w
      fun e w' => e = .returned (.int .i64 ((winP f ps x : Nat) : Int)) ∧ Below w.heap.size w w' := by
  have hb0 := ((Below.refl w.heap.size w).alloc (Nat.le_refl _) (.cells #[.int .u64 (f : Int), .pointer (some ⟨g, 0, none⟩)] 72)).alloc (by simp) (.cells #[.int .u64 (x.st : Int), .int .u64 (x.len : Int), .int .u16 (x.part : Int)] 36)
  have hc1 := (Blk.new w 72 #[.int .u64 (f : Int), .pointer (some ⟨g, 0, none⟩)]).alloc (.cells #[.int .u64 (x.st : Int), .int .u64 (x.len : Int), .int .u16 (x.part : Int)] 36)
  have hc2 := Blk.new (w.alloc (.cells #[.int .u64 (f : Int), .pointer (some ⟨g, 0, none⟩)] 72)) 36 #[.int .u64 (x.st : Int), .int .u64 (x.len : Int), .int .u16 (x.part : Int)]
  rw [World.size_alloc] at hc2
  have HI0 := IdxPart_calls ps g x.part _ (h.below hb0) hx.2.2
  have HA := hide (fun W => Add_two x.st x.len hx.1 hx.2.1 W 22)
  have HI : Hid (Calls Tryz.prog 51 #[.pointer (some ⟨g, 0, none⟩), .int .u16 (x.part : Int)] ((w.alloc (.cells #[.int .u64 (f : Int), .pointer (some ⟨g, 0, none⟩)] 72)).alloc (.cells #[.int .u64 (x.st : Int), .int .u64 (x.len : Int), .int .u16 (x.part : Int)] 36)) fun e w' => e = .returned (.int .i64 (idxId ps x.part)) ∧ WinS w f g x w') := hide (HI0.mono (fun e w' hw => ⟨hw.1, by rw [hw.2]; exact ⟨hb0, hc1, hc2⟩⟩))
  have HB0 := hide hb0
  obtain ⟨R, hR⟩ : ∃ R, R = winP f ps x := ⟨_, rfl⟩
  rw [← hR]
  unfold winP at hR
  generalize idxId ps x.part = u at *
  obtain ⟨st, len, part⟩ := x
  simp only at HI HA HB0 hR ⊢
  clear h hx hb0 HI0 hc1 hc2
  by_cases hu : u < 0
  · have u0 : decide (u < 0) = true := by simpa using hu
    rw [if_pos hu] at hR
    have HR := hide hR
    clear hu hR
    go_enter Tryz.func28, Tryz.ntmps28
    go_wp2_with (go_at_call 51; refine HI.out.mono ?_; rintro e w1 ⟨rfl, hs⟩; have HS := hide hs; clear hs)
    go_ret
    exact ⟨ret_i64 HR.out.symm, HS.out.1⟩
  · have u0 : decide (u < 0) = false := by simpa using hu
    rw [if_neg hu] at hR
    clear hu
    cases hp : plusO st len with
    | none =>
      rw [hp] at hR HA
      unfold optV at HA
      simp only at hR HA
      have HR := hide hR
      clear hR hp
      go_enter Tryz.func28, Tryz.ntmps28
      go_wp2_with (first
        | (go_at_call 51; refine HI.out.mono ?_; rintro e w1 ⟨rfl, hs⟩; have HS := hide hs; obtain ⟨y0, y1, y2, y3⟩ := hs.cells; have hz1 := hs.lt; clear hs)
        | (go_at_call 52; refine (HA.out _).mono ?_; rintro e w2 ⟨rfl, hb⟩; have HB2 := hide (HS.out.below hb); clear hb))
      go_ret
      exact ⟨ret_i64 HR.out.symm, HB2.out.1⟩
    | some m =>
      rw [hp] at hR HA
      unfold optV at HA
      simp only at hR HA
      clear hp
      by_cases hl : len = 0
      · rw [if_pos (.inl hl)] at hR
        have HR := hide hR
        have l0 : ((len : Int) == 0) = true := by rw [hl]; rfl
        clear hR hl
        go_enter Tryz.func28, Tryz.ntmps28
        go_wp2_with (first
          | (go_at_call 51; refine HI.out.mono ?_; rintro e w1 ⟨rfl, hs⟩; have HS := hide hs; obtain ⟨y0, y1, y2, y3⟩ := hs.cells; have hz1 := hs.lt; clear hs)
          | (go_at_call 52; refine (HA.out _).mono ?_; rintro e w2 ⟨rfl, hb⟩; have HB2 := hide (HS.out.below hb); obtain ⟨v0, v1, v2, v3⟩ := HB2.out.cells; clear hb))
        go_ret
        exact ⟨ret_i64 HR.out.symm, HB2.out.1⟩
      · have l0 : ((len : Int) == 0) = false := by rw [beq_eq_false_iff_ne]; omega
        by_cases hf : f < m
        · rw [if_pos (.inr hf)] at hR
          have HR := hide hR
          have f0 : decide ((f : Int) < (m : Int)) = true := by simpa using hf
          have f1 : decide (f < m) = true := by simpa using hf
          clear hR hl hf
          go_enter Tryz.func28, Tryz.ntmps28
          go_wp2_with (first
            | (go_at_call 51; refine HI.out.mono ?_; rintro e w1 ⟨rfl, hs⟩; have HS := hide hs; obtain ⟨y0, y1, y2, y3⟩ := hs.cells; have hz1 := hs.lt; clear hs)
            | (go_at_call 52; refine (HA.out _).mono ?_; rintro e w2 ⟨rfl, hb⟩; have HB2 := hide (HS.out.below hb); obtain ⟨v0, v1, v2, v3⟩ := HB2.out.cells; clear hb))
          go_ret
          exact ⟨ret_i64 HR.out.symm, HB2.out.1⟩
        · rw [if_neg (by omega)] at hR
          have HR := hide hR
          have f0 : decide ((f : Int) < (m : Int)) = false := by simpa using hf
          have f1 : decide (f < m) = false := by simpa using hf
          clear hR hl hf
          go_enter Tryz.func28, Tryz.ntmps28
          go_wp2_with (first
            | (go_at_call 51; refine HI.out.mono ?_; rintro e w1 ⟨rfl, hs⟩; have HS := hide hs; obtain ⟨y0, y1, y2, y3⟩ := hs.cells; have hz1 := hs.lt; clear hs)
            | (go_at_call 52; refine (HA.out _).mono ?_; rintro e w2 ⟨rfl, hb⟩; have HB2 := hide (HS.out.below hb); obtain ⟨v0, v1, v2, v3⟩ := HB2.out.cells; clear hb))
          go_ret
          exact ⟨ret_i64 HR.out.symm, HB2.out.1⟩
end Go.Proofs.YthccadabblkalaaGreat
