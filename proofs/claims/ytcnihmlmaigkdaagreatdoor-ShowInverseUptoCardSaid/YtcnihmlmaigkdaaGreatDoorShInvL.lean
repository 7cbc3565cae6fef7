/- The text of a configuration of few records within limits, read back (chapter 08, ShowInverse). No program in sight. -/
import Derived.Test.YtcnihmlmaigkdaaGreatDoorMPaLike
import Derived.Test.YtcnihmlmaigkdaaGreatDoorMShRef
namespace Go.Proofs.YtcnihmlmaigkdaaGreatDoor
open Go.RowKit Go.Lib Go.Sort
set_option linter.unusedVariables false

theorem tkL_fuel : ∀ (f f' : Nat) (l : List UInt8), l.length < f → l.length < f' → tkL f l = tkL f' l
  | 0, _, l, h, _ => by omega
  | _ + 1, 0, l, _, h => by omega
  | f + 1, f' + 1, l, h, h' => by
    rw [tkL, tkL]
    cases hd : l.drop (spc false l) with
    | nil => rfl
    | cons c r =>
      cases hT : tokL (c :: r) with
      | bad e => rfl
      | tok kind text v n =>
        simp only
        have h0 : kind ≠ 0 := fun e => tokL_kind c r text v n (by rw [hT, e])
        have hn := (tokL_fine c r kind v n text hT).2.2.2.1
        have hlen : (c :: r).length ≤ l.length := by rw [← hd, List.length_drop]; omega
        rw [if_neg h0, if_neg h0, tkL_fuel f f' ((c :: r).drop n) (by rw [List.length_drop]; simp at hlen ⊢; omega) (by rw [List.length_drop]; simp at hlen ⊢; omega)]
theorem out_of (s : ByteArray) (M : List (Nat × List UInt8 × Nat)) (G : Nat) (hs : s.size ≤ 1048576) (h : tkL G s.data.toList = some M) (hG : s.data.toList.length < G) : ∃ l, outOf s = .ok l ∧ l.map un = M := by
  have h3 := toks_tkL s (s.size + 1) 0
  rw [List.drop_zero, tkL_fuel (s.size + 1) G _ (by rw [Lib.size_eq]; omega) hG, h] at h3
  unfold outOf
  rw [if_pos hs]
  cases ho : toks s (s.size + 1) 0 with
  | ok l => rw [ho] at h3; exact ⟨l, rfl, Option.some.inj h3⟩
  | bad a b c => rw [ho] at h3; cases h3
/-! ### How long the texts of few records are -/
theorem part_len2 {x : PartR} (hx : x.Ok) (hn : x.name.size ≤ 100) : (partLn x).length ≤ 5000 := by
  obtain ⟨h1, _, h3, h4⟩ := hx
  have a1 : (numB x.id).length ≤ 20 := num_size (by omega)
  have a2 : (numB x.per).length ≤ 20 := num_size h3
  have a3 : (numB x.dur).length ≤ 20 := num_size h4
  have a4 := quoteN_len x.name
  have a5 := join_len [[112, 101, 114, 105, 111, 100, 32] ++ numB x.per, [100, 117, 114, 97, 116, 105, 111, 110, 32] ++ numB x.dur]
  unfold partLn lnB
  simp only [List.length_append, List.length_cons, List.length_nil, List.map_cons, List.map_nil, List.sum_cons, List.sum_nil] at a5 ⊢
  omega
theorem win_len2 {x : WinR} (hx : x.Ok) : (winLn x).length ≤ 5000 := by
  obtain ⟨h1, h2, h3⟩ := hx
  have a1 : (numB x.part).length ≤ 20 := num_size (by omega)
  have a2 : (numB x.st).length ≤ 20 := num_size h1
  have a3 : (numB x.len).length ≤ 20 := num_size h2
  have a5 := join_len [[115, 116, 97, 114, 116, 32] ++ numB x.st, [108, 101, 110, 103, 116, 104, 32] ++ numB x.len]
  unfold winLn lnB
  simp only [List.length_append, List.length_cons, List.length_nil, List.map_cons, List.map_nil, List.sum_cons, List.sum_nil] at a5 ⊢
  omega
theorem reg_len2 {x : RegR} (hx : x.Ok) (hr : x.rights ≤ 7) : (regLn x).length ≤ 5000 := by
  obtain ⟨h1, h2, h3, _⟩ := hx
  have a1 : (numB x.part).length ≤ 20 := num_size (by omega)
  have a2 : (numB x.size).length ≤ 20 := num_size h2
  have a3 := hex_size h1
  have a4 : (rightsW x.rights).length ≤ 4 := word_size hr
  have a5 := join_len (regF x)
  unfold regLn lnB
  unfold regF at a5 ⊢
  cases hs : x.shared <;> simp only [hs, Bool.false_eq_true, if_false, if_true, List.length_append, List.length_cons, List.length_nil, List.map_append, List.map_cons, List.map_nil, List.sum_append, List.sum_cons, List.sum_nil] at a5 ⊢ <;> omega
theorem port_len2 {x : PortR} (hx : x.Ok) (hn : x.name.size ≤ 100) : (portLn x).length ≤ 5000 := by
  obtain ⟨h1, h2, _, h4⟩ := hx
  have a1 : (numB x.id).length ≤ 20 := num_size (by omega)
  have a2 : (numB x.part).length ≤ 20 := num_size (by omega)
  have a3 : (numB x.size).length ≤ 20 := num_size (by omega)
  have a4 := quoteN_len x.name
  have a6 : (dirB x.out).length ≤ 10 := by cases x.out <;> decide
  have a7 : (kindB x.que).length ≤ 10 := by cases x.que <;> decide
  have a5 := join_len [[112, 97, 114, 116, 105, 116, 105, 111, 110, 32] ++ numB x.part, dirB x.out, kindB x.que, [115, 105, 122, 101, 32] ++ numB x.size]
  unfold portLn lnB
  simp only [List.length_append, List.length_cons, List.length_nil, List.map_cons, List.map_nil, List.sum_cons, List.sum_nil] at a5 ⊢
  omega
theorem chan_len2 {x : ChanR} (hx : x.Ok) (hn : x.dests.length ≤ 120) : (chanLn x).length ≤ 5000 := by
  obtain ⟨h1, h2, h3⟩ := hx
  have a1 : (numB x.id).length ≤ 20 := num_size (by omega)
  have a2 : (numB x.src).length ≤ 20 := num_size (by omega)
  have b1 := join_len2 [44, 32] (x.dests.map numB)
  have b2 := sum_num x.dests h3
  simp only [List.length_map, List.length_cons, List.length_nil] at b1
  have a3 : (toB x.dests).length ≤ 2700 := by
    unfold toB
    split
    · decide
    · simp only [List.length_append, List.length_cons, List.length_nil]; omega
  have a5 := join_len [[115, 111, 117, 114, 99, 101, 32] ++ numB x.src, toB x.dests]
  unfold chanLn lnB
  simp only [List.length_append, List.length_cons, List.length_nil, List.map_cons, List.map_nil, List.sum_cons, List.sum_nil] at a5 ⊢
  omega
theorem few_lines {c : Cfg} (hok : c.Ok) (hf : fewB c = true) (hw : withinB c = true) : (∀ s ∈ linesL c, s.length ≤ 5000) ∧ (linesL c).length ≤ 120 := by
  have hg := within_good hw
  unfold fewB at hf
  simp only [Bool.and_eq_true, decide_eq_true_eq, List.all_eq_true] at hf
  obtain ⟨⟨hp, hq⟩, hs⟩ := hf
  unfold sumN at hs
  refine ⟨fun s h => ?_, ?_⟩
  · unfold linesL at h
    simp only [List.mem_append, List.mem_map] at h
    rcases h with ⟨x, hx, rfl⟩ | ⟨x, hx, rfl⟩ | ⟨x, hx, rfl⟩ | ⟨x, hx, rfl⟩ | ⟨x, hx, rfl⟩
    · exact part_len2 (hok.parts x hx) (by have := hp x hx; unfold shortP at this; simpa using this)
    · exact win_len2 (hok.wins x hx)
    · exact reg_len2 (hok.regs x hx) (hg.regs x hx)
    · exact port_len2 (hok.ports x hx) (by have := hq x hx; unfold shortQ at this; simpa using this)
    · exact chan_len2 (hok.chans x hx) (by have := links_mem hx; omega)
  · unfold linesL
    simp only [List.length_append, List.length_map]
    omega
theorem recs_size {c : Cfg} (hok : c.Ok) (hf : fewB c = true) (hw : withinB c = true) : (recordsL c).length ≤ 1000000 := by
  obtain ⟨h1, h2⟩ := few_lines hok hf hw
  have h3 := textB_len [] 5000 (linesL c) h1
  have h4 : (linesL c).length * (5000 + ([] : List UInt8).length + 1) ≤ 120 * 5001 := Nat.mul_le_mul h2 (by simp)
  unfold recordsL
  omega
theorem print_size {c : Cfg} (hok : c.Ok) (hf : fewB c = true) (hw : withinB c = true) : (printL c).length ≤ 1000000 := by
  obtain ⟨h1, h2⟩ := few_lines hok hf hw
  have hfr : (numB c.frame).length ≤ 20 := num_size hok.frame
  have h3 := textB_len [9] 5000 (frameB c.frame :: linesL c) (fun s hs => by
    rcases List.mem_cons.1 hs with rfl | hs
    · unfold frameB; simp only [List.length_append, List.length_cons, List.length_nil]; omega
    · exact h1 s hs)
  have h4 : (frameB c.frame :: linesL c).length * (5000 + ([9] : List UInt8).length + 1) ≤ 121 * 5002 := Nat.mul_le_mul (by rw [List.length_cons]; omega) (by simp)
  unfold printL
  simp only [List.length_append, List.length_cons, List.length_nil] at h3 h4 ⊢
  omega
/-! ### Read back -/
theorem parse_back {c : Cfg} (hc : c.Ok) (hf : fewB c = true) (hw : withinB c = true) : parseO (ofL (printL c)) = .ok (pcOf c) := by
  obtain ⟨l, h1, h2⟩ := out_of (ofL (printL c)) (printU c ++ [(0, [], 0)]) ((printU c).length + ((printL c).length + 1)) (by rw [ofL_size]; have := print_size hc hf hw; omega) (by rw [ofL_list]; exact tokens_print hc (within_good hw) _) (by rw [ofL_list]; omega)
  unfold parseO
  rw [h1]
  exact parse_print hc hw h2
theorem recs_back {c : Cfg} (hc : c.Ok) (hf : fewB c = true) (hw : withinB c = true) : parseRO (ofL (recordsL c)) = .ok (pcOf { c with frame := 0 }) := by
  have hc0 : ({ c with frame := 0 } : Cfg).Ok := ⟨by show 0 < _; omega, hc.parts, hc.wins, hc.regs, hc.ports, hc.chans⟩
  have hw0 : withinB { c with frame := 0 } = true := hw
  obtain ⟨l, h1, h2⟩ := out_of (ofL (recordsL c)) ((linesU { c with frame := 0 }).flatten ++ [(0, [], 0)]) (((linesU { c with frame := 0 }).flatten).length + ((recordsL c).length + 1)) (by rw [ofL_size]; have := recs_size hc hf hw; omega) (by rw [ofL_list]; exact tokens_records hc0 (within_good hw0) _) (by rw [ofL_list]; omega)
  unfold parseRO
  rw [h1]
  exact parse_recs hc0 hw0 h2 rfl
/-! ### Configurations that read alike -/
theorem eqC_of {a b : Cfg} (h : pcOf a = pcOf b) : eqC a b :=
  ⟨congrArg PC.frame h, congrArg PC.parts h, congrArg PC.wins h, congrArg PC.regs h, congrArg PC.ports h, congrArg PC.chans h⟩
theorem fit_alike {a b : Cfg} (h : pcOf a = pcOf b) (hb : FitC b) : FitC a := by
  obtain ⟨h0, h1, h2, h3, h4, h5⟩ := eqC_of h
  have hch : ∀ x ∈ a.chans.l, ∃ y ∈ b.chans.l, chanK y = chanK x := fun x hx => by
    have hm : chanK x ∈ b.chans.l.map chanK := by rw [← h5]; exact List.mem_map_of_mem hx
    obtain ⟨y, hy, e⟩ := List.mem_map.1 hm
    exact ⟨y, hy, e⟩
  have hn : a.chans.l.length = b.chans.l.length := by have := congrArg List.length h5; simpa using this
  refine ⟨⟨by rw [h0]; exact hb.ok.frame, by rw [h1]; exact hb.ok.parts, by rw [h2]; exact hb.ok.wins, by rw [h3]; exact hb.ok.regs, by rw [h4]; exact hb.ok.ports, fun x hx => ?_⟩, by rw [h1]; exact hb.parts, by rw [h2]; exact hb.wins, by rw [h3]; exact hb.regs, by rw [h4]; exact hb.ports, by rw [hn]; exact hb.chans, by rw [h1]; exact hb.pn, by rw [h4]; exact hb.qn, fun x hx => ?_⟩
  · obtain ⟨y, hy, e⟩ := hch x hx
    have hy2 := hb.ok.chans y hy
    unfold chanK at e
    injection e with e1 e2
    injection e2 with e2 e3
    unfold ChanR.Ok at hy2 ⊢
    rw [← e1, ← e2, ← e3]
    exact hy2
  · obtain ⟨y, hy, e⟩ := hch x hx
    have hy2 := hb.dn y hy
    unfold chanK at e
    injection e with e1 e2
    injection e2 with e2 e3
    rw [← e3]
    exact hy2
end Go.Proofs.YtcnihmlmaigkdaaGreatDoor
