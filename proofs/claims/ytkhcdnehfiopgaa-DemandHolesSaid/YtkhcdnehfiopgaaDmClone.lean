/- slices.Clone and slices.DeleteFunc at windows (chapter 16). -/
import Derived.Test.YtkhcdnehfiopgaaDmOwn
import Derived.Test.YtkhcdnehfiopgaaAppAny
import Derived.Test.YtkhcdnehfiopgaaWvA
import Derived.Test.YtkhcdnehfiopgaaShelf
import Derived.WalkSpells
import Derived.Lib.SliceRun
import Derived.Deep.DeepMust
namespace Go.Proofs.Ytkhcdnehfiopgaa
open Go.RowKit Go.Sort Go.Shelf
set_option linter.unusedVariables false

theorem own_cap2 {w : World} {base n c : Nat} {e : TypeId} {size : Nat} {A : Option Addr} {xs : List Value} (h : w.ownsRow base e size (.slice A n c) n xs) : n ≤ c := by
  rcases h.2 with ⟨_, h0⟩ | ⟨g, cap, cur, hv, _, _, h1, _⟩
  · omega
  · injection hv with _ _ e3
    omega
theorem own_zero2 (w : World) (base : Nat) (e : TypeId) (size : Nat) (hb : base ≤ w.heap.size) : (w.alloc (.cells #[] e)).ownsRow base e size (.slice (some ⟨w.heap.size, 0, none⟩) 0 0) 0 [] :=
  ⟨by simp, .inr ⟨w.heap.size, 0, #[], rfl, hb, Blk.new w e #[], Nat.le_refl _, Nat.zero_le _, by simp, by simp⟩⟩
theorem winL_one2 (L : List WinR) : ∀ u ∈ L.flatMap winL, u.oneCell' = true := by
  intro u hu
  obtain ⟨x, _, hx⟩ := List.mem_flatMap.1 hu
  exact wn_one x u hx
set_option maxRecDepth 100000 in
set_option maxHeartbeats 2000000 in
theorem Clone_calls (r : Row WinR) (w : World) (h : RowAt winL 3 w.heap.size r w) (hl : r.l.length ≤ 1048576) :
    Calls Try.prog 45 #[.slice r.a r.l.length r.c] w (WinsV r.l w) := by
  obtain ⟨n, hn⟩ : ∃ n, n = r.l.length := ⟨_, rfl⟩
  have HN := hide hn
  rw [← hn] at hl ⊢
  obtain ⟨i0, hi, hz0, hz1, hz2⟩ := info_parts win_info3
  have HII := hide hi
  rcases ha : r.a with _ | ad
  · have hr0 : r.l = [] := by
      rcases Nat.eq_zero_or_pos r.l.length with h0 | h0
      · exact List.eq_nil_of_length_eq_zero h0
      · obtain ⟨ad, h1, _⟩ := h.1.2 h0
        rw [ha] at h1; cases h1
    obtain rfl : n = 0 := by rw [hn, hr0]; rfl
    have hq := fun W => Lib.run_eql_slice_nil (P := Try.prog) W 24 49 none 0 r.c 0 0 Try.underlying24
    have HR := hide hr0
    clear h hl hn ha hr0 hi
    go_enter Try.func45, Try.ntmps45
    go_wp2
    go_ret
    rw [HR.out]
    exact ⟨none, 0, rfl, World.ownsRow_nil _ _ _ _, Below.refl _ _⟩
  · have hq := fun W => Lib.run_eql_slice_nil (P := Try.prog) W 24 49 (some ad) n r.c 0 0 Try.underlying24
    simp only [Option.isNone_some] at hq
    have HZ := hide (own_zero2 w w.heap.size 49 3 (Nat.le_refl _))
    have HR := hide (fun W (hW : Below w.heap.size w W) => (h.1.below hW))
    rw [← hn, ha] at HR
    have HL := hide hl
    clear h hl hn ha hi
    go_enter Try.func45, Try.ntmps45
    go_wp2_with (at_builtin; go_must (refine wpList_append_any _ rfl (.tmp 5) (.tmp 6) 24 rfl w.heap.size 49 i0 _ 3 24 Try.underlying24 HII.out hz0 hz1 hz2 rfl (by decide) (.slice (some ⟨w.heap.size, 0, none⟩) 0 0) 0 [] rfl HZ.out w.heap.size (some ad) n r.c (r.l.flatMap winL) rfl (HR.out _ ((Below.refl _ w).alloc (Nat.le_refl _) _)) (winL_one2 _) (by have := HL.out; simp only [maxLen]; omega) (by have := HL.out; omega) (by simp) ?_); intro v' w4 hown' hg hat; rw [Nat.zero_add, List.nil_append] at hown'; obtain ⟨a4, c4, rfl⟩ := own_slice hown'; have HO4 := hide hown'; have HB4 : Hid (Below w.heap.size w w4) := hide (Below.grown ((Below.refl _ w).alloc (Nat.le_refl _) _) hg (by simp) (fun q hq2 => by injection hq2 with hq2; simp at hq2; omega)); clear hown' hg hat)
    go_ret
    exact ⟨a4, c4, by rw [← HN.out]; rfl, by rw [← HN.out]; exact HO4.out, HB4.out⟩
/-! ### The predicate -/
def pW (id : Nat) (x : WinR) : Bool := ((x.part : Int) != (id : Int))
set_option maxHeartbeats 1000000 in
theorem Del_calls (Bp id : Nat) (x : WinR) (w : World) (hc : w.cell? ⟨Bp, 0, none⟩ = some (.int .u16 (id : Int))) :
    Calls Try.prog 46 #[.agg (winL x).toArray, .pointer (some ⟨Bp, 0, none⟩)] w fun e w' => e = .returned (.bool (pW id x)) ∧ Below w.heap.size w w' := by
  obtain ⟨st, len, part⟩ := x
  have hz : Bp < w.heap.size := cell_lt hc
  show Calls Try.prog 46 #[.agg #[.int .u64 (st : Int), .int .u64 (len : Int), .int .u16 (part : Int)], .pointer (some ⟨Bp, 0, none⟩)] w fun e w' => e = .returned (.bool ((part : Int) != (id : Int))) ∧ Below w.heap.size w w'
  generalize hb : ((part : Int) != (id : Int)) = b
  go_enter Try.func46, Try.ntmps46
  go_wp2
  go_ret
  exact ⟨rfl, (Below.refl _ w).alloc (Nat.le_refl _) _⟩
theorem pW_filter (id : Nat) (l : List WinR) : (l.filter fun x => !pW id x) = l.filter fun x => decide (x.part = id) := by
  congr 1
  funext x
  unfold pW
  rw [Bool.eq_iff_iff]
  simp only [bne, Bool.not_not, beq_iff_eq, decide_eq_true_eq]
  omega
/-! ### DeleteFunc -/
theorem idx_spec {p : WinR → Bool} : ∀ (l : List WinR) (i : Nat), (Lib.idxByFrom (fun _ y => p y) default l i = -1 ∧ ∀ x ∈ l, p x = false) ∨ ∃ k, ∃ hk : k < l.length, Lib.idxByFrom (fun _ y => p y) default l i = ((i + k : Nat) : Int) ∧ p l[k] = true ∧ ∀ x ∈ l.take k, p x = false
  | [], i => .inl ⟨rfl, fun x hx => (by cases hx)⟩
  | y :: r, i => by
    cases h : p y with
    | true => exact .inr ⟨0, by simp, by simp [Lib.idxByFrom, h], by simpa using h, fun x hx => (by simp at hx)⟩
    | false =>
      rcases idx_spec (p := p) r (i + 1) with ⟨e, ha⟩ | ⟨k, hk, e, ht, ha⟩
      · refine .inl ⟨by simp [Lib.idxByFrom, h, e], fun x hx => ?_⟩
        rcases List.mem_cons.1 hx with rfl | hx
        · exact h
        · exact ha x hx
      · refine .inr ⟨k + 1, by simpa using hk, by simp only [Lib.idxByFrom, h]; rw [show (if false = true then (i : Int) else Lib.idxByFrom (fun _ y => p y) default r (i + 1)) = Lib.idxByFrom (fun _ y => p y) default r (i + 1) from rfl, e]; congr 1; omega, by simpa using ht, fun x hx => ?_⟩
        rw [List.take_succ_cons] at hx
        rcases List.mem_cons.1 hx with rfl | hx
        · exact h
        · exact ha x hx
theorem run_clear_w (w : World) (b o n c : Nat) (hn : 0 < n) (ty : TypeId)
    (hc : ∀ j, j < n * 3 → (w.cell? ⟨b, o + j, none⟩).isSome = true) (hf : ∀ j, j < n * 3 → w.frozen? ⟨b, o + j, none⟩ = false) :
    ∃ vs : List Value, (Builtin.clear_ #[24] ty #[.slice (some ⟨b, o, none⟩) n c]).run Try.prog w = .ok (.tuple #[]) (w.setCells b o vs) := by
  have hv : ∀ w, (zeroValue 49).run Try.prog w = .ok (.agg #[.int .u64 0, .int .u64 0, .int .u16 0]) w := fun w => by kernel_rfl
  obtain ⟨vs, hvs⟩ : ∃ vs, vs = (Builtin.zeroCells #[.int .u64 0, .int .u64 0, .int .u16 0] n).toList := ⟨_, rfl⟩
  have hlen : vs.length = n * 3 := by rw [hvs]; simp [Builtin.zeroCells]
  have h1 : ∀ v ∈ vs, v.oneCell' = true := by
    intro v hv'
    rw [hvs] at hv'
    simp only [Builtin.zeroCells, Array.toList_map, List.mem_map, Array.mem_toList_iff, Array.mem_range] at hv'
    obtain ⟨i, _, rfl⟩ := hv'
    have h3 := Nat.mod_lt i (show 0 < (#[Value.int .u64 0, Value.int .u64 0, Value.int .u16 0] : Array Value).size by decide)
    have h4 : i % (#[Value.int .u64 0, Value.int .u64 0, Value.int .u16 0] : Array Value).size = 0 ∨ i % (#[Value.int .u64 0, Value.int .u64 0, Value.int .u16 0] : Array Value).size = 1 ∨ i % (#[Value.int .u64 0, Value.int .u64 0, Value.int .u16 0] : Array Value).size = 2 := by
      have : (#[Value.int .u64 0, Value.int .u64 0, Value.int .u16 0] : Array Value).size = 3 := rfl
      omega
    rcases h4 with h4 | h4 | h4 <;> rw [h4] <;> rfl
  have hst := run_storeCells_cells (P := Try.prog) b o vs 0 w (by rw [hlen]; simpa using hc) (by rw [hlen]; simpa using hf) h1
  simp only [Nat.add_zero] at hst
  obtain ⟨m, rfl⟩ : ∃ m, n = m + 1 := ⟨n - 1, by omega⟩
  refine ⟨vs, ?_⟩
  simp [Builtin.clear_, run_underlying Try.underlying24, hv, Value.cells, ← hvs, hst]
theorem own_at3 {w : World} {base n g c : Nat} {e : TypeId} {M : List WinR} (h : w.ownsRow base e 3 (.slice (some ⟨g, 0, none⟩) n c) n (M.flatMap winL)) (hM : M.length = n) {i : Nat} (hi : i < n) :
    w.cell? ⟨g, i * 3, none⟩ = some (.int .u64 ((M[i]'(by omega)).st : Int)) ∧ w.cell? ⟨g, i * 3 + 1, none⟩ = some (.int .u64 ((M[i]'(by omega)).len : Int)) ∧ w.cell? ⟨g, i * 3 + 2, none⟩ = some (.int .u16 ((M[i]'(by omega)).part : Int)) := by
  obtain ⟨g1, ge1, _, _, _, hci⟩ := own_cells winL_len h hM i (by omega)
  injection ge1 with ge1; injection ge1 with ge1; subst ge1
  exact ⟨hci 0 (by omega), hci 1 (by omega), hci 2 (by omega)⟩
/-- slices.IndexFunc at nil. -/
theorem Index_none (c : Nat) (fv : Value) (w : World) :
    Calls Try.prog 60 #[.slice none 0 c, fv] w fun e w' => e = .returned (.int .i64 (-1)) ∧ w = w' := by
  go_enter Try.func60, Try.ntmps60
  go_wp2
  refine wp_loop_rounds 1 ?_
  rw [rounds_succ]
  go_wp2
  go_ret
  exact ⟨rfl, rfl⟩
theorem own_frozen {w : World} {base n g c : Nat} {e : TypeId} {size : Nat} {xs : List Value} (h : w.ownsRow base e size (.slice (some ⟨g, 0, none⟩) n c) n xs) (j : Nat) : w.frozen? ⟨g, j, none⟩ = false := by
  rcases h.2 with ⟨h0, _⟩ | ⟨r, cap, cur, hv, hbs, hg, _⟩
  · cases h0
  · injection hv with e1 e2 e3
    injection e1 with e1
    injection e1 with e1
    subst e1
    have hg' : Blk w g e cur := hg
    exact hg'.frozen j
theorem own_some {w : World} {base n g c : Nat} {e : TypeId} {size : Nat} {xs : List Value} (h : w.ownsRow base e size (.slice (some ⟨g, 0, none⟩) n c) n xs) (j : Nat) (hj : j < c * size) : (w.cell? ⟨g, j, none⟩).isSome = true := by
  rcases h.2 with ⟨h0, _⟩ | ⟨r, cap, cur, hv, hbs, hg, h1, h2, h3, h4⟩
  · cases h0
  · injection hv with e1 e2 e3
    injection e1 with e1
    injection e1 with e1
    subst e1 e3
    have hg' : Blk w g e cur := hg
    rw [hg'.cell, Array.getElem?_eq_getElem (by rw [h3]; exact hj)]
    rfl
/-- What DeleteFunc hands back. -/
def DelV (B : Nat) (L : List WinR) (w : World) (e : Ending) (w' : World) : Prop :=
  ∃ a c, e = .returned (.slice a L.length c) ∧ w'.ownsRow B 49 3 (.slice a L.length c) L.length (L.flatMap winL) ∧ Below B w w'
set_option maxRecDepth 100000 in
set_option maxHeartbeats 4000000 in
theorem Delete_calls (B Bp id : Nat) (L : List WinR) (a : Option Addr) (c : Nat) (w : World) (own : w.ownsRow B 49 3 (.slice a L.length c) L.length (L.flatMap winL)) (hp : Bp < B) (hB : B ≤ w.heap.size) (hc : w.cell? ⟨Bp, 0, none⟩ = some (.int .u16 (id : Int))) (hl : L.length ≤ 1048576) :
    Calls Try.prog 44 #[.slice a L.length c, .func (.func 46) #[] #[.pointer (some ⟨Bp, 0, none⟩)]] w (DelV B (L.filter fun x => decide (x.part = id)) w) := by
  rw [← pW_filter]
  have eF : ∀ args w, (callFunc 46 args).run Try.prog w = .ok (.enter 46 args) w := enters_of Try.func46 (by kernel_rfl) rfl
  have HD := hide (fun x W (hb : Below B w W) => Del_calls Bp id x W ((hb.cell (p := ⟨Bp, 0, none⟩) hp).trans hc))
  rcases own.2 with ⟨h0, h1⟩ | ⟨g, cap, cur, hv, hbs, hg, h1, h2, h3, h4⟩
  · have hL : L = [] := List.eq_nil_of_length_eq_zero h1
    subst hL
    injection h0 with e1 e2 e3
    subst e1 e3
    have HI := hide (fun fv W => Index_none 0 fv W)
    have HO := hide own
    clear own hp hB hc hl HD eF
    simp only [List.length_nil] at *
    go_enter Try.func44, Try.ntmps44
    go_wp2_with (go_at_call 60; refine (HI.out _ _).mono ?_; rintro e w1 ⟨rfl, rfl⟩)
    go_ret
    exact ⟨none, 0, rfl, HO.out, Below.refl _ _⟩
  · injection hv with e1 e2 e3
    subst e1 e3
    have hlt := own_lt own
    obtain ⟨n, hn⟩ : ∃ n, n = L.length := ⟨_, rfl⟩
    have hsp := idx_spec (p := pW id) L 0
    have hidx := AnyQ.slices_IndexFunc Try.idxW 3 Try.isAgg49 Try.sizeOf49 winL winL_len (pW id) 46 #[.pointer (some ⟨Bp, 0, none⟩)] eF g 0 L.length c L w
      (fun W x hb => (HD.out x W (hb.mono hB)).mono fun e w' ⟨he, hb2⟩ => ⟨he, hb.trans (hb2.mono hb.size)⟩) (Nat.le_refl _) (by omega) hlt.2.1 (by
        intro j hj i v hv
        obtain ⟨g2, e1, _, _, _, hcl⟩ := own_cells winL_len own rfl j hj
        injection e1 with e1
        injection e1 with e1
        subst e1
        have hi : i < 3 := by have := (List.getElem?_eq_some_iff.1 hv).1; rw [winL_len] at this; exact this
        rw [Nat.zero_add, hcl i hi, getElem!_pos L j hj] at *
        exact hv)
    change Calls Try.prog 60 _ _ _ at hidx
    rw [List.take_of_length_le (Nat.le_refl _)] at hidx
    unfold Lib.idxBy at hidx
    have HO := hide own
    have HN := hide hn
    have hcI : (n : Int) ≤ (c : Int) := by omega
    have hnI : (n : Int) ≤ 1048576 := by omega
    have HBB := hide hB
    have HGB := hide hlt
    rw [← hn] at hidx ⊢ HO
    rcases hsp with ⟨e1, hall⟩ | ⟨k0, hk0, e1, ht, hall⟩
    · rw [e1] at hidx
      have hself : (L.filter fun x => !pW id x) = L := List.filter_eq_self.2 (fun x hx => by simp [hall x hx])
      rw [hself]
      have HI := hide hidx
      clear hidx own hp hB hc hl HD eF e1 hall hself hlt hn hbs hg h1 h2 h3 h4
      go_enter Try.func44, Try.ntmps44
      go_wp2_with (go_at_call 60; refine HI.out.mono ?_; rintro e w1 ⟨rfl, hb⟩; have HB1 := hide hb; clear hb)
      go_ret
      exact ⟨_, c, by rw [← HN.out]; rfl, by rw [← HN.out]; exact own_below HO.out HB1.out, HB1.out.mono HBB.out⟩
    · rw [e1, Nat.zero_add] at hidx
      have HI := hide hidx
      have hk0n : k0 < n := by omega
      have HS := hide (DelI.start hk0 hall ht)
      have hne1 : ((k0 : Int) == -1) = false := beq_eq_false_iff_ne.2 (by omega)
      have HRN := hide (fun W i m (hm : 0 < m) ty => run_clear_w W g i m (c - (n - m)) hm ty)
      have HP := hide hp
      clear hidx own hp hB hc hl e1 hall ht hlt hn hbs hg h1 h2 h3 h4
      go_enter Try.func44, Try.ntmps44
      go_wp2_with (go_at_call 60; refine HI.out.mono ?_; rintro e w1 ⟨rfl, hb⟩; have HB1 := hide hb; clear hb)
      go_loopw [5, 6] (fun s5 s6 wr => ∃ (i j : Nat) (M : List WinR), s5 = .int .i64 (i : Int) ∧ s6 = .int .i64 (j : Int) ∧ j ≤ n ∧ Hid (DelI (pW id) L M i j ∧ wr.ownsRow B 49 3 (.slice (some ⟨g, 0, none⟩) n c) n (M.flatMap winL) ∧ Below B w wr)) (fun _ s6 _ => n - (intOf s6).toNat)
      case atStart => exact ⟨k0, k0 + 1, L, rfl, by go_num, by omega, hide ⟨HS.out, own_below HO.out HB1.out, HB1.out.mono HBB.out⟩⟩
      case round =>
        obtain ⟨i, j, M, rfl, rfl, hj, hrel⟩ := hrel
        by_cases hlt : j < n
        · have hltI : (j : Int) < (n : Int) := by omega
          have hjL : j < L.length := by have := HN.out; omega
          obtain ⟨hjM, hMj⟩ := hrel.out.1.get hjL
          have hij := hrel.out.1.lt
          have hlen := hrel.out.1.len
          have hMn : M.length = n := by have := HN.out; omega
          obtain ⟨g1, ge1, _, _, gz, hcj⟩ := own_cells winL_len hrel.out.2.1 hMn j hjM
          injection ge1 with ge1; injection ge1 with ge1; subst ge1
          obtain ⟨g1, ge1, _, _, _, hci⟩ := own_cells winL_len hrel.out.2.1 hMn i (by omega)
          injection ge1 with ge1; injection ge1 with ge1; subst ge1
          rw [hMj] at hcj
          have HSK := hide (fun hpp => hrel.out.1.skip hjL hpp)
          have HKP := hide (fun hpp => hrel.out.1.keep hjL hpp)
          obtain ⟨y, hy⟩ : ∃ y, y = L[j] := ⟨_, rfl⟩
          rw [← hy] at hcj HSK HKP
          obtain ⟨st, len, part⟩ := y
          have x0 : wr.cell? ⟨g, j * 3, none⟩ = some (.int .u64 (st : Int)) := hcj 0 (by omega)
          have x1 : wr.cell? ⟨g, j * 3 + 1, none⟩ = some (.int .u64 (len : Int)) := hcj 1 (by omega)
          have x2 : wr.cell? ⟨g, j * 3 + 2, none⟩ = some (.int .u16 (part : Int)) := hcj 2 (by omega)
          have hD := HD.out ⟨st, len, part⟩ (wr.alloc (.cells #[.int .u64 (st : Int), .int .u64 (len : Int), .int .u16 (part : Int)] 49)) (hrel.out.2.2.alloc (by have := hrel.out.2.2.size; have := HBB.out; omega) _)
          have HDD : Hid (Calls Try.prog 46 #[.agg #[.int .u64 (st : Int), .int .u64 (len : Int), .int .u16 (part : Int)], .pointer (some ⟨Bp, 0, none⟩)] (wr.alloc (.cells #[.int .u64 (st : Int), .int .u64 (len : Int), .int .u16 (part : Int)] 49)) fun e w' => e = .returned (.bool (pW id ⟨st, len, part⟩)) ∧ Below (wr.alloc (.cells #[.int .u64 (st : Int), .int .u64 (len : Int), .int .u16 (part : Int)] 49)).heap.size (wr.alloc (.cells #[.int .u64 (st : Int), .int .u64 (len : Int), .int .u16 (part : Int)] 49)) w') := hide hD
          have HW := hide (Blk.new wr 49 #[.int .u64 (st : Int), .int .u64 (len : Int), .int .u16 (part : Int)])
          have HR := hide hrel.out
          have HMN := hide hMn
          have HIJ := hide hij
          have hinn : i < n := by omega
          have hinI : (i : Int) < (n : Int) := by omega
          clear hrel hlen hcj hci hD hy hMj hMn hjM hij
          cases hq : pW id ⟨st, len, part⟩ with
          | true =>
            rw [hq] at HDD HSK
            have HQ := hide (HSK.out rfl)
            clear hq HSK HKP
            go_wp2_with (go_at_call 46; refine HDD.out.mono ?_; rintro e w2 ⟨rfl, hb⟩; have HB2 := hide hb; clear hb)
            go_roundw
            case rel => exact ⟨i, j + 1, M, rfl, by go_num, by omega, hide ⟨HQ.out, own_below (HR.out.2.1.alloc _) HB2.out, (HR.out.2.2.alloc (by have := HR.out.2.2.size; have := HBB.out; omega) _).trans (HB2.out.mono (by have := HR.out.2.2.size; have := HBB.out; simp; omega))⟩⟩
            case measure => simp [intOf]; omega
          | false =>
            rw [hq] at HDD HKP
            have HQ := hide (HKP.out rfl)
            clear hq HSK HKP
            go_wp2_with (go_at_call 46; refine HDD.out.mono ?_; rintro e w2 ⟨rfl, hb⟩; have HB2 := hide hb; have HO2 := hide (own_below (HR.out.2.1.alloc _) hb); have HW2 := hide (HW.out.below hb HW.out.lt); obtain ⟨y0, y1, y2⟩ := own_at3 HO2.out HMN.out (by have := HIJ.out; omega : i < n); have f0 := own_frozen HO2.out (i * 3); have f1 := own_frozen HO2.out (i * 3 + 1); have f2 := own_frozen HO2.out (i * 3 + 2); have b0 : w2.cell? ⟨wr.heap.size, 0, none⟩ = some (.int .u64 (st : Int)) := HW2.out.cell 0; have b1 : w2.cell? ⟨wr.heap.size, 1, none⟩ = some (.int .u64 (len : Int)) := HW2.out.cell 1; have b2 : w2.cell? ⟨wr.heap.size, 2, none⟩ = some (.int .u16 (part : Int)) := HW2.out.cell 2; clear hb)
            have HO3 := hide (own_setW HO2.out HMN.out (show i < n by have := HIJ.out; omega) ⟨st, len, part⟩)
            go_roundw
            case rel => exact ⟨i + 1, j + 1, M.set i ⟨st, len, part⟩, by go_num, by go_num, by omega, hide ⟨HQ.out, HO3.out, ((((HR.out.2.2.alloc (by have := HR.out.2.2.size; have := HBB.out; omega) _).trans (HB2.out.mono (by have := HR.out.2.2.size; have := HBB.out; simp; omega))).setCell (p := ⟨g, i * 3, none⟩) HGB.out.1 _).setCell (p := ⟨g, i * 3 + 1, none⟩) HGB.out.1 _).setCell (p := ⟨g, i * 3 + 2, none⟩) HGB.out.1 _⟩⟩
            case measure => simp [intOf]; omega
        · have hjn : j = n := by omega
          subst hjn
          have hin : i < j := hrel.out.1.lt
          have hMn : M.length = j := by have := hrel.out.1.len; have := HN.out; omega
          have HE := hide hrel.out
          have hfz : ∀ q, q < (j - i) * 3 → wr.frozen? ⟨g, i * 3 + q, none⟩ = false := fun q _ => own_frozen HE.out.2.1 _
          have hcz : ∀ q, q < (j - i) * 3 → (wr.cell? ⟨g, i * 3 + q, none⟩).isSome = true := fun q hq => own_some HE.out.2.1 _ (by have : (i + (j - i)) * 3 ≤ c * 3 := Nat.mul_le_mul_right _ (by omega); omega)
          obtain ⟨vs, hvs⟩ := run_clear_w wr g (i * 3) (j - i) (c - i) (by omega) 0 hcz hfz
          have HCL := hide (own_cutW HE.out.2.1 hMn (Nat.le_of_lt hin) vs)
          have HBC := hide ((but_setCells g vs (i * 3) wr).below (B := B) (by have := HE.out.2.2.size; have := HBB.out; omega) (fun k hk e => by have := HGB.out.1; omega))
          clear hrel hlt hj hMn hfz hcz
          have hlow : M.take i = L.filter (fun x => !pW id x) := by
            have := HE.out.1.low
            have htl : L.take j = L := List.take_of_length_le (by rw [HN.out]; exact Nat.le_refl _)
            rw [htl] at this
            exact this
          have hfl : (L.filter fun x => !pW id x).length = i := by rw [← hlow, List.length_take, HE.out.1.len, ← HN.out]; omega
          have HLW := hide hlow
          have HFL := hide hfl
          clear hlow hfl
          go_wp2
          go_ret
          refine ⟨some ⟨g, 0, none⟩, c, by rw [HFL.out]; rfl, ?_, HE.out.2.2.trans HBC.out⟩
          rw [HFL.out, ← HLW.out]
          exact HCL.out
end Go.Proofs.Ytkhcdnehfiopgaa
