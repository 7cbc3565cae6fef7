/- demand: Load (chapter 16). -/
import Derived.Test.YtkhcdnehfiopgaaDmCheck
import Derived.Test.YtkhcdnehfiopgaaNuRefAdd
import Derived.Test.YtkhcdnehfiopgaaNuRefMul
namespace Go.Proofs.Ytkhcdnehfiopgaa
open Go.RowKit Go.Sort
set_option linter.unusedVariables false

/-- The totals of all partitions. -/
def allT (F : Nat) : List PartR → Option (List Nat)
  | [] => some []
  | x :: l => match totO F x with
    | none => none
    | some m => (allT F l).map (m :: ·)
theorem allT_snoc {F : Nat} {x : PartR} {m : Nat} (hm : totO F x = some m) : ∀ {l : List PartR} {L : List Nat}, allT F l = some L → allT F (l ++ [x]) = some (L ++ [m])
  | [], L, h => by
    injection h with h
    subst h
    simp [allT, hm]
  | y :: l, L, h => by
    rw [allT] at h
    rw [List.cons_append, allT]
    cases hy : totO F y with
    | none => rw [hy] at h; cases h
    | some q =>
      rw [hy] at h
      simp only at h ⊢
      cases hl : allT F l with
      | none => rw [hl] at h; cases h
      | some M =>
        rw [hl] at h
        injection h with h
        subst h
        rw [allT_snoc hm hl]; rfl
theorem allT_bad {F : Nat} {x : PartR} (hm : totO F x = none) : ∀ {l r : List PartR}, allT F (l ++ x :: r) = none
  | [], r => by rw [List.nil_append, allT, hm]
  | y :: l, r => by
    rw [List.cons_append, allT]
    cases totO F y with
    | none => rfl
    | some q => simp only; rw [allT_bad hm]; rfl
theorem allT_len {F : Nat} : ∀ {l : List PartR} {L : List Nat}, allT F l = some L → L.length = l.length
  | [], L, h => by injection h with h; subst h; rfl
  | y :: l, L, h => by
    rw [allT] at h
    cases hy : totO F y with
    | none => rw [hy] at h; cases h
    | some q =>
      rw [hy] at h
      simp only at h
      cases hl : allT F l with
      | none => rw [hl] at h; cases h
      | some M =>
        rw [hl] at h
        injection h with h
        subst h
        simp [allT_len hl]
theorem totO_lt {F : Nat} {x : PartR} {m : Nat} (h : totO F x = some m) : m < top64 := by
  unfold totO at h
  split at h
  · unfold mulL at h
    split at h
    · injection h with h; subst h; decide
    · have hfo : ∀ (l : List Nat) (n : Nat), n < top64 → foldO timesO n l = some m → m < top64 := by
        intro l
        induction l with
        | nil => intro n hn hh; injection hh with hh; subst hh; exact hn
        | cons y l ih =>
          intro n hn hh
          rw [foldO] at hh
          cases ht : timesO n y with
          | none => rw [ht] at hh; cases hh
          | some q => rw [ht] at hh; exact ih q (timesO_lt ht) hh
      exact hfo _ _ (by decide) h
  · cases h
theorem allT_lt {F : Nat} : ∀ {l : List PartR} {L : List Nat}, allT F l = some L → ∀ m ∈ L, m < top64
  | [], L, h => by injection h with h; subst h; intro m hm; cases hm
  | y :: l, L, h => by
    rw [allT] at h
    cases hy : totO F y with
    | none => rw [hy] at h; cases h
    | some q =>
      rw [hy] at h
      simp only at h
      cases hl : allT F l with
      | none => rw [hl] at h; cases h
      | some M =>
        rw [hl] at h
        injection h with h
        subst h
        intro m hm
        rcases List.mem_cons.1 hm with rfl | hm
        · exact totO_lt hy
        · exact allT_lt hl m hm
def loadR (c : Cfg) : Option Nat := match allT c.frame c.parts.l with
  | none => none
  | some L => foldO plusO 0 L
theorem loadR_bad {c : Cfg} {k : Nat} (hk : k < c.parts.l.length) (hm : totO c.frame c.parts.l[k] = none) : loadR c = none := by
  unfold loadR
  have e : c.parts.l = c.parts.l.take k ++ c.parts.l[k] :: c.parts.l.drop (k + 1) := by rw [← List.drop_eq_getElem_cons hk, List.take_append_drop]
  generalize c.parts.l[k] = x at *
  rw [e, allT_bad hm]
theorem u64_info3 : (Try.prog.info? 22).map (fun i => (i.zero, i.size, i.bytes)) = some (some (.int .u64 0), 1, 8) := by kernel_rfl
theorem reads_one (w : World) (n : Nat) (t : TypeId) : Reads (w.alloc (.cells #[.int .u64 (n : Int)] t)) (w.heap.size + 1) 1 (some ⟨w.heap.size, 0, none⟩) 1 [U64 n] :=
  ⟨rfl, fun _ => ⟨_, rfl, Nat.lt_succ_self _, fun j u hu => by
    have hB := Blk.new w t #[.int .u64 (n : Int)]
    rw [addr_plain, Nat.zero_add, hB.cell, ← Array.getElem?_toList]
    exact hu⟩⟩
theorem boxed1_grown {w W W' : World} {c : Cfg} {e : TypeId} {size n : Nat} {v : Value} {xs : List Value} (h : Boxed1 w c W) (ho : W.ownsRow (w.heap.size + 1) e size v n xs) (hg : W.grownBy W' v.ownBlock) : Boxed1 w c W' :=
  ⟨Below.grown h.1 hg h.1.size (fun r hr => by have := own_block ho r hr; omega), Blk.grown h.2 hg (fun e => by have := own_block ho _ e.symm; omega)⟩
theorem one_u64 (n : Nat) : ∀ u ∈ [U64 n], u.oneCell' = true := by
  intro u hu
  rw [List.mem_singleton] at hu
  subst hu; rfl
set_option maxRecDepth 100000 in
set_option maxHeartbeats 8000000 in
theorem DLoad_calls (c : Cfg) (w : World) (h : CfgAt w.heap.size c w) (hok : c.Ok) (hsm : c.Small) :
    Calls Try.prog 23 #[cfgV c] w (FoldV (loadR c) w) := by
  have hB0 := Boxed1.start w c
  have hcap := h.parts.2
  have HCF := hide (fun W (hW : Boxed1 w c W) => hW.cfg h)
  have HOF := hide (fun x W (hW : Boxed1 w c W) => Of_calls c x W (hW.cfg h) hsm)
  have HTO := hide (fun (x : PartR) (hx : x.Ok) r W => total_calls x c.frame r W hx hok.frame)
  obtain ⟨R, hR⟩ : ∃ R, R = loadR c := ⟨_, rfl⟩
  rw [← hR]
  have HR := hide hR
  have HOP := hide hok.parts
  obtain ⟨n, hn⟩ : ∃ n, n = c.parts.l.length := ⟨_, rfl⟩
  obtain ⟨pa, hpa⟩ : ∃ a, a = c.parts.a := ⟨_, rfl⟩
  have hnI : (n : Int) ≤ 1048576 := by unfold Cfg.Small at hsm; omega
  have hcI : (n : Int) ≤ (c.parts.c : Int) := by omega
  have HN := hide hn
  have HPA := hide hpa
  have HBC := hide (fun W (hW : Boxed1 w c W) => hW.cells)
  obtain ⟨i0, hi, hz0, hz1, hz2⟩ := info_parts u64_info3
  have HII := hide hi
  unfold cfgV at HOF ⊢
  unfold cfgC at hB0
  rw [← hn, ← hpa] at HBC hB0 HOF ⊢
  have HB0 := hide hB0
  clear h hok hsm hcap hR hn hB0 hpa hi
  go_enter Try.func23, Try.ntmps23
  obtain ⟨b0, b1, b2, b3, b4, b5⟩ := HBC.out _ HB0.out
  go_wp2
  clear b0 b1 b2 b3 b4 b5
  generalize w.alloc (.cells #[.int .u64 (c.frame : Int), .slice pa n c.parts.c, .slice c.wins.a c.wins.l.length c.wins.c, .slice c.regs.a c.regs.l.length c.regs.c, .slice c.ports.a c.ports.l.length c.ports.c, .slice c.chans.a c.chans.l.length c.chans.c] 29) = W0 at *
  go_loopw [4, 12] (fun o v wr => ∃ (k : Nat) (a : Option Addr) (cc : Nat) (L : List Nat), k ≤ n ∧ v = .int .i64 (k : Int) ∧ o = .slice a k cc ∧ Hid (Boxed1 w c wr ∧ wr.ownsRow (w.heap.size + 1) 22 1 (.slice a k cc) k (L.map U64) ∧ allT c.frame (c.parts.l.take k) = some L)) (fun _ v _ => n - (intOf v).toNat)
  case atStart => exact ⟨0, none, 0, [], Nat.zero_le _, rfl, rfl, hide ⟨HB0.out, World.ownsRow_nil _ _ _ _, rfl⟩⟩
  case round =>
    obtain ⟨k, a, cc, L, hk, rfl, rfl, hrel⟩ := hrel
    by_cases hlt : k < n
    · have hlt2 : (k : Int) < (n : Int) := by omega
      have hkl : k < c.parts.l.length := by have := HN.out; omega
      obtain ⟨b, o, ha, hab, x0, x1, x2, x3⟩ := part_at (HCF.out wr hrel.out.1).parts k hkl
      obtain rfl : pa = some ⟨b, o, none⟩ := HPA.out.trans ha
      have hxo := HOP.out c.parts.l[k] (List.getElem_mem _)
      have htk : c.parts.l.take (k + 1) = c.parts.l.take k ++ [c.parts.l[k]] := List.take_succ_eq_append_getElem hkl
      have HBAD := hide (fun h => (HR.out.trans (loadR_bad hkl h)))
      have hbz : b < wr.heap.size := cell_lt x0
      have HHA := hide ha
      obtain ⟨b0, b1, b2, b3, b4, b5⟩ := HBC.out wr hrel.out.1
      have hz0' : w.heap.size < wr.heap.size := hrel.out.1.2.lt
      obtain ⟨x, hx⟩ : ∃ x, x = c.parts.l[k] := ⟨_, rfl⟩
      rw [← hx] at x0 x1 x2 x3 hxo HBAD htk
      have HSN := hide (fun m (hm : totO c.frame x = some m) => (by rw [htk]; exact allT_snoc hm hrel.out.2.2 : allT c.frame (c.parts.l.take (k + 1)) = some (L ++ [m])))
      have HOFX := hide (fun W hW => HOF.out x W hW)
      have HTOX := hide (fun r W => HTO.out x hxo r W)
      have HX1 : Hid (Boxed1 w c (wr.alloc (.cells (partC x) 40))) := hide (hrel.out.1.alloc _)
      have HO1 := hide (hrel.out.2.1.alloc (.cells (partC x) 40))
      obtain ⟨q, hq⟩ : ∃ q, q = totO c.frame x := ⟨_, rfl⟩
      rw [← hq] at HBAD HSN HTOX
      obtain ⟨id, nm, per, dur⟩ := x
      unfold partC at HOFX HX1 HO1
      unfold pwC at HTOX
      simp only at HOFX HX1 HTOX HO1 x0 x1 x2 x3
      clear ha hab hrel hxo hx hq htk
      cases q with
      | none =>
        have HE := hide (HBAD.out rfl)
        go_wp2_with (first
          | (go_at_call 29; refine (HOFX.out _ HX1.out).mono ?_; rintro e w2 ⟨r, rfl, hol, hrow, hb⟩; have HX2 := hide (HX1.out.below hb); unfold pwC; clear hol hrow hb b0 b1 b2 b3 b4 b5 x0 x1 x2 x3)
          | (go_at_call 37; refine (HTOX.out _ _).mono ?_; rintro e w3 ⟨rfl, hb⟩; have HX3 := hide (HX2.out.below hb); unfold optV; clear hb))
        go_ret2
        exact ⟨by rw [HE.out]; rfl, HX3.out.1⟩
      | some m =>
        have HS := hide (HSN.out m rfl)
        clear HBAD HSN
        go_wp2_with (first
          | (go_at_call 29; refine (HOFX.out _ HX1.out).mono ?_; rintro e w2 ⟨r, rfl, hol, hrow, hb⟩; have HX2 := hide (HX1.out.below hb); have HO2 := hide (own_below HO1.out hb); unfold pwC; clear hol hrow hb b0 b1 b2 b3 b4 b5 x0 x1 x2 x3)
          | (go_at_call 37; refine (HTOX.out _ _).mono ?_; rintro e w3 ⟨rfl, hb⟩; have HX3 := hide (HX2.out.below hb); have HO3 := hide (own_below HO2.out hb); unfold optV; clear hb)
          | (at_builtin; go_must (refine wpList_append_any _ rfl (.tmp 25) (.tmp 27) 47 rfl (w.heap.size + 1) 22 i0 _ 1 8 Try.underlying47 HII.out hz0 hz1 hz2 rfl (by decide) (.slice a k cc) k (L.map U64) rfl (HO3.out.alloc _) (w3.heap.size + 1) (some ⟨w3.heap.size, 0, none⟩) 1 1 [U64 m] rfl (reads_one w3 m _) (one_u64 m) (by simp only [maxLen]; omega) (by omega) (by have := HX3.out.2.lt; simp; omega) ?_); intro v' w4 hown' hg hat; obtain ⟨a4, c4, rfl⟩ := own_slice hown'; have HO4 := hide hown'; have HX4 : Hid (Boxed1 w c w4) := hide (boxed1_grown (HX3.out.alloc _) (HO3.out.alloc _) hg); clear hown' hg hat))
        go_roundw
        case rel => exact ⟨k + 1, a4, c4, L ++ [m], by omega, by go_num, rfl, hide ⟨HX4.out, by rw [List.map_append]; exact HO4.out, HS.out⟩⟩
        case measure => simp [intOf]; omega
    · have hkn : k = n := by omega
      subst hkn
      have hall : allT c.frame c.parts.l = some L := by
        have := hrel.out.2.2
        rwa [List.take_of_length_le (by rw [HN.out]; exact Nat.le_refl _)] at this
      have hre : R = foldO plusO 0 L := by rw [HR.out]; unfold loadR; rw [hall]
      have hLl : L.length = k := by rw [allT_len hall, ← HN.out]
      have hA := Add_calls a k cc L hLl (by omega) (allT_lt hall) wr (Reads.of_own hrel.out.2.1)
      rw [← hre] at hA
      unfold FoldV at hA
      obtain ⟨m, bb, hv⟩ := optV_shape R
      rw [hv] at hA
      have HA := hide hA
      have HV := hide hv
      have HX := hide hrel.out.1
      clear hlt hk hrel hall hre hLl hA hv
      go_wp2_with (go_at_call 40; refine HA.out.mono ?_; rintro e w2 ⟨rfl, hb⟩; have HX2 := hide (HX.out.below hb); clear hb)
      go_ret2
      exact ⟨by rw [HV.out]; rfl, HX2.out.1⟩
end Go.Proofs.Ytkhcdnehfiopgaa
