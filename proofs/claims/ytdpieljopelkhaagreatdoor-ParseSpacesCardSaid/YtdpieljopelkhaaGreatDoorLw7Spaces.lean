/- ParseSpaces, the walk (chapter 07). -/
import Derived.Test.YtdpieljopelkhaaGreatDoorLw7Same
import Derived.Test.YtdpieljopelkhaaGreatDoorPaPos
import Derived.Test.YtdpieljopelkhaaGreatDoorLxJoin
namespace Go.Proofs.YtdpieljopelkhaaGreatDoor
open Go.RowKit Go.Lib
set_option linter.unusedVariables false

theorem wordB_listK (t : Token) (hv : t.kind = 3 → validL t.text = true) : (wordB t).data.toList = wordOf t.kind t.text := by
  unfold wordB wordOf
  by_cases h : t.kind = 3
  · rw [if_pos h, if_pos h]
    have hs : validS ⟨t.text.toArray⟩ = true := by unfold validS; exact hv h
    rw [quoteS_yes _ hs]
  · rw [if_neg h, if_neg h]
/-- The joined words: the library's joining is the plain one. -/
theorem join_wordsK : ∀ (L : List Token), (∀ t ∈ L, t.kind = 3 → validL t.text = true) → Lib.join ((wordsB L).map (·.data.toList)) [32] = joinT (L.map un) := by
  intro L
  induction L with
  | nil => intro _; rfl
  | cons t L ih =>
    intro h
    have h1 := wordB_listK t (h t (List.mem_cons_self ..))
    have h2 := ih (fun u hu => h u (List.mem_cons_of_mem _ hu))
    cases L with
    | nil =>
      show Lib.join [(wordB t).data.toList] [32] = wordOf t.kind t.text
      rw [Lib.join_one, h1]
    | cons u R =>
      show Lib.join ((wordB t).data.toList :: (wordB u).data.toList :: (wordsB R).map (·.data.toList)) [32] = wordOf t.kind t.text ++ 32 :: joinT (un u :: R.map un)
      have h3 : joinT (un u :: R.map un) = Lib.join ((wordB u).data.toList :: (wordsB R).map (·.data.toList)) [32] := h2.symm
      rw [h3, ← h1]
      simp [Lib.join, List.intercalate, List.intersperse]
theorem cut_len5 (a : ByteArray) : (a.extract 0 (min (a.size : Int) 5000).toNat).size ≤ 5000 := by
  rw [ByteArray.size_extract]
  omega
theorem cut_all5 (a : ByteArray) (h : a.size ≤ 5000) : a.extract 0 (min (a.size : Int) 5000).toNat = a := by
  rw [show (min (a.size : Int) 5000).toNat = a.size by omega]
  apply ByteArray.ext
  apply Array.toList_inj.1
  rw [extract_piece a 0 a.size]
  unfold piece
  rw [List.drop_zero, Nat.sub_zero, List.take_of_length_le (by rw [← Lib.size_eq]; exact Nat.le_refl _)]
/-- ParseSpaces: the joined tokens of a text denote what the text denotes. -/
theorem spaces_law {x : ByteArray} {pc : PC} (hx : x.size ≤ 5000) (h : parseO x = .ok pc) : ∃ L, outOf x = .ok L ∧ L.length ≤ 20000 ∧ (Lib.join ((wordsB L).map (·.data.toList)) [32]).length ≤ 20000 ∧ parseO ⟨(Lib.join ((wordsB L).map (·.data.toList)) [32]).toArray⟩ = .ok pc := by
  unfold parseO at h
  cases ho : outOf x with
  | bad c i j => rw [ho] at h; cases h
  | ok L =>
    rw [ho] at h
    have h1 := toks_tkL x (x.size + 1) 0
    rw [(out_toks ho).2, List.drop_zero] at h1
    have hsz := Lib.size_eq x
    obtain ⟨a1, a2, a3, a4, a5⟩ := tkL_join (x.size + 1) x.data.toList (L.map un) (by omega) h1.symm
    have hw := join_wordsK L (fun t ht e => a5 (un t) (List.mem_map_of_mem ht) e)
    rw [List.length_map] at a4
    refine ⟨L, rfl, by omega, by rw [hw]; omega, ?_⟩
    rw [hw]
    obtain ⟨J, hJ⟩ : ∃ J : ByteArray, J = ⟨(joinT (L.map un)).toArray⟩ := ⟨_, rfl⟩
    have hJL : J.data.toList = joinT (L.map un) := by rw [hJ]
    have hJz := Lib.size_eq J
    rw [← hJ]
    have h2 := toks_tkL J (J.size + 1) 0
    rw [List.drop_zero, hJL, a2 (J.size + 1) (by rw [hJz, hJL, List.length_map]; exact a4)] at h2
    unfold parseO outOf
    rw [if_pos (by rw [hJz, hJL]; omega)]
    cases hoJ : toks J (J.size + 1) 0 with
    | ok L' =>
      rw [hoJ] at h2
      exact parse_like (l := L) (k := L') (Option.some.inj h2).symm h
    | bad c i j => rw [hoJ] at h2; cases h2
set_option maxRecDepth 100000 in
set_option maxHeartbeats 2000000 in
theorem ParseSpaces_calls (x : ByteArray) (w : World) (hv : Vars w) :
    Calls Tryz.prog 8 #[.string x] w fun e w' => e = .returned (.bool true) ∧ Below w.heap.size w w' := by
  have HAL := hide (fun W (hW : Vars W) => alive7_calls W hW)
  have HV := hide hv
  by_cases hx : x.size ≤ 5000
  · have HQ0 := fun W => (RParse_calls x (by omega) W).mono fun e w' h => h.uni
    have HQ : Hid (∀ W, Calls Tryz.prog 11 #[.string (x.extract 0 (min (x.size : Int) 5000).toNat)] W (RefV (pcD (parseO x)) (fD (parseO x)) W)) := hide (fun W => by rw [cut_all5 x hx]; exact HQ0 W)
    have hxI : ¬ (5000 : Int) < (x.size : Int) := by omega
    have hxd : decide ((5000 : Int) < (x.size : Int)) = false := by simp; omega
    clear HQ0
    cases ho : parseO x with
    | error f =>
      rw [ho] at HQ
      have hp := parseO_pos ho
      obtain ⟨f1, f2, f3⟩ := f
      unfold RefV at HQ
      simp only [pcD, fD] at HQ hp
      have d0 : ((f1 : Int) != 0) = true := by rw [bne_iff_ne]; omega
      clear hv hx hp ho
      go_enter Tryz.func8, Tryz.ntmps8
      go_wp2_with fail
      refine (HQ.out _).mono ?_
      rintro e w2 ⟨d, rfl, _, _, hb2⟩
      have hW := hb2.alloc hb2.size (.cells #[.int .u64 (d.frame : Int), .slice d.parts.a d.parts.l.length d.parts.c, .slice d.wins.a d.wins.l.length d.wins.c, .slice d.regs.a d.regs.l.length d.regs.c, .slice d.ports.a d.ports.l.length d.ports.c, .slice d.chans.a d.chans.l.length d.chans.c] 30)
      have HW := hide hW
      clear hb2 hW
      unfold cfgV
      go_wp2_with fail
      refine (HAL.out _ (HV.out.below HW.out)).mono ?_
      rintro e w3 ⟨rfl, hb3⟩
      go_wp2
      go_ret
      exact ⟨rfl, HW.out.trans (hb3.mono HW.out.size)⟩
    | ok pc =>
      obtain ⟨L, hoL, hln, hjl, hJ⟩ := spaces_law hx ho
      have HJO := hide hJ
      have HT0 := fun W (hW : Vars W) => Tokens_calls x W hW
      rw [hoL] at HT0
      have HT : Hid (∀ W, Vars W → Calls Tryz.prog 21 #[.string x] W fun e w' => Below W.heap.size W w' ∧ ∃ v, e = .returned (.tuple #[v, .agg #[.int .i64 0, .int .i64 0, .int .i64 0]]) ∧ w'.ownsRow W.heap.size 114 5 v L.length (tokCells L)) := hide (fun W hW => HT0 W hW)
      obtain ⟨J, hJd⟩ : ∃ J : ByteArray, J = ⟨(Lib.join ((wordsB L).map (·.data.toList)) [32]).toArray⟩ := ⟨_, rfl⟩
      have HJ : Hid (∀ A cA W bA, W.ownsRow bA 114 5 (.slice A L.length cA) L.length (tokCells L) → Calls Tryz.prog 22 #[.slice A L.length cA] W fun e w' => e = .returned (.string J) ∧ Below W.heap.size W w') := hide (fun A cA W bA hA => by
        rw [hJd]
        exact Join_calls A L.length cA L rfl (by omega) W bA hA (by omega))
      have HP : Hid (∀ W, Vars W → Calls Tryz.prog 10 #[.string J] W (ParV pc (0, 0, 0) W)) := hide (fun W hW => by
        have := (PParse_calls J W hW).mono fun e w' h => h.uni
        rw [hJd, hJ] at this
        rw [hJd]
        exact this)
      have HS := hide (fun a b W => same_calls7 (P := pc) (by have := okD_parse x; rw [ho] at this; exact this) a b W)
      rw [ho] at HQ
      unfold RefV at HQ
      unfold ParV at HP
      simp only [pcD, fD] at HQ HP
      obtain ⟨n, hn⟩ : ∃ n, n = L.length := ⟨_, rfl⟩
      rw [← hn] at HT HJ
      clear hv hx ho hoL hjl hJ HT0 hJd hln HJO hn
      go_enter Tryz.func8, Tryz.ntmps8
      go_wp2_with fail
      refine (HQ.out _).mono ?_
      rintro e w2 ⟨d, rfl, hdc, hpd, hb2⟩
      have HA3 := hide (Below.alloc (Below.refl w2.heap.size w2) (Nat.le_refl _) (.cells (cfgCs d) 30))
      have HW3 := hide (hb2.alloc hb2.size (.cells (cfgCs d) 30))
      have HBd3 := hide (Blk.new w2 30 (cfgCs d))
      have HDC3 := hide (hdc.below HA3.out)
      have HPD := hide hpd
      clear hb2 hdc hpd HA3
      unfold cfgV
      go_wp2_with fail
      refine (HT.out _ (HV.out.below HW3.out)).mono ?_
      rintro e w4 ⟨hb4, v, rfl, hov⟩
      obtain ⟨A, cA, rfl⟩ := own_slice5 hov
      have hz4 := HBd3.out.below hb4 HBd3.out.lt
      have HBd4 := hide hz4
      have hz4 : w2.heap.size < w4.heap.size := hz4.lt
      have HDC4 := hide (HDC3.out.below (hb4.mono (by simp)))
      have HW4 := hide (HW3.out.trans (hb4.mono HW3.out.size))
      have HOV := hide hov
      clear hb4 hov HBd3 HDC3 HW3
      go_wp2_with fail
      refine (HJ.out A cA _ _ (own_below HOV.out (Below.alloc (Below.refl w4.heap.size w4) (Nat.le_refl _) _))).mono ?_
      rintro e w6 ⟨rfl, hb6⟩
      have HA6 := hide ((Below.alloc (Below.refl w4.heap.size w4) (Nat.le_refl _) (.cells #[.int .i64 0, .int .i64 0, .int .i64 0] 33)).trans (hb6.mono (by simp)))
      have HBd6 := hide (HBd4.out.below HA6.out HBd4.out.lt)
      have HDC6 := hide (HDC4.out.below (HA6.out.mono (by omega)))
      have HW6 := hide (HW4.out.trans (HA6.out.mono HW4.out.size))
      have hz6 : w2.heap.size < w6.heap.size := HBd6.out.lt
      clear hb6 HA6 HBd4 HDC4 HW4 HOV hz4
      go_wp2_with fail
      refine (HP.out _ (HV.out.below HW6.out)).mono ?_
      rintro e w8 ⟨c, rfl, hoc, hpc, hb8⟩
      have HBd8 := hide (HBd6.out.below hb8 HBd6.out.lt)
      have HDC8 := hide (HDC6.out.below (hb8.mono (by omega)))
      have HW8 := hide (HW6.out.trans (hb8.mono HW6.out.size))
      have hz8 : w2.heap.size < w8.heap.size := HBd8.out.lt
      have HOC := hide hoc
      have HPC := hide hpc
      clear hb8 hoc hpc HBd6 HDC6 HW6 hz6
      unfold cfgV
      have HA9 := hide ((Below.alloc (Below.refl w8.heap.size w8) (Nat.le_refl _) (.cells (cfgCs c) 30)).alloc (by simp) (.cells #[.int .i64 0, .int .i64 0, .int .i64 0] 33))
      go_wp2_with fail
      refine (HAL.out _ (HV.out.below (HW8.out.trans (HA9.out.mono HW8.out.size)))).mono ?_
      rintro e w10 ⟨rfl, hb10⟩
      have HA10 := HA9.out.trans (hb10.mono (by simp; omega))
      have hBd := HBd8.out.below HA10 HBd8.out.lt
      have hBc := (show Blk w10 w8.heap.size 30 (cfgCs c) from ((Blk.new w8 _ _).alloc _).below hb10 (by simp; omega))
      have hBf := (show Blk w10 (w8.heap.size + 1) 33 #[.int .i64 0, .int .i64 0, .int .i64 0] from (Blk.newAt (by simp)).below hb10 (by simp))
      have HDC10 := hide (CfgAt.more (HDC8.out.below (HA10.mono (by omega))) (by have := hBd.lt; omega) : CfgAt w10.heap.size d w10)
      have HCC10 := hide (HOC.out.below HA10).at_
      have HW10 := hide (HW8.out.trans (HA10.mono HW8.out.size))
      obtain ⟨p0, p1, p2, p3, p4, p5⟩ := cfg6 hBc
      obtain ⟨q0, q1, q2, q3, q4, q5⟩ := cfg6 hBd
      obtain ⟨r0, r1, r2⟩ := flt3 hBf
      clear hb10 HA10 hBd hBc hBf HA9 HBd8 HDC8 HW8 HOC
      go_wp2_with fail
      refine (HS.out c d w10 HCC10.out HDC10.out HPC.out HPD.out).mono ?_
      rintro e w11 ⟨rfl, hb11⟩
      go_wp2
      go_ret
      exact ⟨rfl, HW10.out.trans (hb11.mono HW10.out.size)⟩
  · have hxI : (5000 : Int) < (x.size : Int) := by omega
    obtain ⟨y, hy⟩ : ∃ y, y = x.extract 0 (min (x.size : Int) 5000).toNat := ⟨_, rfl⟩
    have hys : y.size ≤ 5000 := by rw [hy]; exact cut_len5 x
    have HQ : Hid (∀ W, Calls Tryz.prog 11 #[.string (x.extract 0 (min (x.size : Int) 5000).toNat)] W (RefV (pcD (parseO y)) (fD (parseO y)) W)) := hide (fun W => by rw [← hy]; exact (RParse_calls y (by omega) W).mono fun e w' h => h.uni)
    generalize pcD (parseO y) = P at HQ
    generalize fD (parseO y) = F at HQ
    unfold RefV at HQ
    clear hv hx hy hys
    go_enter Tryz.func8, Tryz.ntmps8
    go_wp2_with fail
    refine (HQ.out _).mono ?_
    rintro e w2 ⟨d, rfl, _, _, hb2⟩
    have hW := hb2.alloc hb2.size (.cells #[.int .u64 (d.frame : Int), .slice d.parts.a d.parts.l.length d.parts.c, .slice d.wins.a d.wins.l.length d.wins.c, .slice d.regs.a d.regs.l.length d.regs.c, .slice d.ports.a d.ports.l.length d.ports.c, .slice d.chans.a d.chans.l.length d.chans.c] 30)
    have HW := hide hW
    clear hb2 hW
    unfold cfgV
    go_wp2_with fail
    refine (HAL.out _ (HV.out.below HW.out)).mono ?_
    rintro e w3 ⟨rfl, hb3⟩
    go_wp2
    go_ret
    exact ⟨rfl, HW.out.trans (hb3.mono HW.out.size)⟩
end Go.Proofs.YtdpieljopelkhaaGreatDoor
