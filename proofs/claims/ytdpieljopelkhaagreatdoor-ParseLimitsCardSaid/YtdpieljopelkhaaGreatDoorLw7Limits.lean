/- ParseLimits, the walk (chapter 07). Written by genlw7lim.py. -/
import Derived.Test.YtdpieljopelkhaaGreatDoorLw7Same
import Derived.Test.YtdpieljopelkhaaGreatDoorPaPos
import Derived.Test.YtdpieljopelkhaaGreatDoorMShBack
import Derived.Test.YtdpieljopelkhaaGreatDoorC5Chk
namespace Go.Proofs.YtdpieljopelkhaaGreatDoor
open Go.RowKit Go.Lib Go.Sort
set_option linter.unusedVariables false

theorem recN_rep : ∀ n, Lib.repeatL (⟨#[119, 105, 110, 100, 111, 119, 32, 49, 123, 115, 116, 97, 114, 116, 32, 48, 59, 108, 101, 110, 103, 116, 104, 32, 49, 59, 125, 10]⟩ : ByteArray).data.toList n = recN n
  | 0 => rfl
  | n + 1 => by
    show (⟨#[119, 105, 110, 100, 111, 119, 32, 49, 123, 115, 116, 97, 114, 116, 32, 48, 59, 108, 101, 110, 103, 116, 104, 32, 49, 59, 125, 10]⟩ : ByteArray).data.toList ++ Lib.repeatL _ n = recA.data.toList ++ 10 :: recN n
    rw [recN_rep n]
    rfl
theorem rep_text (n : Nat) (hn : n ≤ 2000) : ∃ J : ByteArray, J.data.toList = recN n ∧ ∀ W, Calls Tryz.prog 20 #[.string ⟨#[119, 105, 110, 100, 111, 119, 32, 49, 123, 115, 116, 97, 114, 116, 32, 48, 59, 108, 101, 110, 103, 116, 104, 32, 49, 59, 125, 10]⟩, .int .i64 (n : Int)] W fun e w' => e = .returned (.string J) ∧ Below W.heap.size W w' := by
  refine ⟨⟨(Lib.repeatL (⟨#[119, 105, 110, 100, 111, 119, 32, 49, 123, 115, 116, 97, 114, 116, 32, 48, 59, 108, 101, 110, 103, 116, 104, 32, 49, 59, 125, 10]⟩ : ByteArray).data.toList n).toArray⟩, ?_, fun W => Tryz.strings_Repeat ⟨#[119, 105, 110, 100, 111, 119, 32, 49, 123, 115, 116, 97, 114, 116, 32, 48, 59, 108, 101, 110, 103, 116, 104, 32, 49, 59, 125, 10]⟩ n W (by omega) ?_⟩
  · rw [← recN_rep n]
  · have : (⟨#[119, 105, 110, 100, 111, 119, 32, 49, 123, 115, 116, 97, 114, 116, 32, 48, 59, 108, 101, 110, 103, 116, 104, 32, 49, 59, 125, 10]⟩ : ByteArray).size = 28 := rfl
    rw [this]; omega
theorem lim_pc {c : Cfg} (h : LimC (pcOf c)) : LimK c := ⟨h.parts, h.wins, h.regs, h.ports, by have := h.chans; simpa [pcOf] using this, by have := h.links; rw [linksK_of] at this; exact this, h.names, h.nameq, h.rights⟩
theorem limD_parse {y : ByteArray} {pc : PC} (h : parseO y = .ok pc) : LimC pc := by
  unfold parseO at h
  cases ho : outOf y with
  | bad c i j => rw [ho] at h; cases h
  | ok l => rw [ho] at h; exact parse_lim (out_facts ho).2.2 h
set_option maxRecDepth 100000 in
set_option maxHeartbeats 4000000 in
theorem ParseLimitsEven (x : ByteArray) (k : Nat) (hk : k < 256) (hm : k % 2 = 0) (w : World) (hv : Vars w) :
    Calls Tryz.prog 7 #[.string x, .int .u8 (k : Int)] w fun e w' => e = .returned (.bool true) ∧ Below w.heap.size w w' := by
  have HAL := hide (fun W (hW : Vars W) => alive7_calls W hW)
  have HV := hide hv
  obtain ⟨J, hJ, hR⟩ := rep_text 1024 (by omega)
  have HR : Hid (∀ W, Calls Tryz.prog 20 #[.string ⟨#[119, 105, 110, 100, 111, 119, 32, 49, 123, 115, 116, 97, 114, 116, 32, 48, 59, 108, 101, 110, 103, 116, 104, 32, 49, 59, 125, 10]⟩, .int .i64 1024] W fun e w' => e = .returned (.string J) ∧ Below W.heap.size W w') := hide (fun W => hR W)
  have hRO : parseRO J = .ok { zeroPC with wins := List.replicate 1024 recW } := rep_fine 1024 J hJ (by omega)
  obtain ⟨P2, hP2⟩ : ∃ P2, P2 = pcD (parseRO J) := ⟨_, rfl⟩
  have HWN : Hid (P2.wins.length = 1024) := hide (by rw [hP2, hRO]; exact List.length_replicate)
  have hF2 : fD (parseRO J) = (0, 0, 0) := by rw [hRO]; rfl
  have HRC : Hid (∀ W, Vars W → Calls Tryz.prog 17 #[.string J] W fun e w' => ∃ c, e = .returned (.tuple #[cfgV c, .agg #[.int .i64 0, .int .i64 0, .int .i64 0]]) ∧ OwnC W.heap.size c w' ∧ pcOf c = P2 ∧ Below W.heap.size W w') := hide (fun W hW => by
    have := (PRecords_calls J W hW).mono fun e w' h => h.uni
    rw [hF2, ← hP2] at this
    exact this)
  obtain ⟨y, hy⟩ : ∃ y, y = x.extract 0 (min (x.size : Int) 5000).toNat := ⟨_, rfl⟩
  have HP0 := fun W (hW : Vars W) => (PParse_calls y W hW).mono fun e w' h => h.uni
  have hw1 : IntKind.i64.wrap (k : Int) = (k : Int) := by rw [IntKind.wrap_i64]; omega
  have hmd : ((k : Int)).tmod 2 = 0 := by
    have : ((k : Int)).tmod 2 = ((k % 2 : Nat) : Int) := rfl
    rw [this, hm]; rfl
  clear hR hJ hP2 hF2 hRO hm
  cases ho : parseO y with
  | error f =>
    have hp := parseO_pos ho
    rw [ho] at HP0
    obtain ⟨f1, f2, f3⟩ := f
    unfold ParV at HP0
    simp only [pcD, fD] at HP0 hp
    have HP : Hid (∀ W, Vars W → Calls Tryz.prog 10 #[.string (x.extract 0 (min (x.size : Int) 5000).toNat)] W fun e w' => ∃ c, e = .returned (.tuple #[cfgV c, .agg #[.int .i64 (f1 : Int), .int .i64 (f2 : Int), .int .i64 (f3 : Int)]]) ∧ OwnC W.heap.size c w' ∧ pcOf c = zeroPC ∧ Below W.heap.size W w') := hide (fun W hW => by rw [← hy]; exact HP0 W hW)
    have fe := fun W => flt_eql (f1 : Int) (f2 : Int) (f3 : Int) 0 0 0 W
    have ft : ((f1 : Int) == 0 && ((f2 : Int) == 0 && (f3 : Int) == 0)) = false := by
      have : ((f1 : Int) == 0) = false := by rw [beq_eq_false_iff_ne]; omega
      rw [this]; rfl
    rw [ft] at fe
    have fg := fun o x y xs ys W => flt_guard o x y xs ys W
    clear hv hy HP0 ho ft hp
    go_enter Tryz.func7, Tryz.ntmps7
    go_wp2_with fail
    refine (HP.out _ HV.out).mono ?_
    rintro e w2 ⟨c, rfl, _, _, hb2⟩
    have hz2 := hb2.size
    have HWA := hide ((hb2.alloc hb2.size (.cells (cfgCs c) 30)).alloc (by simp; omega) (.cells #[.int .i64 (f1 : Int), .int .i64 (f2 : Int), .int .i64 (f3 : Int)] 33))
    clear hb2
    unfold cfgV
    unfold cfgCs at HWA
    go_wp2_with fail
    refine (HR.out _).mono ?_
    rintro e wr ⟨rfl, hbr⟩
    have HWr := hide (HWA.out.trans (hbr.mono HWA.out.size))
    clear hbr
    go_wp2_with fail
    refine (HRC.out _ (HV.out.below HWr.out)).mono ?_
    rintro e wq ⟨c2, rfl, hoc2, hpc2, hbq⟩
    have hwl : c2.wins.l.length = 1024 := by have := HWN.out; rw [← hpc2] at this; exact this
    have HWq := hide (HWr.out.trans (hbq.mono HWr.out.size))
    clear hbq hoc2 hpc2
    unfold cfgV
    rw [hwl]
    have hzq := HWq.out.size
    go_wp2_with fail
    refine (HAL.out _ (HV.out.below ((HWq.out.alloc HWq.out.size _).alloc (by simp; omega) _))).mono ?_
    rintro e wz ⟨rfl, hbz⟩
    have hBc := (show Blk wz wq.heap.size 30 #[.int .u64 (c2.frame : Int), .slice c2.parts.a c2.parts.l.length c2.parts.c, .slice c2.wins.a 1024 c2.wins.c, .slice c2.regs.a c2.regs.l.length c2.regs.c, .slice c2.ports.a c2.ports.l.length c2.ports.c, .slice c2.chans.a c2.chans.l.length c2.chans.c] from ((Blk.new wq _ _).alloc _).below hbz (by simp; omega))
    have hBf := (show Blk wz (wq.heap.size + 1) 33 #[.int .i64 0, .int .i64 0, .int .i64 0] from (Blk.newAt (by simp)).below hbz (by simp))
    have HWz := hide ((HWq.out.alloc HWq.out.size (.cells #[.int .u64 (c2.frame : Int), .slice c2.parts.a c2.parts.l.length c2.parts.c, .slice c2.wins.a 1024 c2.wins.c, .slice c2.regs.a c2.regs.l.length c2.regs.c, .slice c2.ports.a c2.ports.l.length c2.ports.c, .slice c2.chans.a c2.chans.l.length c2.chans.c] 30)).alloc (by simp; omega) (.cells #[.int .i64 0, .int .i64 0, .int .i64 0] 33))
    have hbz2 := hbz.mono (show w.heap.size ≤ _ by simp; omega)
    have HWy := hide (HWz.out.trans hbz2)
    have p2 : wz.cell? ⟨wq.heap.size, 2, none⟩ = some (.slice c2.wins.a 1024 c2.wins.c) := hBc.cell 2
    have r0 : wz.cell? ⟨wq.heap.size + 1, 0, none⟩ = some (.int .i64 0) := hBf.cell 0
    have r1 : wz.cell? ⟨wq.heap.size + 1, 1, none⟩ = some (.int .i64 0) := hBf.cell 1
    have r2 : wz.cell? ⟨wq.heap.size + 1, 2, none⟩ = some (.int .i64 0) := hBf.cell 2
    clear hbz hbz2 hBc hBf HWz
    go_wp2
    go_ret
    exact ⟨rfl, HWy.out⟩
  | ok pc =>
    have hlim := limD_parse ho
    rw [ho] at HP0
    unfold ParV at HP0
    simp only [pcD, fD] at HP0
    have HP : Hid (∀ W, Vars W → Calls Tryz.prog 10 #[.string (x.extract 0 (min (x.size : Int) 5000).toNat)] W fun e w' => ∃ c, e = .returned (.tuple #[cfgV c, .agg #[.int .i64 0, .int .i64 0, .int .i64 0]]) ∧ OwnC W.heap.size c w' ∧ pcOf c = pc ∧ Below W.heap.size W w') := hide (fun W hW => by rw [← hy]; exact HP0 W hW)
    have HCK := hide (fun (c : Cfg) W (hC : CfgAt W.heap.size c W) (hpc : pcOf c = pc) => CfCheck_calls c W hC (lim_pc (by rw [hpc]; exact hlim)))
    clear hv hy HP0 ho hlim
    go_enter Tryz.func7, Tryz.ntmps7
    go_wp2_with fail
    refine (HP.out _ HV.out).mono ?_
    rintro e w2 ⟨c, rfl, hoc, hpc, hb2⟩
    have hz2 := hb2.size
    have HWA0 := hide ((hb2.alloc hb2.size (.cells (cfgCs c) 30)).alloc (by simp; omega) (.cells #[.int .i64 0, .int .i64 0, .int .i64 0] 33))
    have HOC := hide ((hoc.alloc (.cells (cfgCs c) 30)).alloc (.cells #[.int .i64 0, .int .i64 0, .int .i64 0] 33)).at_
    have HPC := hide hpc
    clear hb2 hoc hpc
    unfold cfgV
    unfold cfgCs at HWA0 HOC
    go_wp2_with fail
    refine (HCK.out c _ HOC.out HPC.out).mono ?_
    rintro e w3 ⟨rfl, hb3⟩
    have HWA := hide (HWA0.out.trans (hb3.mono HWA0.out.size))
    clear hb3
    go_wp2_with fail
    refine (HR.out _).mono ?_
    rintro e wr ⟨rfl, hbr⟩
    have HWr := hide (HWA.out.trans (hbr.mono HWA.out.size))
    clear hbr
    go_wp2_with fail
    refine (HRC.out _ (HV.out.below HWr.out)).mono ?_
    rintro e wq ⟨c2, rfl, hoc2, hpc2, hbq⟩
    have hwl : c2.wins.l.length = 1024 := by have := HWN.out; rw [← hpc2] at this; exact this
    have HWq := hide (HWr.out.trans (hbq.mono HWr.out.size))
    clear hbq hoc2 hpc2
    unfold cfgV
    rw [hwl]
    have hzq := HWq.out.size
    go_wp2_with fail
    refine (HAL.out _ (HV.out.below ((HWq.out.alloc HWq.out.size _).alloc (by simp; omega) _))).mono ?_
    rintro e wz ⟨rfl, hbz⟩
    have hBc := (show Blk wz wq.heap.size 30 #[.int .u64 (c2.frame : Int), .slice c2.parts.a c2.parts.l.length c2.parts.c, .slice c2.wins.a 1024 c2.wins.c, .slice c2.regs.a c2.regs.l.length c2.regs.c, .slice c2.ports.a c2.ports.l.length c2.ports.c, .slice c2.chans.a c2.chans.l.length c2.chans.c] from ((Blk.new wq _ _).alloc _).below hbz (by simp; omega))
    have hBf := (show Blk wz (wq.heap.size + 1) 33 #[.int .i64 0, .int .i64 0, .int .i64 0] from (Blk.newAt (by simp)).below hbz (by simp))
    have HWz := hide ((HWq.out.alloc HWq.out.size (.cells #[.int .u64 (c2.frame : Int), .slice c2.parts.a c2.parts.l.length c2.parts.c, .slice c2.wins.a 1024 c2.wins.c, .slice c2.regs.a c2.regs.l.length c2.regs.c, .slice c2.ports.a c2.ports.l.length c2.ports.c, .slice c2.chans.a c2.chans.l.length c2.chans.c] 30)).alloc (by simp; omega) (.cells #[.int .i64 0, .int .i64 0, .int .i64 0] 33))
    have hbz2 := hbz.mono (show w.heap.size ≤ _ by simp; omega)
    have HWy := hide (HWz.out.trans hbz2)
    have p2 : wz.cell? ⟨wq.heap.size, 2, none⟩ = some (.slice c2.wins.a 1024 c2.wins.c) := hBc.cell 2
    have r0 : wz.cell? ⟨wq.heap.size + 1, 0, none⟩ = some (.int .i64 0) := hBf.cell 0
    have r1 : wz.cell? ⟨wq.heap.size + 1, 1, none⟩ = some (.int .i64 0) := hBf.cell 1
    have r2 : wz.cell? ⟨wq.heap.size + 1, 2, none⟩ = some (.int .i64 0) := hBf.cell 2
    clear hbz hbz2 hBc hBf HWz
    go_wp2
    go_ret
    exact ⟨rfl, HWy.out⟩
set_option maxRecDepth 100000 in
set_option maxHeartbeats 4000000 in
theorem ParseLimitsOdd (x : ByteArray) (k : Nat) (hk : k < 256) (hm : k % 2 = 1) (w : World) (hv : Vars w) :
    Calls Tryz.prog 7 #[.string x, .int .u8 (k : Int)] w fun e w' => e = .returned (.bool true) ∧ Below w.heap.size w w' := by
  have HAL := hide (fun W (hW : Vars W) => alive7_calls W hW)
  have HV := hide hv
  obtain ⟨J, hJ, hR⟩ := rep_text 1025 (by omega)
  have HR : Hid (∀ W, Calls Tryz.prog 20 #[.string ⟨#[119, 105, 110, 100, 111, 119, 32, 49, 123, 115, 116, 97, 114, 116, 32, 48, 59, 108, 101, 110, 103, 116, 104, 32, 49, 59, 125, 10]⟩, .int .i64 1025] W fun e w' => e = .returned (.string J) ∧ Below W.heap.size W w') := hide (fun W => hR W)
  have hRO : parseRO J = .error (7, 1025, 1) := rep_over 1025 rfl J hJ
  obtain ⟨P2, hP2⟩ : ∃ P2, P2 = pcD (parseRO J) := ⟨_, rfl⟩
  have HWN : Hid (P2.wins.length = 0) := hide (by rw [hP2, hRO]; rfl)
  have hF2 : fD (parseRO J) = (7, 1025, 1) := by rw [hRO]; rfl
  have HRC : Hid (∀ W, Vars W → Calls Tryz.prog 17 #[.string J] W fun e w' => ∃ c, e = .returned (.tuple #[cfgV c, .agg #[.int .i64 7, .int .i64 1025, .int .i64 1]]) ∧ OwnC W.heap.size c w' ∧ pcOf c = P2 ∧ Below W.heap.size W w') := hide (fun W hW => by
    have := (PRecords_calls J W hW).mono fun e w' h => h.uni
    rw [hF2, ← hP2] at this
    exact this)
  obtain ⟨y, hy⟩ : ∃ y, y = x.extract 0 (min (x.size : Int) 5000).toNat := ⟨_, rfl⟩
  have HP0 := fun W (hW : Vars W) => (PParse_calls y W hW).mono fun e w' h => h.uni
  have hw1 : IntKind.i64.wrap (k : Int) = (k : Int) := by rw [IntKind.wrap_i64]; omega
  have hmd : ((k : Int)).tmod 2 = 1 := by
    have : ((k : Int)).tmod 2 = ((k % 2 : Nat) : Int) := rfl
    rw [this, hm]; rfl
  clear hR hJ hP2 hF2 hRO hm
  cases ho : parseO y with
  | error f =>
    have hp := parseO_pos ho
    rw [ho] at HP0
    obtain ⟨f1, f2, f3⟩ := f
    unfold ParV at HP0
    simp only [pcD, fD] at HP0 hp
    have HP : Hid (∀ W, Vars W → Calls Tryz.prog 10 #[.string (x.extract 0 (min (x.size : Int) 5000).toNat)] W fun e w' => ∃ c, e = .returned (.tuple #[cfgV c, .agg #[.int .i64 (f1 : Int), .int .i64 (f2 : Int), .int .i64 (f3 : Int)]]) ∧ OwnC W.heap.size c w' ∧ pcOf c = zeroPC ∧ Below W.heap.size W w') := hide (fun W hW => by rw [← hy]; exact HP0 W hW)
    have fe := fun W => flt_eql (f1 : Int) (f2 : Int) (f3 : Int) 0 0 0 W
    have ft : ((f1 : Int) == 0 && ((f2 : Int) == 0 && (f3 : Int) == 0)) = false := by
      have : ((f1 : Int) == 0) = false := by rw [beq_eq_false_iff_ne]; omega
      rw [this]; rfl
    rw [ft] at fe
    have fg := fun o x y xs ys W => flt_guard o x y xs ys W
    clear hv hy HP0 ho ft hp
    go_enter Tryz.func7, Tryz.ntmps7
    go_wp2_with fail
    refine (HP.out _ HV.out).mono ?_
    rintro e w2 ⟨c, rfl, _, _, hb2⟩
    have hz2 := hb2.size
    have HWA := hide ((hb2.alloc hb2.size (.cells (cfgCs c) 30)).alloc (by simp; omega) (.cells #[.int .i64 (f1 : Int), .int .i64 (f2 : Int), .int .i64 (f3 : Int)] 33))
    clear hb2
    unfold cfgV
    unfold cfgCs at HWA
    go_wp2_with fail
    refine (HR.out _).mono ?_
    rintro e wr ⟨rfl, hbr⟩
    have HWr := hide (HWA.out.trans (hbr.mono HWA.out.size))
    clear hbr
    go_wp2_with fail
    refine (HRC.out _ (HV.out.below HWr.out)).mono ?_
    rintro e wq ⟨c2, rfl, hoc2, hpc2, hbq⟩
    have hwl : c2.wins.l.length = 0 := by have := HWN.out; rw [← hpc2] at this; exact this
    have HWq := hide (HWr.out.trans (hbq.mono HWr.out.size))
    clear hbq hoc2 hpc2
    unfold cfgV
    rw [hwl]
    have hzq := HWq.out.size
    go_wp2_with fail
    refine (HAL.out _ (HV.out.below ((HWq.out.alloc HWq.out.size _).alloc (by simp; omega) _))).mono ?_
    rintro e wz ⟨rfl, hbz⟩
    have hBc := (show Blk wz wq.heap.size 30 #[.int .u64 (c2.frame : Int), .slice c2.parts.a c2.parts.l.length c2.parts.c, .slice c2.wins.a 0 c2.wins.c, .slice c2.regs.a c2.regs.l.length c2.regs.c, .slice c2.ports.a c2.ports.l.length c2.ports.c, .slice c2.chans.a c2.chans.l.length c2.chans.c] from ((Blk.new wq _ _).alloc _).below hbz (by simp; omega))
    have hBf := (show Blk wz (wq.heap.size + 1) 33 #[.int .i64 7, .int .i64 1025, .int .i64 1] from (Blk.newAt (by simp)).below hbz (by simp))
    have HWz := hide ((HWq.out.alloc HWq.out.size (.cells #[.int .u64 (c2.frame : Int), .slice c2.parts.a c2.parts.l.length c2.parts.c, .slice c2.wins.a 0 c2.wins.c, .slice c2.regs.a c2.regs.l.length c2.regs.c, .slice c2.ports.a c2.ports.l.length c2.ports.c, .slice c2.chans.a c2.chans.l.length c2.chans.c] 30)).alloc (by simp; omega) (.cells #[.int .i64 7, .int .i64 1025, .int .i64 1] 33))
    have hbz2 := hbz.mono (show w.heap.size ≤ _ by simp; omega)
    have HWy := hide (HWz.out.trans hbz2)
    have p2 : wz.cell? ⟨wq.heap.size, 2, none⟩ = some (.slice c2.wins.a 0 c2.wins.c) := hBc.cell 2
    have r0 : wz.cell? ⟨wq.heap.size + 1, 0, none⟩ = some (.int .i64 7) := hBf.cell 0
    have r1 : wz.cell? ⟨wq.heap.size + 1, 1, none⟩ = some (.int .i64 1025) := hBf.cell 1
    have r2 : wz.cell? ⟨wq.heap.size + 1, 2, none⟩ = some (.int .i64 1) := hBf.cell 2
    clear hbz hbz2 hBc hBf HWz
    go_wp2
    go_ret
    exact ⟨rfl, HWy.out⟩
  | ok pc =>
    have hlim := limD_parse ho
    rw [ho] at HP0
    unfold ParV at HP0
    simp only [pcD, fD] at HP0
    have HP : Hid (∀ W, Vars W → Calls Tryz.prog 10 #[.string (x.extract 0 (min (x.size : Int) 5000).toNat)] W fun e w' => ∃ c, e = .returned (.tuple #[cfgV c, .agg #[.int .i64 0, .int .i64 0, .int .i64 0]]) ∧ OwnC W.heap.size c w' ∧ pcOf c = pc ∧ Below W.heap.size W w') := hide (fun W hW => by rw [← hy]; exact HP0 W hW)
    have HCK := hide (fun (c : Cfg) W (hC : CfgAt W.heap.size c W) (hpc : pcOf c = pc) => CfCheck_calls c W hC (lim_pc (by rw [hpc]; exact hlim)))
    clear hv hy HP0 ho hlim
    go_enter Tryz.func7, Tryz.ntmps7
    go_wp2_with fail
    refine (HP.out _ HV.out).mono ?_
    rintro e w2 ⟨c, rfl, hoc, hpc, hb2⟩
    have hz2 := hb2.size
    have HWA0 := hide ((hb2.alloc hb2.size (.cells (cfgCs c) 30)).alloc (by simp; omega) (.cells #[.int .i64 0, .int .i64 0, .int .i64 0] 33))
    have HOC := hide ((hoc.alloc (.cells (cfgCs c) 30)).alloc (.cells #[.int .i64 0, .int .i64 0, .int .i64 0] 33)).at_
    have HPC := hide hpc
    clear hb2 hoc hpc
    unfold cfgV
    unfold cfgCs at HWA0 HOC
    go_wp2_with fail
    refine (HCK.out c _ HOC.out HPC.out).mono ?_
    rintro e w3 ⟨rfl, hb3⟩
    have HWA := hide (HWA0.out.trans (hb3.mono HWA0.out.size))
    clear hb3
    go_wp2_with fail
    refine (HR.out _).mono ?_
    rintro e wr ⟨rfl, hbr⟩
    have HWr := hide (HWA.out.trans (hbr.mono HWA.out.size))
    clear hbr
    go_wp2_with fail
    refine (HRC.out _ (HV.out.below HWr.out)).mono ?_
    rintro e wq ⟨c2, rfl, hoc2, hpc2, hbq⟩
    have hwl : c2.wins.l.length = 0 := by have := HWN.out; rw [← hpc2] at this; exact this
    have HWq := hide (HWr.out.trans (hbq.mono HWr.out.size))
    clear hbq hoc2 hpc2
    unfold cfgV
    rw [hwl]
    have hzq := HWq.out.size
    go_wp2_with fail
    refine (HAL.out _ (HV.out.below ((HWq.out.alloc HWq.out.size _).alloc (by simp; omega) _))).mono ?_
    rintro e wz ⟨rfl, hbz⟩
    have hBc := (show Blk wz wq.heap.size 30 #[.int .u64 (c2.frame : Int), .slice c2.parts.a c2.parts.l.length c2.parts.c, .slice c2.wins.a 0 c2.wins.c, .slice c2.regs.a c2.regs.l.length c2.regs.c, .slice c2.ports.a c2.ports.l.length c2.ports.c, .slice c2.chans.a c2.chans.l.length c2.chans.c] from ((Blk.new wq _ _).alloc _).below hbz (by simp; omega))
    have hBf := (show Blk wz (wq.heap.size + 1) 33 #[.int .i64 7, .int .i64 1025, .int .i64 1] from (Blk.newAt (by simp)).below hbz (by simp))
    have HWz := hide ((HWq.out.alloc HWq.out.size (.cells #[.int .u64 (c2.frame : Int), .slice c2.parts.a c2.parts.l.length c2.parts.c, .slice c2.wins.a 0 c2.wins.c, .slice c2.regs.a c2.regs.l.length c2.regs.c, .slice c2.ports.a c2.ports.l.length c2.ports.c, .slice c2.chans.a c2.chans.l.length c2.chans.c] 30)).alloc (by simp; omega) (.cells #[.int .i64 7, .int .i64 1025, .int .i64 1] 33))
    have hbz2 := hbz.mono (show w.heap.size ≤ _ by simp; omega)
    have HWy := hide (HWz.out.trans hbz2)
    have p2 : wz.cell? ⟨wq.heap.size, 2, none⟩ = some (.slice c2.wins.a 0 c2.wins.c) := hBc.cell 2
    have r0 : wz.cell? ⟨wq.heap.size + 1, 0, none⟩ = some (.int .i64 7) := hBf.cell 0
    have r1 : wz.cell? ⟨wq.heap.size + 1, 1, none⟩ = some (.int .i64 1025) := hBf.cell 1
    have r2 : wz.cell? ⟨wq.heap.size + 1, 2, none⟩ = some (.int .i64 1) := hBf.cell 2
    clear hbz hbz2 hBc hBf HWz
    go_wp2
    go_ret
    exact ⟨rfl, HWy.out⟩
theorem ParseLimits_at (x : ByteArray) (a : Int) (ha : (Lit.int .u8 a).wf = true) (w : World) (hv : Vars w) :
    Calls Tryz.prog 7 #[.string x, .int .u8 a] w fun e w' => e = .returned (.bool true) ∧ Below w.heap.size w w' := by
  have h : 0 ≤ a ∧ a < 256 := by
    simp [Lit.wf] at ha
    have h1 : IntKind.u8.min = 0 := by decide
    have h2 : IntKind.u8.max = 255 := by decide
    omega
  obtain ⟨n, rfl⟩ : ∃ n : Nat, a = (n : Int) := ⟨a.toNat, by omega⟩
  rcases Nat.mod_two_eq_zero_or_one n with h2 | h2
  · exact ParseLimitsEven x n (by omega) h2 w hv
  · exact ParseLimitsOdd x n (by omega) h2 w hv
end Go.Proofs.YtdpieljopelkhaaGreatDoor
