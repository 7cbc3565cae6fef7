/- conf.Check at a configuration within limits (chapter 05). Written by genc5chk.py. -/
import Derived.Test.YtdpieljopelkhaaGreatDoorC5Cnt
import Derived.Test.YtdpieljopelkhaaGreatDoorNmValid
import Derived.Handy
namespace Go.Proofs.YtdpieljopelkhaaGreatDoor
open Go.RowKit Go.Lib Go.Sort
set_option linter.unusedVariables false

set_option maxRecDepth 100000 in
set_option maxHeartbeats 1000000 in
theorem Chk1_calls (x : PartR) (hx : validS x.name = true) (w : World) : Calls Tryz.prog 40 #[.agg #[.int .u16 (x.id : Int), .string x.name, .int .u64 (x.per : Int), .int .u64 (x.dur : Int)]] w fun e w' => e = .returned (.bool false) ∧ Below w.heap.size w w' := by
  have HV := hide (fun W => Valid_calls x.name W)
  rw [hx] at HV
  clear hx
  go_enter Tryz.func40, Tryz.ntmps40
  go_wp2_with (go_at_call 41; refine (HV.out _).mono ?_; rintro e w2 ⟨rfl, hb⟩; have HB := hide (((Below.refl w.heap.size w).alloc (Nat.le_refl _) (.cells #[.int .u16 (x.id : Int), .string x.name, .int .u64 (x.per : Int), .int .u64 (x.dur : Int)] 92)).trans (hb.mono (by simp))); clear hb)
  go_ret
  exact ⟨rfl, HB.out⟩
set_option maxRecDepth 100000 in
set_option maxHeartbeats 1000000 in
theorem Ixf1_calls (r : Row PartR) (w : World) (h : RowAt partL 4 w.heap.size r w) (hg : ∀ x ∈ r.l, validS x.name = true) (hl : r.l.length ≤ 100000) :
    Calls Tryz.prog 39 #[.slice r.a r.l.length r.c, .func (.func 40) #[] #[]] w fun e w' => e = .returned (.int .i64 (-1)) ∧ Below w.heap.size w w' := by
  have HH := hide h
  have HG := hide hg
  have eF : ∀ args w, (callFunc 40 args).run Tryz.prog w = .ok (.enter 40 args) w := enters_of Tryz.func40 (by kernel_rfl) rfl
  obtain ⟨n, hn⟩ : ∃ n, n = r.l.length := ⟨_, rfl⟩
  have HN := hide hn
  have hcap := h.2.1
  rw [← hn] at hl hcap ⊢
  have hnI : (n : Int) ≤ 100000 := by omega
  have hcI : (n : Int) ≤ (r.c : Int) := by omega
  obtain ⟨ra, hra⟩ : ∃ a, a = r.a := ⟨_, rfl⟩
  have HRA := hide hra
  rw [← hra]
  clear h hg hn hl hcap hra
  go_enter Tryz.func39, Tryz.ntmps39
  go_wp2
  go_loopw [8] (fun v wr => ∃ k : Nat, k ≤ n ∧ v = .int .i64 (k : Int) ∧ Hid (Below w.heap.size w wr)) (fun v _ => n - (intOf v).toNat)
  case atStart => exact ⟨0, Nat.zero_le _, rfl, hide (Below.refl _ _)⟩
  case round =>
    obtain ⟨k, hk, rfl, hrel⟩ := hrel
    by_cases hlt : k < n
    · have hlt2 : (k : Int) < (n : Int) := by omega
      have hkl : k < r.l.length := by have := HN.out; omega
      obtain ⟨b, o, ha, hab, x0, x1, x2, x3⟩ := part_at (HH.out.below hrel.out) k hkl
      rw [← HRA.out] at ha
      have hm := HG.out _ (List.getElem_mem hkl)
      generalize r.l[k] = x at *
      have HC := hide (fun W => Chk1_calls x hm W)
      subst ha
      clear hm hab
      go_wp2_with (go_at_call 40; refine (HC.out _).mono ?_; rintro e w2 ⟨rfl, hb⟩; have HB := hide (hrel.out.trans (hb.mono hrel.out.size)); clear hb)
      go_roundw
      case rel => exact ⟨k + 1, by omega, by go_num, HB⟩
      case measure => simp [intOf]; omega
    · obtain rfl : k = n := by omega
      clear hlt
      go_wp2
      go_ret
      exact ⟨rfl, hrel.out⟩
set_option maxRecDepth 100000 in
set_option maxHeartbeats 1000000 in
theorem Chk2_calls (x : PortR) (hx : validS x.name = true) (w : World) : Calls Tryz.prog 43 #[.agg #[.int .u16 (x.id : Int), .int .u16 (x.part : Int), .string x.name, .bool x.out, .bool x.que, .int .u32 (x.size : Int)]] w fun e w' => e = .returned (.bool false) ∧ Below w.heap.size w w' := by
  have HV := hide (fun W => Valid_calls x.name W)
  rw [hx] at HV
  clear hx
  go_enter Tryz.func43, Tryz.ntmps43
  go_wp2_with (go_at_call 41; refine (HV.out _).mono ?_; rintro e w2 ⟨rfl, hb⟩; have HB := hide (((Below.refl w.heap.size w).alloc (Nat.le_refl _) (.cells #[.int .u16 (x.id : Int), .int .u16 (x.part : Int), .string x.name, .bool x.out, .bool x.que, .int .u32 (x.size : Int)] 97)).trans (hb.mono (by simp))); clear hb)
  go_ret
  exact ⟨rfl, HB.out⟩
set_option maxRecDepth 100000 in
set_option maxHeartbeats 1000000 in
theorem Ixf2_calls (r : Row PortR) (w : World) (h : RowAt portL 6 w.heap.size r w) (hg : ∀ x ∈ r.l, validS x.name = true) (hl : r.l.length ≤ 100000) :
    Calls Tryz.prog 42 #[.slice r.a r.l.length r.c, .func (.func 43) #[] #[]] w fun e w' => e = .returned (.int .i64 (-1)) ∧ Below w.heap.size w w' := by
  have HH := hide h
  have HG := hide hg
  have eF : ∀ args w, (callFunc 43 args).run Tryz.prog w = .ok (.enter 43 args) w := enters_of Tryz.func43 (by kernel_rfl) rfl
  obtain ⟨n, hn⟩ : ∃ n, n = r.l.length := ⟨_, rfl⟩
  have HN := hide hn
  have hcap := h.2.1
  rw [← hn] at hl hcap ⊢
  have hnI : (n : Int) ≤ 100000 := by omega
  have hcI : (n : Int) ≤ (r.c : Int) := by omega
  obtain ⟨ra, hra⟩ : ∃ a, a = r.a := ⟨_, rfl⟩
  have HRA := hide hra
  rw [← hra]
  clear h hg hn hl hcap hra
  go_enter Tryz.func42, Tryz.ntmps42
  go_wp2
  go_loopw [8] (fun v wr => ∃ k : Nat, k ≤ n ∧ v = .int .i64 (k : Int) ∧ Hid (Below w.heap.size w wr)) (fun v _ => n - (intOf v).toNat)
  case atStart => exact ⟨0, Nat.zero_le _, rfl, hide (Below.refl _ _)⟩
  case round =>
    obtain ⟨k, hk, rfl, hrel⟩ := hrel
    by_cases hlt : k < n
    · have hlt2 : (k : Int) < (n : Int) := by omega
      have hkl : k < r.l.length := by have := HN.out; omega
      obtain ⟨b, o, ha, hab, x0, x1, x2, x3, x4, x5⟩ := port_at (HH.out.below hrel.out) k hkl
      rw [← HRA.out] at ha
      have hm := HG.out _ (List.getElem_mem hkl)
      generalize r.l[k] = x at *
      have HC := hide (fun W => Chk2_calls x hm W)
      subst ha
      clear hm hab
      go_wp2_with (go_at_call 43; refine (HC.out _).mono ?_; rintro e w2 ⟨rfl, hb⟩; have HB := hide (hrel.out.trans (hb.mono hrel.out.size)); clear hb)
      go_roundw
      case rel => exact ⟨k + 1, by omega, by go_num, HB⟩
      case measure => simp [intOf]; omega
    · obtain rfl : k = n := by omega
      clear hlt
      go_wp2
      go_ret
      exact ⟨rfl, hrel.out⟩
set_option maxRecDepth 100000 in
set_option maxHeartbeats 1000000 in
theorem Chk3_calls (x : RegR) (hx : x.rights ≤ 7) (w : World) : Calls Tryz.prog 45 #[.agg #[.int .u64 (x.base : Int), .int .u64 (x.size : Int), .int .u16 (x.part : Int), .int .u8 (x.rights : Int), .bool x.shared]] w fun e w' => e = .returned (.bool false) ∧ Below w.heap.size w w' := by
  have hI : ¬ (7 : Int) < (x.rights : Int) := by omega
  clear hx
  go_enter Tryz.func45, Tryz.ntmps45
  go_wp2
  go_ret
  exact ⟨rfl, (Below.refl w.heap.size w).alloc (Nat.le_refl _) _⟩
set_option maxRecDepth 100000 in
set_option maxHeartbeats 1000000 in
theorem Ixf3_calls (r : Row RegR) (w : World) (h : RowAt regL 5 w.heap.size r w) (hg : ∀ x ∈ r.l, x.rights ≤ 7) (hl : r.l.length ≤ 100000) :
    Calls Tryz.prog 44 #[.slice r.a r.l.length r.c, .func (.func 45) #[] #[]] w fun e w' => e = .returned (.int .i64 (-1)) ∧ Below w.heap.size w w' := by
  have HH := hide h
  have HG := hide hg
  have eF : ∀ args w, (callFunc 45 args).run Tryz.prog w = .ok (.enter 45 args) w := enters_of Tryz.func45 (by kernel_rfl) rfl
  obtain ⟨n, hn⟩ : ∃ n, n = r.l.length := ⟨_, rfl⟩
  have HN := hide hn
  have hcap := h.2.1
  rw [← hn] at hl hcap ⊢
  have hnI : (n : Int) ≤ 100000 := by omega
  have hcI : (n : Int) ≤ (r.c : Int) := by omega
  obtain ⟨ra, hra⟩ : ∃ a, a = r.a := ⟨_, rfl⟩
  have HRA := hide hra
  rw [← hra]
  clear h hg hn hl hcap hra
  go_enter Tryz.func44, Tryz.ntmps44
  go_wp2
  go_loopw [8] (fun v wr => ∃ k : Nat, k ≤ n ∧ v = .int .i64 (k : Int) ∧ Hid (Below w.heap.size w wr)) (fun v _ => n - (intOf v).toNat)
  case atStart => exact ⟨0, Nat.zero_le _, rfl, hide (Below.refl _ _)⟩
  case round =>
    obtain ⟨k, hk, rfl, hrel⟩ := hrel
    by_cases hlt : k < n
    · have hlt2 : (k : Int) < (n : Int) := by omega
      have hkl : k < r.l.length := by have := HN.out; omega
      obtain ⟨b, o, ha, hab, x0, x1, x2, x3, x4⟩ := reg_at (HH.out.below hrel.out) k hkl
      rw [← HRA.out] at ha
      have hm := HG.out _ (List.getElem_mem hkl)
      generalize r.l[k] = x at *
      have HC := hide (fun W => Chk3_calls x hm W)
      subst ha
      clear hm hab
      go_wp2_with (go_at_call 45; refine (HC.out _).mono ?_; rintro e w2 ⟨rfl, hb⟩; have HB := hide (hrel.out.trans (hb.mono hrel.out.size)); clear hb)
      go_roundw
      case rel => exact ⟨k + 1, by omega, by go_num, HB⟩
      case measure => simp [intOf]; omega
    · obtain rfl : k = n := by omega
      clear hlt
      go_wp2
      go_ret
      exact ⟨rfl, hrel.out⟩
def limC : Array Value := #[.int .i64 0, .int .i64 64, .int .i64 1024, .int .i64 1024, .int .i64 1024, .int .i64 512, .int .i64 1024]
set_option maxRecDepth 100000 in
theorem limits_calls (w : World) : Calls Tryz.prog 37 #[] w fun e w' => e = .returned (.agg limC) ∧ Below w.heap.size w w' := by
  go_enter Tryz.func37, Tryz.ntmps37
  go_wp2
  refine bodyPost_ret (res_cell7K (p := 0) rfl _ _ w.heap.size _ rfl (load_sevenK (Blk.new w 87 limC) rfl)) rfl ⟨rfl, (Below.refl w.heap.size w).alloc (Nat.le_refl _) _⟩
theorem cntK_ix0 (a b c d e f : Int) (w : World) : (Instr.index 87 (.agg #[.int .i64 0, .int .i64 a, .int .i64 b, .int .i64 c, .int .i64 d, .int .i64 e, .int .i64 f]) (.int .i64 0)).run Tryz.prog w = .ok (.int .i64 0) w := by kernel_rfl
theorem cntK_ix1 (a b c d e f : Int) (w : World) : (Instr.index 87 (.agg #[.int .i64 0, .int .i64 a, .int .i64 b, .int .i64 c, .int .i64 d, .int .i64 e, .int .i64 f]) (.int .i64 1)).run Tryz.prog w = .ok (.int .i64 a) w := by kernel_rfl
theorem cntK_ix2 (a b c d e f : Int) (w : World) : (Instr.index 87 (.agg #[.int .i64 0, .int .i64 a, .int .i64 b, .int .i64 c, .int .i64 d, .int .i64 e, .int .i64 f]) (.int .i64 2)).run Tryz.prog w = .ok (.int .i64 b) w := by kernel_rfl
theorem cntK_ix3 (a b c d e f : Int) (w : World) : (Instr.index 87 (.agg #[.int .i64 0, .int .i64 a, .int .i64 b, .int .i64 c, .int .i64 d, .int .i64 e, .int .i64 f]) (.int .i64 3)).run Tryz.prog w = .ok (.int .i64 c) w := by kernel_rfl
theorem cntK_ix4 (a b c d e f : Int) (w : World) : (Instr.index 87 (.agg #[.int .i64 0, .int .i64 a, .int .i64 b, .int .i64 c, .int .i64 d, .int .i64 e, .int .i64 f]) (.int .i64 4)).run Tryz.prog w = .ok (.int .i64 d) w := by kernel_rfl
theorem cntK_ix5 (a b c d e f : Int) (w : World) : (Instr.index 87 (.agg #[.int .i64 0, .int .i64 a, .int .i64 b, .int .i64 c, .int .i64 d, .int .i64 e, .int .i64 f]) (.int .i64 5)).run Tryz.prog w = .ok (.int .i64 e) w := by kernel_rfl
theorem cntK_ix6 (a b c d e f : Int) (w : World) : (Instr.index 87 (.agg #[.int .i64 0, .int .i64 a, .int .i64 b, .int .i64 c, .int .i64 d, .int .i64 e, .int .i64 f]) (.int .i64 6)).run Tryz.prog w = .ok (.int .i64 f) w := by kernel_rfl
theorem load_faultK {w : World} {g : Nat} {cs : Array Value} (hg : Blk w g 33 cs) (hc : cs.size = 3) : (loadVar 33 ⟨g, 0, none⟩).run Tryz.prog w = .ok (.agg cs) w :=
  run_loadVar_row (P := Tryz.prog) w g 33 33 cs (0, 0) _ hg Tryz.underlying33 rfl (by rw [hc]; kernel_rfl)
/-- What lies within the limits. -/
structure LimK (c : Cfg) : Prop where
  parts : c.parts.l.length ≤ 64
  wins : c.wins.l.length ≤ 1024
  regs : c.regs.l.length ≤ 1024
  ports : c.ports.l.length ≤ 1024
  chans : c.chans.l.length ≤ 512
  links : linksN c.chans.l ≤ 1024
  pn : ∀ x ∈ c.parts.l, validS x.name = true
  qn : ∀ x ∈ c.ports.l, validS x.name = true
  rn : ∀ x ∈ c.regs.l, x.rights ≤ 7
theorem LimK.small {c : Cfg} (h : LimK c) : c.Small := by have h1 := h.parts; have h2 := h.wins; have h3 := h.regs; have h4 := h.ports; have h5 := h.chans; have h6 := h.links; unfold Cfg.Small; omega
set_option maxRecDepth 100000 in
set_option maxHeartbeats 2000000 in
theorem CfCheck_calls (c : Cfg) (w : World) (h : CfgAt w.heap.size c w) (hl : LimK c) :
    Calls Tryz.prog 19 #[cfgV c] w fun e w' => e = .returned (.agg #[.int .i64 0, .int .i64 0, .int .i64 0]) ∧ Below w.heap.size w w' := by
  have HK := hide (fun W => limits_calls W)
  have HC := hide (fun W (hW : BoxK w c W) => PCounts_callsK c W (CfgAt.more (BoxK.cfg h hW) (Nat.le_of_lt hW.lt)) hl.small)
  have HI1 := hide (fun W (hW : BoxK w c W) => Ixf1_calls c.parts W ((BoxK.cfg h hW).parts.more (Nat.le_of_lt hW.lt)) hl.pn (by have := hl.parts; omega))
  have HI2 := hide (fun W (hW : BoxK w c W) => Ixf2_calls c.ports W ((BoxK.cfg h hW).ports.more (Nat.le_of_lt hW.lt)) hl.qn (by have := hl.ports; omega))
  have HI3 := hide (fun W (hW : BoxK w c W) => Ixf3_calls c.regs W ((BoxK.cfg h hW).regs.more (Nat.le_of_lt hW.lt)) hl.rn (by have := hl.regs; omega))
  have i1 : (c.parts.l.length : Int) ≤ 64 := by have := hl.parts; omega
  have i2 : (c.wins.l.length : Int) ≤ 1024 := by have := hl.wins; omega
  have i3 : (c.regs.l.length : Int) ≤ 1024 := by have := hl.regs; omega
  have i4 : (c.ports.l.length : Int) ≤ 1024 := by have := hl.ports; omega
  have i5 : (c.chans.l.length : Int) ≤ 512 := by have := hl.chans; omega
  have i6 : (linksN c.chans.l : Int) ≤ 1024 := by have := hl.links; omega
  have HB0 := hide (BoxK.start w c)
  unfold cfgV countsV at HC
  unfold cfgV
  unfold limC at HK
  clear h hl
  go_enter Tryz.func19, Tryz.ntmps19
  go_wp2_with fail
  refine (HK.out _).mono ?_
  rintro e w3 ⟨rfl, hb3⟩
  have HB3 := hide (BoxK.below HB0.out ((Below.alloc (Below.refl _ _) (Nat.le_refl _) _).trans (hb3.mono (by simp))))
  have HF3 := hide (show Blk w3 (w.heap.size + 1) 33 #[.int .i64 0, .int .i64 0, .int .i64 0] from (Blk.newAt (by simp)).below hb3 (by simp))
  obtain ⟨b0, b1, b2, b3, b4, b5⟩ := HB3.out.cells
  have hlt3 : w.heap.size < w3.heap.size := HB3.out.lt
  clear hb3
  go_wp2_with fail
  refine (HC.out _ (HB3.out.alloc _)).mono ?_
  rintro e w5 ⟨rfl, hb5⟩
  have HB5 := hide ((HB3.out.alloc _).below hb5)
  have HF5 := hide ((HF3.out.alloc _).below hb5 (by have := HF3.out.lt; simp; omega))
  have hM5 := (show Blk w5 w3.heap.size 87 limC from (Blk.new w3 _ _).below hb5 (by simp))
  have l0 : w5.cell? ⟨w3.heap.size, 0, none⟩ = some (.int .i64 0) := hM5.cell 0
  have l1 : w5.cell? ⟨w3.heap.size, 1, none⟩ = some (.int .i64 64) := hM5.cell 1
  have l2 : w5.cell? ⟨w3.heap.size, 2, none⟩ = some (.int .i64 1024) := hM5.cell 2
  have l3 : w5.cell? ⟨w3.heap.size, 3, none⟩ = some (.int .i64 1024) := hM5.cell 3
  have l4 : w5.cell? ⟨w3.heap.size, 4, none⟩ = some (.int .i64 1024) := hM5.cell 4
  have l5 : w5.cell? ⟨w3.heap.size, 5, none⟩ = some (.int .i64 512) := hM5.cell 5
  have l6 : w5.cell? ⟨w3.heap.size, 6, none⟩ = some (.int .i64 1024) := hM5.cell 6
  clear hb5 b0 b1 b2 b3 b4 b5 hM5
  have x0 := fun W => cntK_ix0 (c.parts.l.length : Int) (c.wins.l.length : Int) (c.regs.l.length : Int) (c.ports.l.length : Int) (c.chans.l.length : Int) (linksN c.chans.l : Int) W
  have x1 := fun W => cntK_ix1 (c.parts.l.length : Int) (c.wins.l.length : Int) (c.regs.l.length : Int) (c.ports.l.length : Int) (c.chans.l.length : Int) (linksN c.chans.l : Int) W
  have x2 := fun W => cntK_ix2 (c.parts.l.length : Int) (c.wins.l.length : Int) (c.regs.l.length : Int) (c.ports.l.length : Int) (c.chans.l.length : Int) (linksN c.chans.l : Int) W
  have x3 := fun W => cntK_ix3 (c.parts.l.length : Int) (c.wins.l.length : Int) (c.regs.l.length : Int) (c.ports.l.length : Int) (c.chans.l.length : Int) (linksN c.chans.l : Int) W
  have x4 := fun W => cntK_ix4 (c.parts.l.length : Int) (c.wins.l.length : Int) (c.regs.l.length : Int) (c.ports.l.length : Int) (c.chans.l.length : Int) (linksN c.chans.l : Int) W
  have x5 := fun W => cntK_ix5 (c.parts.l.length : Int) (c.wins.l.length : Int) (c.regs.l.length : Int) (c.ports.l.length : Int) (c.chans.l.length : Int) (linksN c.chans.l : Int) W
  have x6 := fun W => cntK_ix6 (c.parts.l.length : Int) (c.wins.l.length : Int) (c.regs.l.length : Int) (c.ports.l.length : Int) (c.chans.l.length : Int) (linksN c.chans.l : Int) W
  obtain ⟨b0, b1, b2, b3, b4, b5⟩ := HB5.out.cells
  go_wp2
  refine wp_loop_rounds 9 ?_
  iterate 7
    rw [rounds_succ]
    go_wp2
  rw [rounds_succ]
  go_wp2_with fail
  refine (HI1.out _ HB5.out).mono ?_
  rintro e w6 ⟨rfl, hb6⟩
  have HB6 := hide (HB5.out.below hb6)
  have HF6 := hide (HF5.out.below hb6 HF5.out.lt)
  clear hb6 b0 b1 b2 b3 b4 b5 l0 l1 l2 l3 l4 l5 l6 x0 x1 x2 x3 x4 x5 x6
  obtain ⟨b0, b1, b2, b3, b4, b5⟩ := HB6.out.cells
  go_wp2_with fail
  refine (HI2.out _ HB6.out).mono ?_
  rintro e w7 ⟨rfl, hb7⟩
  have HB7 := hide (HB6.out.below hb7)
  have HF7 := hide (HF6.out.below hb7 HF6.out.lt)
  clear hb7 b0 b1 b2 b3 b4 b5
  obtain ⟨b0, b1, b2, b3, b4, b5⟩ := HB7.out.cells
  go_wp2_with fail
  refine (HI3.out _ HB7.out).mono ?_
  rintro e w8 ⟨rfl, hb8⟩
  have HB8 := hide (HB7.out.below hb8)
  have HF8 := hide (HF7.out.below hb8 HF7.out.lt)
  clear hb8 b0 b1 b2 b3 b4 b5
  have r0 : w8.cell? ⟨w.heap.size + 1, 0, none⟩ = some (.int .i64 0) := HF8.out.cell 0
  have r1 : w8.cell? ⟨w.heap.size + 1, 1, none⟩ = some (.int .i64 0) := HF8.out.cell 1
  have r2 : w8.cell? ⟨w.heap.size + 1, 2, none⟩ = some (.int .i64 0) := HF8.out.cell 2
  have rf := fun i => HF8.out.frozen i
  have hl8 := HF8.out.lt
  go_wp2
  refine bodyPost_ret (res_cell7K (p := 2) rfl _ _ (w.heap.size + 1) _ rfl (load_faultK (((HF8.out.set_ 0 (.int .i64 0)).set_ 1 (.int .i64 0)).set_ 2 (.int .i64 0)) rfl)) rfl ⟨rfl, ?_⟩
  exact (((HB8.out.1.setCell (p := ⟨w.heap.size + 1, 0, none⟩) (by simp) _).setCell (p := ⟨w.heap.size + 1, 1, none⟩) (by simp) _).setCell (p := ⟨w.heap.size + 1, 2, none⟩) (by simp) _)
end Go.Proofs.YtdpieljopelkhaaGreatDoor
