/- demand: Check (chapter 16). -/
import Derived.Test.YtkhcdnehfiopgaaDmTop
import Derived.Test.YtkhcdnehfiopgaaFrA
import Derived.Handy
namespace Go.Proofs.Ytkhcdnehfiopgaa
open Go.RowKit Go.Sort
set_option linter.unusedVariables false

def dmCode (c : Cfg) (x : PartR) : Nat := if wpB c.frame x then 22 else if (shortR c x).isSome then 23 else 0
def badP (f : PartR → Nat) : List PartR → Nat → Option (Nat × Nat)
  | [], _ => none
  | x :: l, i => if f x = 0 then badP f l (i + 1) else some (f x, i)
theorem badP_none {f : PartR → Nat} : ∀ {l : List PartR} {i : Nat}, (∀ x ∈ l, f x = 0) → badP f l i = none
  | [], _, _ => rfl
  | x :: l, i, h => by rw [badP, if_pos (h x (by simp)), badP_none (fun y hy => h y (by simp [hy]))]
theorem badP_some {f : PartR → Nat} : ∀ {l : List PartR} {i k : Nat} (hk : k < l.length), (∀ x ∈ l.take k, f x = 0) → f l[k] ≠ 0 → badP f l i = some (f l[k], i + k)
  | x :: l, i, 0, hk, h, he => by rw [badP, if_neg (by simpa using he)]; rfl
  | x :: l, i, k + 1, hk, h, he => by
    rw [badP, if_pos (h x (by simp)), badP_some (k := k) (by simpa using hk) (fun y hy => h y (by simp [hy])) (by simpa using he)]
    simp; omega
theorem badP_all {f : PartR → Nat} : ∀ {l : List PartR} {i : Nat}, badP f l i = none → ∀ x ∈ l, f x = 0
  | [], _, _, x, hx => by cases hx
  | y :: l, i, h, x, hx => by
    rw [badP] at h
    split at h
    · rcases List.mem_cons.1 hx with rfl | hx
      · assumption
      · exact badP_all h x hx
    · cases h
def dmCheck (c : Cfg) : Nat × Nat × Nat := match badP (dmCode c) c.parts.l 0 with
  | some (e, i) => (e, 1, i)
  | none => (0, 0, 0)
theorem dmCheck_bad {c : Cfg} {k : Nat} (hk : k < c.parts.l.length) (h : ∀ x ∈ c.parts.l.take k, dmCode c x = 0) (he : dmCode c c.parts.l[k] ≠ 0) : dmCheck c = (dmCode c c.parts.l[k], 1, k) := by
  unfold dmCheck
  rw [badP_some hk h he, Nat.zero_add]
theorem dmCheck_ok {c : Cfg} (h : ∀ x ∈ c.parts.l, dmCode c x = 0) : dmCheck c = (0, 0, 0) := by unfold dmCheck; rw [badP_none h]
theorem takeP {c : Cfg} {k : Nat} (hk : k < c.parts.l.length) (h : ∀ x ∈ c.parts.l.take k, dmCode c x = 0) (he : dmCode c c.parts.l[k] = 0) : ∀ x ∈ c.parts.l.take (k + 1), dmCode c x = 0 := by
  intro x hx
  rw [List.take_succ_eq_append_getElem hk] at hx
  rcases List.mem_append.1 hx with hx | hx
  · exact h x hx
  · rw [List.mem_singleton] at hx; subst hx; exact he
set_option maxRecDepth 100000 in
set_option maxHeartbeats 8000000 in
theorem DCheck_calls (c : Cfg) (w : World) (h : CfgAt w.heap.size c w) (hok : c.Ok) (hsm : c.Small) (hr : rightB c = true) :
    Calls Try.prog 12 #[cfgV c] w fun e w' => e = .returned (.agg (fltC (dmCheck c))) ∧ Below w.heap.size w w' := by
  have hlen : c.wins.l.length ≤ 1048576 := by unfold Cfg.Small at hsm; omega
  have hB0 := Boxed3.start w c
  have hcap := h.parts.2
  have HCF := hide (fun W (hW : Boxed3 w c W) => hW.1.cfg h)
  have HOF := hide (fun x W (hW : Boxed3 w c W) => Of_calls c x W (hW.1.cfg h) hsm)
  have HWP := hide (fun x r W => WPeriod_calls x c.frame r W)
  have HWT := hide (fun (x : PartR) (hx : x.Ok) (hwp : wpB c.frame x = false) (r : Row WinR) (W : World) (hol : OfL c x.id r.l) (hrow : RowAt winL 3 W.heap.size r W) => WTime_calls x c.frame r (shortR c x) W (fun W2 hW2 => by
    have hd : divB x.per c.frame = true := by
      cases hdd : divB x.per c.frame with
      | true => rfl
      | false => unfold wpB at hwp; rw [hdd] at hwp; cases hwp
    have hs := dm_spec hr hok.frame hx hd hol
    have := short_calls x c.frame _ r W2 (RowAt.more (hrow.below hW2) hW2.size) hs.pos hs.frame hs.sch (Nat.le_trans hol.len hlen) hx
    rw [hs.short] at this
    exact this))
  obtain ⟨R, hR⟩ : ∃ R, R = dmCheck c := ⟨_, rfl⟩
  rw [← hR]
  have HR := hide hR
  have HOP := hide hok.parts
  obtain ⟨n, hn⟩ : ∃ n, n = c.parts.l.length := ⟨_, rfl⟩
  obtain ⟨pa, hpa⟩ : ∃ a, a = c.parts.a := ⟨_, rfl⟩
  have hnI : (n : Int) ≤ 1048576 := by unfold Cfg.Small at hsm; omega
  have hcI : (n : Int) ≤ (c.parts.c : Int) := by omega
  have HN := hide hn
  have HPA := hide hpa
  have HBC := hide (fun W (hW : Boxed3 w c W) => hW.1.cells)
  unfold cfgV at HOF ⊢
  unfold cfgC fltC at hB0
  rw [← hn, ← hpa] at HBC hB0 HOF ⊢
  have HB0 := hide hB0
  have eF0 : ∀ args w, (callFunc 30 args).run Try.prog w = .ok (.enter 30 args) w := enters_of Try.func30 (by kernel_rfl) rfl
  have eF1 : ∀ args w, (callFunc 31 args).run Try.prog w = .ok (.enter 31 args) w := enters_of Try.func31 (by kernel_rfl) rfl
  clear h hok hsm hr hlen hcap hR hn hB0 hpa
  go_enter Try.func12, Try.ntmps12
  obtain ⟨b0, b1, b2, b3, b4, b5⟩ := HBC.out _ HB0.out
  go_wp2
  clear b0 b1 b2 b3 b4 b5
  generalize (w.alloc (.cells #[.int .u64 (c.frame : Int), .slice pa n c.parts.c, .slice c.wins.a c.wins.l.length c.wins.c, .slice c.regs.a c.regs.l.length c.regs.c, .slice c.ports.a c.ports.l.length c.ports.c, .slice c.chans.a c.chans.l.length c.chans.c] 29)).alloc (.cells #[.int .i64 0, .int .i64 0, .int .i64 0] 36) = W0 at *
  go_loopw [12] (fun v wr => ∃ k : Nat, k ≤ n ∧ v = .int .i64 (k : Int) ∧ Hid (Boxed3 w c wr ∧ ∀ y ∈ c.parts.l.take k, dmCode c y = 0)) (fun v _ => n - (intOf v).toNat)
  case atStart => exact ⟨0, Nat.zero_le _, rfl, hide ⟨HB0.out, by simp⟩⟩
  case round =>
    obtain ⟨k, hk, rfl, hrel⟩ := hrel
    by_cases hlt : k < n
    · have hlt2 : (k : Int) < (n : Int) := by omega
      have hkl : k < c.parts.l.length := by have := HN.out; omega
      obtain ⟨b, o, ha, hab, x0, x1, x2, x3⟩ := part_at (HCF.out wr hrel.out.1).parts k hkl
      obtain rfl : pa = some ⟨b, o, none⟩ := HPA.out.trans ha
      have hxo := HOP.out c.parts.l[k] (List.getElem_mem _)
      have HBAD := hide (fun h => (HR.out.trans (dmCheck_bad hkl hrel.out.2 h)))
      have HTK := hide (fun h => takeP hkl hrel.out.2 h)
      have hbz : b < wr.heap.size := cell_lt x0
      have HHA := hide ha
      obtain ⟨b0, b1, b2, b3, b4, b5⟩ := HBC.out wr hrel.out.1
      have hz0 : w.heap.size < wr.heap.size := hrel.out.1.1.2.lt
      obtain ⟨x, hx⟩ : ∃ x, x = c.parts.l[k] := ⟨_, rfl⟩
      rw [← hx] at x0 x1 x2 x3 hxo HBAD HTK
      have HOFX := hide (fun W hW => HOF.out x W hW)
      have HWPX := hide (fun r W => HWP.out x r W)
      have HWTX := hide (HWT.out x hxo)
      have HDC : Hid (dmCode c x = if wpB c.frame x then 22 else if (shortR c x).isSome then 23 else 0) := hide rfl
      obtain ⟨dc, hdc⟩ : ∃ d, d = dmCode c x := ⟨_, rfl⟩
      rw [← hdc] at HBAD HTK HDC
      have HX1 : Hid (Boxed3 w c (wr.alloc (.cells (partC x) 40))) := hide (hrel.out.1.alloc _)
      obtain ⟨id, nm, per, dur⟩ := x
      unfold partC at HOFX HX1
      unfold pwC at HWPX HWTX
      simp only at HOFX HX1 HWPX HWTX x0 x1 x2 x3
      clear ha hab hrel hxo hx hdc
      go_wp2_with (go_at_call 29; refine (HOFX.out _ HX1.out).mono ?_; rintro e w2 ⟨r, rfl, hol, hrow, hb⟩; have HOL := hide hol; have HROW := hide hrow; have HX2 := hide (HX1.out.below hb); unfold pwC; clear hol hrow hb b0 b1 b2 b3 b4 b5 x0 x1 x2 x3)
      have HWP5 := hide (fun W => HWPX.out r W)
      have HWT5 := hide (fun hwp W hrow => HWTX.out hwp r W HOL.out hrow)
      clear HWPX HWTX
      generalize hpv : (Value.agg #[.int .u16 (id : Int), .string nm, .int .u64 (per : Int), .int .u64 (dur : Int), .int .u64 (c.frame : Int), .slice r.a r.l.length r.c]) = pv at *
      clear hpv
      obtain ⟨g5, hg5⟩ : ∃ g, g = w2.heap.size + 1 := ⟨_, rfl⟩
      obtain ⟨w5, hw5⟩ : ∃ W, W = ((w2.alloc (.cells #[.int .u16 (id : Int), .string nm, .int .u64 (per : Int), .int .u64 (dur : Int), .int .u64 (c.frame : Int), .slice r.a r.l.length r.c] 58)).alloc (.cells #[.func (.func 30) #[pv] #[], .func (.func 31) #[pv] #[]] 31)) := ⟨_, rfl⟩
      have hb5 : Below w2.heap.size w2 w5 := by rw [hw5]; exact ((Below.refl _ w2).alloc (Nat.le_refl _) _).alloc (by simp) _
      have HX5 : Hid (Boxed3 w c w5) := hide (HX2.out.below hb5)
      have HR5 : Hid (RowAt winL 3 w5.heap.size r w5) := hide (RowAt.more (HROW.out.below hb5) hb5.size)
      have HQ5 : Hid (Blk w5 g5 31 #[.func (.func 30) #[pv] #[], .func (.func 31) #[pv] #[]]) := hide (by
        have := Blk.new (w2.alloc (.cells #[.int .u16 (id : Int), .string nm, .int .u64 (per : Int), .int .u64 (dur : Int), .int .u64 (c.frame : Int), .slice r.a r.l.length r.c] 58)) 31 #[.func (.func 30) #[pv] #[], .func (.func 31) #[pv] #[]]
        rw [World.size_alloc] at this
        rw [hw5, hg5]; exact this)
      rw [← hw5, ← hg5]
      clear hw5 hg5 hb5 HX2 HROW
      obtain ⟨b0, b1, b2, b3, b4, b5⟩ := HBC.out w5 HX5.out; have q0 : w5.cell? ⟨g5, 0, none⟩ = some (.func (.func 30) #[pv] #[]) := HQ5.out.cell 0; have q1 : w5.cell? ⟨g5, 1, none⟩ = some (.func (.func 31) #[pv] #[]) := HQ5.out.cell 1; have r0 : w5.cell? ⟨w.heap.size + 1, 0, none⟩ = some (.int .i64 0) := HX5.out.2.cell 0; have r1 : w5.cell? ⟨w.heap.size + 1, 1, none⟩ = some (.int .i64 0) := HX5.out.2.cell 1; have r2 : w5.cell? ⟨w.heap.size + 1, 2, none⟩ = some (.int .i64 0) := HX5.out.2.cell 2; have f0 : w5.frozen? ⟨w.heap.size + 1, 0, none⟩ = false := HX5.out.2.frozen 0; have f1 : w5.frozen? ⟨w.heap.size + 1, 1, none⟩ = false := HX5.out.2.frozen 1; have f2 : w5.frozen? ⟨w.heap.size + 1, 2, none⟩ = false := HX5.out.2.frozen 2; have z5 : g5 < w5.heap.size := HQ5.out.lt
      refine wp_loop_rounds 3 ?_
      rw [rounds_succ]
      cases hwp : wpB c.frame ⟨id, nm, per, dur⟩ with
      | true =>
        rw [hwp] at HWP5
        have HE : Hid (R = (22, 1, k)) := hide (by have h22 : dc = 22 := (by rw [HDC.out, hwp]; rfl); rw [HBAD.out (by omega), h22])
        clear hwp
        go_wp2_with (go_at_call 30; refine (HWP5.out w5).mono ?_; rintro e w6 ⟨rfl, hb⟩; have HX6 := hide (HX5.out.below hb); have HQ6 := hide (HQ5.out.below hb HQ5.out.lt); clear hb; clear b0 b1 b2 b3 b4 b5 q0 q1 r0 r1 r2 f0 f1 f2 z5; obtain ⟨b0, b1, b2, b3, b4, b5⟩ := HBC.out w6 HX6.out; have q0 : w6.cell? ⟨g5, 0, none⟩ = some (.func (.func 30) #[pv] #[]) := HQ6.out.cell 0; have q1 : w6.cell? ⟨g5, 1, none⟩ = some (.func (.func 31) #[pv] #[]) := HQ6.out.cell 1; have r0 : w6.cell? ⟨w.heap.size + 1, 0, none⟩ = some (.int .i64 0) := HX6.out.2.cell 0; have r1 : w6.cell? ⟨w.heap.size + 1, 1, none⟩ = some (.int .i64 0) := HX6.out.2.cell 1; have r2 : w6.cell? ⟨w.heap.size + 1, 2, none⟩ = some (.int .i64 0) := HX6.out.2.cell 2; have f0 : w6.frozen? ⟨w.heap.size + 1, 0, none⟩ = false := HX6.out.2.frozen 0; have f1 : w6.frozen? ⟨w.heap.size + 1, 1, none⟩ = false := HX6.out.2.frozen 1; have f2 : w6.frozen? ⟨w.heap.size + 1, 2, none⟩ = false := HX6.out.2.frozen 2; have z5 : g5 < w6.heap.size := HQ6.out.lt)
        have HBK := hide (((HX6.out.2.set_ 0 (.int .i64 22)).set_ 1 (.int .i64 1)).set_ 2 (.int .i64 (k : Int)))
        refine bodyPost_ret (res_cell1 rfl _ _ (w.heap.size + 1) (fltC (22, 1, k)) rfl (load_flt HBK.out rfl)) rfl ⟨ret_f HE.out.symm, ?_⟩
        exact ((HX6.out.1.1.setCell (p := ⟨w.heap.size + 1, 0, none⟩) (by simp) _).setCell (p := ⟨w.heap.size + 1, 1, none⟩) (by simp) _).setCell (p := ⟨w.heap.size + 1, 2, none⟩) (by simp) _
      | false =>
        rw [hwp] at HWP5
        have HWT6 := hide (HWT5.out hwp)
        have HDC2 : Hid (dc = if (shortR c ⟨id, nm, per, dur⟩).isSome then 23 else 0) := hide (by rw [HDC.out, hwp]; rfl)
        clear hwp
        go_wp2_with (go_at_call 30; refine (HWP5.out w5).mono ?_; rintro e w6 ⟨rfl, hb⟩; have HX6 := hide (HX5.out.below hb); have HQ6 := hide (HQ5.out.below hb HQ5.out.lt); have HR6 := hide (RowAt.more (HR5.out.below hb) hb.size); clear hb; clear b0 b1 b2 b3 b4 b5 q0 q1 r0 r1 r2 f0 f1 f2 z5; obtain ⟨b0, b1, b2, b3, b4, b5⟩ := HBC.out w6 HX6.out; have q0 : w6.cell? ⟨g5, 0, none⟩ = some (.func (.func 30) #[pv] #[]) := HQ6.out.cell 0; have q1 : w6.cell? ⟨g5, 1, none⟩ = some (.func (.func 31) #[pv] #[]) := HQ6.out.cell 1; have r0 : w6.cell? ⟨w.heap.size + 1, 0, none⟩ = some (.int .i64 0) := HX6.out.2.cell 0; have r1 : w6.cell? ⟨w.heap.size + 1, 1, none⟩ = some (.int .i64 0) := HX6.out.2.cell 1; have r2 : w6.cell? ⟨w.heap.size + 1, 2, none⟩ = some (.int .i64 0) := HX6.out.2.cell 2; have f0 : w6.frozen? ⟨w.heap.size + 1, 0, none⟩ = false := HX6.out.2.frozen 0; have f1 : w6.frozen? ⟨w.heap.size + 1, 1, none⟩ = false := HX6.out.2.frozen 1; have f2 : w6.frozen? ⟨w.heap.size + 1, 2, none⟩ = false := HX6.out.2.frozen 2; have z5 : g5 < w6.heap.size := HQ6.out.lt)
        rw [rounds_succ]
        cases hsm : (shortR c ⟨id, nm, per, dur⟩).isSome with
        | true =>
          rw [hsm] at HWT6
          have HE : Hid (R = (23, 1, k)) := hide (by have h23 : dc = 23 := (by rw [HDC2.out, hsm]; rfl); rw [HBAD.out (by omega), h23])
          clear hsm
          go_wp2_with (go_at_call 31; refine (HWT6.out w6 HR6.out).mono ?_; rintro e w7 ⟨rfl, hb⟩; have HX7 := hide (HX6.out.below hb); have HQ7 := hide (HQ6.out.below hb HQ6.out.lt); clear hb; clear b0 b1 b2 b3 b4 b5 q0 q1 r0 r1 r2 f0 f1 f2 z5; obtain ⟨b0, b1, b2, b3, b4, b5⟩ := HBC.out w7 HX7.out; have q0 : w7.cell? ⟨g5, 0, none⟩ = some (.func (.func 30) #[pv] #[]) := HQ7.out.cell 0; have q1 : w7.cell? ⟨g5, 1, none⟩ = some (.func (.func 31) #[pv] #[]) := HQ7.out.cell 1; have r0 : w7.cell? ⟨w.heap.size + 1, 0, none⟩ = some (.int .i64 0) := HX7.out.2.cell 0; have r1 : w7.cell? ⟨w.heap.size + 1, 1, none⟩ = some (.int .i64 0) := HX7.out.2.cell 1; have r2 : w7.cell? ⟨w.heap.size + 1, 2, none⟩ = some (.int .i64 0) := HX7.out.2.cell 2; have f0 : w7.frozen? ⟨w.heap.size + 1, 0, none⟩ = false := HX7.out.2.frozen 0; have f1 : w7.frozen? ⟨w.heap.size + 1, 1, none⟩ = false := HX7.out.2.frozen 1; have f2 : w7.frozen? ⟨w.heap.size + 1, 2, none⟩ = false := HX7.out.2.frozen 2; have z5 : g5 < w7.heap.size := HQ7.out.lt)
          have HBK := hide (((HX7.out.2.set_ 0 (.int .i64 23)).set_ 1 (.int .i64 1)).set_ 2 (.int .i64 (k : Int)))
          refine bodyPost_ret (res_cell1 rfl _ _ (w.heap.size + 1) (fltC (23, 1, k)) rfl (load_flt HBK.out rfl)) rfl ⟨ret_f HE.out.symm, ?_⟩
          exact ((HX7.out.1.1.setCell (p := ⟨w.heap.size + 1, 0, none⟩) (by simp) _).setCell (p := ⟨w.heap.size + 1, 1, none⟩) (by simp) _).setCell (p := ⟨w.heap.size + 1, 2, none⟩) (by simp) _
        | false =>
          rw [hsm] at HWT6
          have HQ := hide (HTK.out (by rw [HDC2.out, hsm]; rfl))
          clear hsm
          go_wp2_with (go_at_call 31; refine (HWT6.out w6 HR6.out).mono ?_; rintro e w7 ⟨rfl, hb⟩; have HX7 := hide (HX6.out.below hb); have HQ7 := hide (HQ6.out.below hb HQ6.out.lt); clear hb; clear b0 b1 b2 b3 b4 b5 q0 q1 r0 r1 r2 f0 f1 f2 z5; obtain ⟨b0, b1, b2, b3, b4, b5⟩ := HBC.out w7 HX7.out; have q0 : w7.cell? ⟨g5, 0, none⟩ = some (.func (.func 30) #[pv] #[]) := HQ7.out.cell 0; have q1 : w7.cell? ⟨g5, 1, none⟩ = some (.func (.func 31) #[pv] #[]) := HQ7.out.cell 1; have r0 : w7.cell? ⟨w.heap.size + 1, 0, none⟩ = some (.int .i64 0) := HX7.out.2.cell 0; have r1 : w7.cell? ⟨w.heap.size + 1, 1, none⟩ = some (.int .i64 0) := HX7.out.2.cell 1; have r2 : w7.cell? ⟨w.heap.size + 1, 2, none⟩ = some (.int .i64 0) := HX7.out.2.cell 2; have f0 : w7.frozen? ⟨w.heap.size + 1, 0, none⟩ = false := HX7.out.2.frozen 0; have f1 : w7.frozen? ⟨w.heap.size + 1, 1, none⟩ = false := HX7.out.2.frozen 1; have f2 : w7.frozen? ⟨w.heap.size + 1, 2, none⟩ = false := HX7.out.2.frozen 2; have z5 : g5 < w7.heap.size := HQ7.out.lt)
          rw [rounds_succ]
          go_wp2
          go_roundw
          case rel => exact ⟨k + 1, by omega, by go_num, hide ⟨HX7.out, HQ.out⟩⟩
          case measure => simp [intOf]; omega
    · have hkn : k = n := by omega
      subst hkn
      have HE : Hid (R = (0, 0, 0)) := hide (by
        rw [HR.out]
        refine dmCheck_ok ?_
        have := hrel.out.2
        rwa [List.take_of_length_le (by rw [HN.out]; exact Nat.le_refl _)] at this)
      have HX7 := hide hrel.out.1
      have r0 : wr.cell? ⟨w.heap.size + 1, 0, none⟩ = some (.int .i64 0) := HX7.out.2.cell 0
      have r1 : wr.cell? ⟨w.heap.size + 1, 1, none⟩ = some (.int .i64 0) := HX7.out.2.cell 1
      have r2 : wr.cell? ⟨w.heap.size + 1, 2, none⟩ = some (.int .i64 0) := HX7.out.2.cell 2
      have f0 : wr.frozen? ⟨w.heap.size + 1, 0, none⟩ = false := HX7.out.2.frozen 0
      have f1 : wr.frozen? ⟨w.heap.size + 1, 1, none⟩ = false := HX7.out.2.frozen 1
      have f2 : wr.frozen? ⟨w.heap.size + 1, 2, none⟩ = false := HX7.out.2.frozen 2
      clear hlt hk hrel
      go_wp2
      have HBK := hide (((HX7.out.2.set_ 0 (.int .i64 0)).set_ 1 (.int .i64 0)).set_ 2 (.int .i64 0))
      refine bodyPost_ret (res_cell1 rfl _ _ (w.heap.size + 1) (fltC (0, 0, 0)) rfl (load_flt HBK.out rfl)) rfl ⟨ret_f HE.out.symm, ?_⟩
      exact ((HX7.out.1.1.setCell (p := ⟨w.heap.size + 1, 0, none⟩) (by simp) _).setCell (p := ⟨w.heap.size + 1, 1, none⟩) (by simp) _).setCell (p := ⟨w.heap.size + 1, 2, none⟩) (by simp) _
end Go.Proofs.Ytkhcdnehfiopgaa
