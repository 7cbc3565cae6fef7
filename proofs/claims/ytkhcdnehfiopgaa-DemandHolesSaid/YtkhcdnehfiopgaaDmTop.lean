/- demand: Least, Short, Slack (chapter 16). -/
import Derived.Test.YtkhcdnehfiopgaaDmMeth
namespace Go.Proofs.Ytkhcdnehfiopgaa
open Go.RowKit Go.Sort
set_option linter.unusedVariables false

theorem part_cells {c : Cfg} {w W : World} (h : CfgAt w.heap.size c w) (hW : Boxed1 w c W) {i : Nat} (hi : i < c.parts.l.length) {b o : Nat} (ha : c.parts.a = some ⟨b, o, none⟩) :
    W.cell? ⟨b, o + i * 4, none⟩ = some (.int .u16 (c.parts.l[i].id : Int)) ∧ W.cell? ⟨b, o + i * 4 + 1, none⟩ = some (.string c.parts.l[i].name) ∧ W.cell? ⟨b, o + i * 4 + 2, none⟩ = some (.int .u64 (c.parts.l[i].per : Int)) ∧ W.cell? ⟨b, o + i * 4 + 3, none⟩ = some (.int .u64 (c.parts.l[i].dur : Int)) := by
  obtain ⟨b', o', ha', _, x0, x1, x2, x3⟩ := part_at (hW.cfg h).parts i hi
  rw [ha] at ha'
  injection ha' with ha'
  injection ha' with e1 e2
  subst e1 e2
  exact ⟨x0, x1, x2, x3⟩
set_option maxRecDepth 100000 in
set_option maxHeartbeats 4000000 in
theorem DLeast_calls (c : Cfg) (i : Nat) (w : World) (h : CfgAt w.heap.size c w) (hok : c.Ok) (hsm : c.Small) (hr : rightB c = true) (hi : i < c.parts.l.length) (hd : divB c.parts.l[i].per c.frame = true) :
    Calls Try.prog 16 #[cfgV c, .int .i64 (i : Int)] w fun e w' => e = .returned (.int .u64 ((leastR c c.parts.l[i] : Nat) : Int)) ∧ Below w.heap.size w w' := by
  have hxo : c.parts.l[i].Ok := hok.parts _ (List.getElem_mem hi)
  have hB0 := Boxed1.start w c
  have hcap := h.parts.2
  have hlen : c.wins.l.length ≤ 1048576 := by unfold Cfg.Small at hsm; omega
  have HOF := hide (fun W (hW : Boxed1 w c W) => Of_calls c c.parts.l[i] W (hW.cfg h) hsm)
  obtain ⟨v, hv⟩ : ∃ v, v = leastR c c.parts.l[i] := ⟨_, rfl⟩
  have HLS : Hid (∀ (r : Row WinR) (W : World), OfL c c.parts.l[i].id r.l → RowAt winL 3 W.heap.size r W → Calls Try.prog 35 #[.agg (pwC c.parts.l[i] c.frame r)] W fun e w' => e = .returned (.int .u64 (v : Int)) ∧ Below W.heap.size W w') := hide (fun r W hol hrow => by
    have hs := dm_spec hr hok.frame hxo hd hol
    have := least_calls c.parts.l[i] c.frame _ r W hrow hs.pos hs.frame hs.sch (Nat.le_trans hol.len hlen) hxo
    rw [hs.least, ← hv] at this
    exact this)
  rw [← hv]
  have HSY := hide (fun (b o : Nat) (ha : c.parts.a = some ⟨b, o, none⟩) W (hW : Boxed1 w c W) => And.intro hW.cells (part_cells h hW hi ha))
  obtain ⟨b, o, ha, hab, _⟩ := part_at h.parts i hi
  have HSX := hide (HSY.out b o ha)
  obtain ⟨n, hn⟩ : ∃ n, n = c.parts.l.length := ⟨_, rfl⟩
  have hiI : (i : Int) < (n : Int) := by omega
  have hi0 : (0 : Int) ≤ (i : Int) := by omega
  have hnI : (n : Int) ≤ 9223372036854775807 := by omega
  have hcI : (n : Int) ≤ (c.parts.c : Int) := by omega
  unfold cfgV at HOF ⊢
  unfold cfgC at hB0
  rw [ha, ← hn] at HSX HOF hB0 ⊢
  obtain ⟨x, hx⟩ : ∃ x, x = c.parts.l[i] := ⟨_, rfl⟩
  rw [← hx] at HOF HLS HSX
  unfold pwC at HLS
  obtain ⟨id, nm, per, dur⟩ := x
  unfold partC at HOF
  simp only at HOF HLS HSX
  have HB0 := hide hB0
  clear h hok hsm hxo hB0 hcap hlen ha hab hn hx HSY hr hd hv
  have HS2 : Hid (∀ W, Boxed1 w c W → (W.cell? ⟨w.heap.size, 0, none⟩ = some (.int .u64 (c.frame : Int)) ∧ W.cell? ⟨w.heap.size, 1, none⟩ = some (.slice (some ⟨b, o, none⟩) n c.parts.c) ∧ W.cell? ⟨w.heap.size, 2, none⟩ = some (.slice c.wins.a c.wins.l.length c.wins.c) ∧ W.cell? ⟨w.heap.size, 3, none⟩ = some (.slice c.regs.a c.regs.l.length c.regs.c) ∧ W.cell? ⟨w.heap.size, 4, none⟩ = some (.slice c.ports.a c.ports.l.length c.ports.c) ∧ W.cell? ⟨w.heap.size, 5, none⟩ = some (.slice c.chans.a c.chans.l.length c.chans.c) ∧ W.cell? ⟨b, o + i * 4, none⟩ = some (.int .u16 (id : Int)) ∧ W.cell? ⟨b, o + i * 4 + 1, none⟩ = some (.string nm) ∧ W.cell? ⟨b, o + i * 4 + 2, none⟩ = some (.int .u64 (per : Int)) ∧ W.cell? ⟨b, o + i * 4 + 3, none⟩ = some (.int .u64 (dur : Int)) ∧ Boxed1 w c W)) := hide (fun W hW => by
    obtain ⟨⟨a0, a1, a2, a3, a4, a5⟩, b0, b1, b2, b3⟩ := HSX.out W hW
    exact ⟨a0, a1, a2, a3, a4, a5, b0, b1, b2, b3, hW⟩)
  go_enter Try.func16, Try.ntmps16
  go_wp2
  go_region_held3 (fun W => (W.cell? ⟨w.heap.size, 0, none⟩ = some (.int .u64 (c.frame : Int)) ∧ W.cell? ⟨w.heap.size, 1, none⟩ = some (.slice (some ⟨b, o, none⟩) n c.parts.c) ∧ W.cell? ⟨w.heap.size, 2, none⟩ = some (.slice c.wins.a c.wins.l.length c.wins.c) ∧ W.cell? ⟨w.heap.size, 3, none⟩ = some (.slice c.regs.a c.regs.l.length c.regs.c) ∧ W.cell? ⟨w.heap.size, 4, none⟩ = some (.slice c.ports.a c.ports.l.length c.ports.c) ∧ W.cell? ⟨w.heap.size, 5, none⟩ = some (.slice c.chans.a c.chans.l.length c.chans.c) ∧ W.cell? ⟨b, o + i * 4, none⟩ = some (.int .u16 (id : Int)) ∧ W.cell? ⟨b, o + i * 4 + 1, none⟩ = some (.string nm) ∧ W.cell? ⟨b, o + i * 4 + 2, none⟩ = some (.int .u64 (per : Int)) ∧ W.cell? ⟨b, o + i * 4 + 3, none⟩ = some (.int .u64 (dur : Int)) ∧ Boxed1 w c W))
    (first | assumption | exact HS2.out _ (HB0.out.drewB) | exact HS2.out _ (Boxed1.below (And.right (And.right (And.right (And.right (And.right (And.right (And.right (And.right (And.right (And.right (by assumption))))))))))) (by assumption)))
    (first
      | (go_at_call 29; refine (HOF.out _ (And.right (And.right (And.right (And.right (And.right (And.right (And.right (And.right (And.right (And.right (by assumption)))))))))))).mono ?_; rintro e w2 ⟨r, rfl, hol, hrow, hb⟩; have HOL := hide hol; have HROW := hide hrow; clear hol hrow; unfold pwC)
      | (go_at_call 35; refine (HLS.out r w2 HOL.out HROW.out).mono ?_; rintro e w3 ⟨rfl, hb⟩))
  go_wp2
  go_ret
  exact ⟨rfl, (And.right (And.right (And.right (And.right (And.right (And.right (And.right (And.right (And.right (And.right (by assumption : _ ∧ _ ∧ _ ∧ _ ∧ _ ∧ _ ∧ _ ∧ _ ∧ _ ∧ _ ∧ Boxed1 w c w3))))))))))).1⟩
set_option maxRecDepth 100000 in
set_option maxHeartbeats 4000000 in
theorem DShort_calls (c : Cfg) (i : Nat) (w : World) (h : CfgAt w.heap.size c w) (hok : c.Ok) (hsm : c.Small) (hr : rightB c = true) (hi : i < c.parts.l.length) (hd : divB c.parts.l[i].per c.frame = true) :
    Calls Try.prog 14 #[cfgV c, .int .i64 (i : Int)] w fun e w' => e = .returned (shortV (shortR c c.parts.l[i])) ∧ Below w.heap.size w w' := by
  have hxo : c.parts.l[i].Ok := hok.parts _ (List.getElem_mem hi)
  have hB0 := Boxed1.start w c
  have hcap := h.parts.2
  have hlen : c.wins.l.length ≤ 1048576 := by unfold Cfg.Small at hsm; omega
  have HOF := hide (fun W (hW : Boxed1 w c W) => Of_calls c c.parts.l[i] W (hW.cfg h) hsm)
  obtain ⟨v, hv⟩ : ∃ v, v = shortR c c.parts.l[i] := ⟨_, rfl⟩
  have HLS : Hid (∀ (r : Row WinR) (W : World), OfL c c.parts.l[i].id r.l → RowAt winL 3 W.heap.size r W → Calls Try.prog 33 #[.agg (pwC c.parts.l[i] c.frame r)] W fun e w' => e = .returned (shortV v) ∧ Below W.heap.size W w') := hide (fun r W hol hrow => by
    have hs := dm_spec hr hok.frame hxo hd hol
    have := short_calls c.parts.l[i] c.frame _ r W hrow hs.pos hs.frame hs.sch (Nat.le_trans hol.len hlen) hxo
    rw [hs.short, ← hv] at this
    exact this)
  rw [← hv]
  unfold shortV at HLS ⊢
  generalize v.getD 0 = v1 at *
  generalize v.isSome = v2 at *
  have HSY := hide (fun (b o : Nat) (ha : c.parts.a = some ⟨b, o, none⟩) W (hW : Boxed1 w c W) => And.intro hW.cells (part_cells h hW hi ha))
  obtain ⟨b, o, ha, hab, _⟩ := part_at h.parts i hi
  have HSX := hide (HSY.out b o ha)
  obtain ⟨n, hn⟩ : ∃ n, n = c.parts.l.length := ⟨_, rfl⟩
  have hiI : (i : Int) < (n : Int) := by omega
  have hi0 : (0 : Int) ≤ (i : Int) := by omega
  have hnI : (n : Int) ≤ 9223372036854775807 := by omega
  have hcI : (n : Int) ≤ (c.parts.c : Int) := by omega
  unfold cfgV at HOF ⊢
  unfold cfgC at hB0
  rw [ha, ← hn] at HSX HOF hB0 ⊢
  obtain ⟨x, hx⟩ : ∃ x, x = c.parts.l[i] := ⟨_, rfl⟩
  rw [← hx] at HOF HLS HSX
  unfold pwC at HLS
  obtain ⟨id, nm, per, dur⟩ := x
  unfold partC at HOF
  simp only at HOF HLS HSX
  have HB0 := hide hB0
  clear h hok hsm hxo hB0 hcap hlen ha hab hn hx HSY hr hd hv
  have HS2 : Hid (∀ W, Boxed1 w c W → (W.cell? ⟨w.heap.size, 0, none⟩ = some (.int .u64 (c.frame : Int)) ∧ W.cell? ⟨w.heap.size, 1, none⟩ = some (.slice (some ⟨b, o, none⟩) n c.parts.c) ∧ W.cell? ⟨w.heap.size, 2, none⟩ = some (.slice c.wins.a c.wins.l.length c.wins.c) ∧ W.cell? ⟨w.heap.size, 3, none⟩ = some (.slice c.regs.a c.regs.l.length c.regs.c) ∧ W.cell? ⟨w.heap.size, 4, none⟩ = some (.slice c.ports.a c.ports.l.length c.ports.c) ∧ W.cell? ⟨w.heap.size, 5, none⟩ = some (.slice c.chans.a c.chans.l.length c.chans.c) ∧ W.cell? ⟨b, o + i * 4, none⟩ = some (.int .u16 (id : Int)) ∧ W.cell? ⟨b, o + i * 4 + 1, none⟩ = some (.string nm) ∧ W.cell? ⟨b, o + i * 4 + 2, none⟩ = some (.int .u64 (per : Int)) ∧ W.cell? ⟨b, o + i * 4 + 3, none⟩ = some (.int .u64 (dur : Int)) ∧ Boxed1 w c W)) := hide (fun W hW => by
    obtain ⟨⟨a0, a1, a2, a3, a4, a5⟩, b0, b1, b2, b3⟩ := HSX.out W hW
    exact ⟨a0, a1, a2, a3, a4, a5, b0, b1, b2, b3, hW⟩)
  go_enter Try.func14, Try.ntmps14
  go_wp2
  go_region_held3 (fun W => (W.cell? ⟨w.heap.size, 0, none⟩ = some (.int .u64 (c.frame : Int)) ∧ W.cell? ⟨w.heap.size, 1, none⟩ = some (.slice (some ⟨b, o, none⟩) n c.parts.c) ∧ W.cell? ⟨w.heap.size, 2, none⟩ = some (.slice c.wins.a c.wins.l.length c.wins.c) ∧ W.cell? ⟨w.heap.size, 3, none⟩ = some (.slice c.regs.a c.regs.l.length c.regs.c) ∧ W.cell? ⟨w.heap.size, 4, none⟩ = some (.slice c.ports.a c.ports.l.length c.ports.c) ∧ W.cell? ⟨w.heap.size, 5, none⟩ = some (.slice c.chans.a c.chans.l.length c.chans.c) ∧ W.cell? ⟨b, o + i * 4, none⟩ = some (.int .u16 (id : Int)) ∧ W.cell? ⟨b, o + i * 4 + 1, none⟩ = some (.string nm) ∧ W.cell? ⟨b, o + i * 4 + 2, none⟩ = some (.int .u64 (per : Int)) ∧ W.cell? ⟨b, o + i * 4 + 3, none⟩ = some (.int .u64 (dur : Int)) ∧ Boxed1 w c W))
    (first | assumption | exact HS2.out _ (HB0.out.drewB) | exact HS2.out _ (Boxed1.below (And.right (And.right (And.right (And.right (And.right (And.right (And.right (And.right (And.right (And.right (by assumption))))))))))) (by assumption)))
    (first
      | (go_at_call 29; refine (HOF.out _ (And.right (And.right (And.right (And.right (And.right (And.right (And.right (And.right (And.right (And.right (by assumption)))))))))))).mono ?_; rintro e w2 ⟨r, rfl, hol, hrow, hb⟩; have HOL := hide hol; have HROW := hide hrow; clear hol hrow; unfold pwC)
      | (go_at_call 33; refine (HLS.out r w2 HOL.out HROW.out).mono ?_; rintro e w3 ⟨rfl, hb⟩))
  go_wp2
  go_ret2
  exact ⟨rfl, (And.right (And.right (And.right (And.right (And.right (And.right (And.right (And.right (And.right (And.right (by assumption : _ ∧ _ ∧ _ ∧ _ ∧ _ ∧ _ ∧ _ ∧ _ ∧ _ ∧ _ ∧ Boxed1 w c w3))))))))))).1⟩
set_option maxRecDepth 100000 in
set_option maxHeartbeats 4000000 in
theorem DSlack_calls (c : Cfg) (i : Nat) (w : World) (h : CfgAt w.heap.size c w) (hok : c.Ok) (hsm : c.Small) (hi : i < c.parts.l.length) :
    Calls Try.prog 20 #[cfgV c, .int .i64 (i : Int)] w fun e w' => e = .returned (.int .u64 ((subW (busyL (wo c.wins.l c.parts.l[i].id)) ((totO c.frame c.parts.l[i]).getD 0) : Nat) : Int)) ∧ Below w.heap.size w w' := by
  have hxo : c.parts.l[i].Ok := hok.parts _ (List.getElem_mem hi)
  have hB0 := Boxed1.start w c
  have hcap := h.parts.2
  have hlen : c.wins.l.length ≤ 1048576 := by unfold Cfg.Small at hsm; omega
  have HOF := hide (fun W (hW : Boxed1 w c W) => Of_calls c c.parts.l[i] W (hW.cfg h) hsm)
  have HBY := hide (fun W (hW : Boxed1 w c W) => Busy_calls c c.parts.l[i].id W (hW.cfg h) hsm)
  obtain ⟨v, hv⟩ : ∃ v, v = totO c.frame c.parts.l[i] := ⟨_, rfl⟩
  have HLS : Hid (∀ (r : Row WinR) (W : World), OfL c c.parts.l[i].id r.l → RowAt winL 3 W.heap.size r W → Calls Try.prog 37 #[.agg (pwC c.parts.l[i] c.frame r)] W fun e w' => e = .returned (optV v) ∧ Below W.heap.size W w') := hide (fun r W hol hrow => by
    rw [hv]
    exact total_calls c.parts.l[i] c.frame r W hxo hok.frame)
  rw [← hv]
  obtain ⟨m, k, hmk⟩ := optV_shape v
  rw [hmk] at HLS
  have hgm : v.getD 0 = m := by
    cases v with
    | none => unfold optV at hmk; injection hmk with hmk; injection hmk with hmk; injection hmk with hmk _; injection hmk with _ hmk; show 0 = m; omega
    | some q => unfold optV at hmk; injection hmk with hmk; injection hmk with hmk; injection hmk with hmk _; injection hmk with _ hmk; show q = m; omega
  rw [hgm]
  obtain ⟨by_, hby⟩ : ∃ b, b = busyL (wo c.wins.l c.parts.l[i].id) := ⟨_, rfl⟩
  rw [← hby] at HBY ⊢
  obtain ⟨sl, hsl⟩ : ∃ s, s = subW by_ m := ⟨_, rfl⟩
  have hsub : IntKind.u64.wrap ((by_ : Int) - (m : Int)) = (sl : Int) := by rw [wrap_subW, hsl]
  rw [← hsl]
  have HSY := hide (fun (b o : Nat) (ha : c.parts.a = some ⟨b, o, none⟩) W (hW : Boxed1 w c W) => And.intro hW.cells (part_cells h hW hi ha))
  obtain ⟨b, o, ha, hab, _⟩ := part_at h.parts i hi
  have HSX := hide (HSY.out b o ha)
  obtain ⟨n, hn⟩ : ∃ n, n = c.parts.l.length := ⟨_, rfl⟩
  have hiI : (i : Int) < (n : Int) := by omega
  have hi0 : (0 : Int) ≤ (i : Int) := by omega
  have hnI : (n : Int) ≤ 9223372036854775807 := by omega
  have hcI : (n : Int) ≤ (c.parts.c : Int) := by omega
  unfold cfgV at HOF HBY ⊢
  unfold cfgC at hB0
  rw [ha, ← hn] at HSX HOF hB0 HBY ⊢
  obtain ⟨x, hx⟩ : ∃ x, x = c.parts.l[i] := ⟨_, rfl⟩
  rw [← hx] at HOF HLS HSX HBY
  unfold pwC at HLS
  obtain ⟨id, nm, per, dur⟩ := x
  unfold partC at HOF
  simp only at HOF HLS HSX HBY
  have HB0 := hide hB0
  clear h hok hsm hxo hB0 hcap hlen ha hab hn hx HSY hv hmk hgm hby hsl
  have HS2 : Hid (∀ W, Boxed1 w c W → (W.cell? ⟨w.heap.size, 0, none⟩ = some (.int .u64 (c.frame : Int)) ∧ W.cell? ⟨w.heap.size, 1, none⟩ = some (.slice (some ⟨b, o, none⟩) n c.parts.c) ∧ W.cell? ⟨w.heap.size, 2, none⟩ = some (.slice c.wins.a c.wins.l.length c.wins.c) ∧ W.cell? ⟨w.heap.size, 3, none⟩ = some (.slice c.regs.a c.regs.l.length c.regs.c) ∧ W.cell? ⟨w.heap.size, 4, none⟩ = some (.slice c.ports.a c.ports.l.length c.ports.c) ∧ W.cell? ⟨w.heap.size, 5, none⟩ = some (.slice c.chans.a c.chans.l.length c.chans.c) ∧ W.cell? ⟨b, o + i * 4, none⟩ = some (.int .u16 (id : Int)) ∧ W.cell? ⟨b, o + i * 4 + 1, none⟩ = some (.string nm) ∧ W.cell? ⟨b, o + i * 4 + 2, none⟩ = some (.int .u64 (per : Int)) ∧ W.cell? ⟨b, o + i * 4 + 3, none⟩ = some (.int .u64 (dur : Int)) ∧ Boxed1 w c W)) := hide (fun W hW => by
    obtain ⟨⟨a0, a1, a2, a3, a4, a5⟩, b0, b1, b2, b3⟩ := HSX.out W hW
    exact ⟨a0, a1, a2, a3, a4, a5, b0, b1, b2, b3, hW⟩)
  go_enter Try.func20, Try.ntmps20
  go_wp2
  go_region_held3 (fun W => (W.cell? ⟨w.heap.size, 0, none⟩ = some (.int .u64 (c.frame : Int)) ∧ W.cell? ⟨w.heap.size, 1, none⟩ = some (.slice (some ⟨b, o, none⟩) n c.parts.c) ∧ W.cell? ⟨w.heap.size, 2, none⟩ = some (.slice c.wins.a c.wins.l.length c.wins.c) ∧ W.cell? ⟨w.heap.size, 3, none⟩ = some (.slice c.regs.a c.regs.l.length c.regs.c) ∧ W.cell? ⟨w.heap.size, 4, none⟩ = some (.slice c.ports.a c.ports.l.length c.ports.c) ∧ W.cell? ⟨w.heap.size, 5, none⟩ = some (.slice c.chans.a c.chans.l.length c.chans.c) ∧ W.cell? ⟨b, o + i * 4, none⟩ = some (.int .u16 (id : Int)) ∧ W.cell? ⟨b, o + i * 4 + 1, none⟩ = some (.string nm) ∧ W.cell? ⟨b, o + i * 4 + 2, none⟩ = some (.int .u64 (per : Int)) ∧ W.cell? ⟨b, o + i * 4 + 3, none⟩ = some (.int .u64 (dur : Int)) ∧ Boxed1 w c W))
    (first | assumption | exact HS2.out _ (HB0.out.drewB) | exact HS2.out _ (Boxed1.below (And.right (And.right (And.right (And.right (And.right (And.right (And.right (And.right (And.right (And.right (by assumption))))))))))) (by assumption)))
    (first
      | (go_at_call 29; refine (HOF.out _ (And.right (And.right (And.right (And.right (And.right (And.right (And.right (And.right (And.right (And.right (by assumption)))))))))))).mono ?_; rintro e w2 ⟨r, rfl, hol, hrow, hb⟩; have HOL := hide hol; have HROW := hide hrow; clear hol hrow; unfold pwC)
      | (go_at_call 37; refine (HLS.out r w2 HOL.out HROW.out).mono ?_; rintro e w3 ⟨rfl, hb⟩))
  have HB3 := hide (And.right (And.right (And.right (And.right (And.right (And.right (And.right (And.right (And.right (And.right (by assumption : _ ∧ _ ∧ _ ∧ _ ∧ _ ∧ _ ∧ _ ∧ _ ∧ _ ∧ _ ∧ Boxed1 w c w3)))))))))))
  go_wp2
  go_region_held3 (fun W => (W.cell? ⟨w.heap.size, 0, none⟩ = some (.int .u64 (c.frame : Int)) ∧ W.cell? ⟨w.heap.size, 1, none⟩ = some (.slice (some ⟨b, o, none⟩) n c.parts.c) ∧ W.cell? ⟨w.heap.size, 2, none⟩ = some (.slice c.wins.a c.wins.l.length c.wins.c) ∧ W.cell? ⟨w.heap.size, 3, none⟩ = some (.slice c.regs.a c.regs.l.length c.regs.c) ∧ W.cell? ⟨w.heap.size, 4, none⟩ = some (.slice c.ports.a c.ports.l.length c.ports.c) ∧ W.cell? ⟨w.heap.size, 5, none⟩ = some (.slice c.chans.a c.chans.l.length c.chans.c) ∧ W.cell? ⟨b, o + i * 4, none⟩ = some (.int .u16 (id : Int)) ∧ W.cell? ⟨b, o + i * 4 + 1, none⟩ = some (.string nm) ∧ W.cell? ⟨b, o + i * 4 + 2, none⟩ = some (.int .u64 (per : Int)) ∧ W.cell? ⟨b, o + i * 4 + 3, none⟩ = some (.int .u64 (dur : Int)) ∧ Boxed1 w c W))
    (first | assumption | exact HS2.out _ (HB3.out.drewB) | exact HS2.out _ (Boxed1.below (And.right (And.right (And.right (And.right (And.right (And.right (And.right (And.right (And.right (And.right (by assumption))))))))))) (by assumption)))
    ((go_at_call 22; refine (HBY.out _ (And.right (And.right (And.right (And.right (And.right (And.right (And.right (And.right (And.right (And.right (by assumption)))))))))))).mono ?_; rintro e w4 ⟨rfl, hb⟩))
  go_wp2
  go_ret
  exact ⟨rfl, (And.right (And.right (And.right (And.right (And.right (And.right (And.right (And.right (And.right (And.right (by assumption : _ ∧ _ ∧ _ ∧ _ ∧ _ ∧ _ ∧ _ ∧ _ ∧ _ ∧ _ ∧ Boxed1 w c w4))))))))))).1⟩
end Go.Proofs.Ytkhcdnehfiopgaa
