/- The reference's finish, Parse, Records (chapter 07). The reference's Parse and Records (chapter 07). -/
import Derived.Test.YtdpieljopelkhaaGreatDoorMPbRec4
import Derived.Test.YtdpieljopelkhaaGreatDoorMLxToks
import Derived.Laws.ResultCell
import Derived.Test.YtdpieljopelkhaaGreatDoorMPaLike
namespace Go.Proofs.YtdpieljopelkhaaGreatDoor
open Go.RowKit Go.Lib Go.Sort
set_option linter.unusedVariables false

theorem res_cell_t3 {fn : Func} {p q r u : Tmp} {ty : TypeId} (h : fn.results = #[.cell p ty, .tmp q, .tmp r, .tmp u]) (tmps : Array Value) (w : World) (g : Nat) (cs : Array Value)
    (hp : tmps.getD p undef = .pointer (some ⟨g, 0, none⟩)) (hl : (loadVar ty ⟨g, 0, none⟩).run Tryz.prog w = .ok (.agg cs) w) :
    (results fn tmps).run Tryz.prog w = .ok (.tuple #[.agg cs, tmps.getD q undef, tmps.getD r undef, tmps.getD u undef]) w := by
  have hp' : tmps[p]?.getD undef = .pointer (some ⟨g, 0, none⟩) := by simpa using hp
  simp [results, h, hp', asAddr, hl]
theorem load_cfg {w : World} {g : Nat} {cs : Array Value} (hg : Blk w g 30 cs) (hc : cs.size = 6) : (loadVar 30 ⟨g, 0, none⟩).run Tryz.prog w = .ok (.agg cs) w :=
  run_loadVar_row (P := Tryz.prog) w g 30 30 cs (0, 0) _ hg Tryz.underlying30 rfl (by rw [hc]; kernel_rfl)
theorem own_setLow {w : World} {base size n : Nat} {e : TypeId} {v : Value} {xs : List Value} (h : w.ownsRow base e size v n xs) {p : Addr} (hp : p.block < base) (u : Value) : (w.setCell p u).ownsRow base e size v n xs :=
  own_but h (But.setCell (M := fun k => k = p.block) (But.refl _ w) (.inl rfl) u) (fun k hk e => by have := (h.lt k hk).1; omega)
theorem OwnC.setLow {B : Nat} {c : Cfg} {w : World} (h : OwnC B c w) {p : Addr} (hp : p.block < B) (u : Value) : OwnC B c (w.setCell p u) :=
  ⟨own_setLow h.parts hp u, own_setLow h.wins hp u, own_setLow h.regs hp u, own_setLow h.ports hp u, own_setLow h.chans hp u, fun x hx => own_setLow (h.dests x hx) hp u⟩
/-- What the reference's Parse and Records hand back. -/
def ParseRV (o : Except Flt PC) (w : World) (e : Ending) (w' : World) : Prop :=
  Below w.heap.size w w' ∧ match o with
  | .ok pc => ∃ c, e = .returned (.tuple #[cfgV c, .int .i64 0, .int .i64 0, .int .i64 0]) ∧ CfgAt w'.heap.size c w' ∧ pcOf c = pc
  | .error f => e = .returned (.tuple #[cfgV zeroC, .int .i64 (f.1 : Int), .int .i64 (f.2.1 : Int), .int .i64 (f.2.2 : Int)])
/-- The fault's cells. -/
theorem StAt.fault {X : Nat} {s : RS} {c : Cfg} {w : World} (h : StAt X s c w) {f : Flt} (he : s.err = some f) : w.cell? ⟨X, 2, none⟩ = some (.int .i64 (f.1 : Int)) ∧ w.cell? ⟨X, 6, none⟩ = some (.int .i64 (f.2.1 : Int)) ∧ w.cell? ⟨X, 7, none⟩ = some (.int .i64 (f.2.2 : Int)) ∧ 0 < f.1 := by
  obtain ⟨A, n, cap, at_, code, bk, bt, bv, bl, bc, h1, h2, h3⟩ := h
  rw [he] at h3
  obtain ⟨e1, e2, e3, e4⟩ := h3
  refine ⟨?_, ?_, ?_, by omega⟩
  · rw [← e1]; exact h1.cell 2
  · rw [← e3]; exact h1.cell 6
  · rw [← e4]; exact h1.cell 7
theorem StAt.opened0 {X : Nat} {s : RS} {c : Cfg} {w : World} (h : StAt X s c w) (he : s.err = none) : w.cell? ⟨X, 2, none⟩ = some (.int .i64 0) := by
  obtain ⟨a, k, hO⟩ := h.opened
  have := hO.c2
  rw [hO.none_ he] at this
  exact this
/-- Behind finish. -/
def FinV (s : RS) (c : Cfg) (w : World) (e : Ending) (w' : World) : Prop :=
  (∀ f, s.err = some f → e = .returned (.tuple #[cfgV zeroC, .int .i64 (f.1 : Int), .int .i64 (f.2.1 : Int), .int .i64 (f.2.2 : Int)])) ∧
  (s.err = none → ∀ t r, s.l = t :: r → t.kind ≠ 0 → e = .returned (.tuple #[cfgV zeroC, .int .i64 4, .int .i64 (t.line : Int), .int .i64 (t.col : Int)])) ∧
  (s.err = none → ∀ t r, s.l = t :: r → t.kind = 0 → e = .returned (.tuple #[cfgV c, .int .i64 0, .int .i64 0, .int .i64 0]))
set_option maxRecDepth 100000 in
set_option maxHeartbeats 8000000 in
theorem RFinish_calls (X : Nat) (s : RS) (c : Cfg) (w : World) (h : StAt X s c w) :
    Calls Tryz.prog 29 #[.pointer (some ⟨X, 0, none⟩)] w fun e w' => FinV s c w e w' ∧ OnlyX X w w' := by
  have hXl := h.lt
  obtain ⟨t, r, hl⟩ := h.form
  have HST := hide h
  have HA := hide (h.alloc (.cells #[.int .u64 0, .slice none 0 0, .slice none 0 0, .slice none 0 0, .slice none 0 0, .slice none 0 0] 30))
  have HL := hide hl
  cases he : s.err with
  | some f =>
    obtain ⟨k2, k6, k7, hf⟩ := h.fault he
    have d0 : ((f.1 : Int) == 0) = false := by rw [beq_eq_false_iff_ne]; omega
    have d1 : ((f.1 : Int) != 0) = true := by rw [bne_iff_ne]; omega
    have hFV : ∀ e w', e = .returned (.tuple #[cfgV zeroC, .int .i64 (f.1 : Int), .int .i64 (f.2.1 : Int), .int .i64 (f.2.2 : Int)]) → FinV s c w e w' := fun e w' h0 => ⟨fun g hg => by rw [he] at hg; injection hg with hg; rw [← hg]; exact h0, fun h1 => (by rw [he] at h1; cases h1), fun h1 => (by rw [he] at h1; cases h1)⟩
    have HFV := hide hFV
    obtain ⟨f1, f2, f3⟩ := f
    simp only at k2 k6 k7 d0 d1 HFV
    clear h hl he hFV hf
    go_enter Tryz.func29, Tryz.ntmps29
    go_wp2
    go_region
    go_wp2
    refine bodyPost_ret (res_cell_t3 rfl _ _ w.heap.size _ rfl (load_cfg (Blk.new w 30 _).drew rfl)) rfl ⟨HFV.out _ _ rfl, ((OnlyX.refl X w).alloc _).drew⟩
  | none =>
    have hP := fun W hW => RPeek_calls X s c t r hl W hW
    have hF := fun W (hW : StAt X s c W) => RFail_calls X s c 4 (by omega) t W hW
    rw [failS_first he] at hF
    have HE := hide he
    have HB := hide (Blk.new w 30 #[.int .u64 0, .slice none 0 0, .slice none 0 0, .slice none 0 0, .slice none 0 0, .slice none 0 0])
    have HO := hide ((OnlyX.refl X w).alloc (.cells #[.int .u64 0, .slice none 0 0, .slice none 0 0, .slice none 0 0, .slice none 0 0, .slice none 0 0] 30))
    have fld0 := fun k v i j x w => rtok_f0 k v i j x w
    have c2 := (HA.out.opened0 he)
    by_cases hk : t.kind = 0
    · have hFV : ∀ e w', e = .returned (.tuple #[cfgV c, .int .i64 0, .int .i64 0, .int .i64 0]) → FinV s c w e w' := fun e w' h0 => ⟨fun g hg => (by rw [he] at hg; cases hg), fun _ t' r' hl' hk' => (by rw [hl] at hl'; injection hl' with h1 h2; rw [← h1] at hk'; exact absurd hk hk'), fun _ _ _ _ _ => h0⟩
      have HFV := hide hFV
      obtain ⟨kind, text, v, li, co⟩ := t
      unfold tokV tokC at hP
      simp only at hP hk
      subst hk
      generalize (⟨text.toArray⟩ : ByteArray) = y at *
      have HP := hide hP
      clear h hl he hFV hP hF c2
      go_enter Tryz.func29, Tryz.ntmps29
      have c2 := (HST.out.opened0 HE.out)
      go_wp2_with (go_at_call 59; refine (HP.out _ HA.out).mono ?_; rintro e w2 ⟨rfl, hb2⟩; have HA := hide (HA.out.below hb2); have HB := hide (HB.out.below hb2 HB.out.lt); have HO := hide (HO.out.below hb2); have c2 := (HA.out.opened0 HE.out); have hXw := HA.out.lt; have hWw := HB.out.lt; have fz := HA.out.frz; obtain ⟨g8, g9, g10, g11, g12, g13⟩ := HA.out.cfg; have r0 := HB.out.cell 0; have r1 := HB.out.cell 1; have r2 := HB.out.cell 2; have r3 := HB.out.cell 3; have r4 := HB.out.cell 4; have r5 := HB.out.cell 5; have rf := (fun i => HB.out.frozen i); clear hb2)
      refine bodyPost_ret (res_cell_t3 rfl _ _ w.heap.size _ rfl (load_cfg ((((((HB.out.set_ 0 (.int .u64 (c.frame : Int))).set_ 1 (.slice c.parts.a c.parts.l.length c.parts.c)).set_ 2 (.slice c.wins.a c.wins.l.length c.wins.c)).set_ 3 (.slice c.regs.a c.regs.l.length c.regs.c)).set_ 4 (.slice c.ports.a c.ports.l.length c.ports.c)).set_ 5 (.slice c.chans.a c.chans.l.length c.chans.c)) rfl)) rfl ⟨HFV.out _ _ rfl, (((((HO.out.setNew (Nat.le_refl _) _).setNew (Nat.le_refl _) _).setNew (Nat.le_refl _) _).setNew (Nat.le_refl _) _).setNew (Nat.le_refl _) _).setNew (Nat.le_refl _) _⟩
    · have hFV : ∀ e w', e = .returned (.tuple #[cfgV zeroC, .int .i64 4, .int .i64 (t.line : Int), .int .i64 (t.col : Int)]) → FinV s c w e w' := fun e w' h0 => ⟨fun g hg => (by rw [he] at hg; cases hg), fun _ t' r' hl' hk' => (by rw [hl] at hl'; injection hl' with h1 h2; rw [← h1]; exact h0), fun _ t' r' hl' hk' => (by rw [hl] at hl'; injection hl' with h1 h2; rw [← h1] at hk'; exact absurd hk' hk)⟩
      have HFV := hide hFV
      obtain ⟨kind, text, v, li, co⟩ := t
      unfold tokV tokC at hP hF
      simp only at hP hF hk HFV
      have d0 : ((kind : Int) != 0) = true := by rw [bne_iff_ne]; omega
      generalize (⟨text.toArray⟩ : ByteArray) = y at *
      have HP := hide hP
      have HF : Hid (∀ W, StAt X s c W → Calls Tryz.prog 58 #[.pointer (some ⟨X, 0, none⟩), .int .i64 4, .agg #[.int .i64 (kind : Int), .string y, .int .u64 (v : Int), .int .i64 (li : Int), .int .i64 (co : Int)]] W fun e w' => e = .returned (.tuple #[]) ∧ OnlyX X W w' ∧ StAt X ⟨s.l, some (4, li, co)⟩ c w') := hide hF
      clear h hl he hFV hP hF c2 hk
      go_enter Tryz.func29, Tryz.ntmps29
      have c2 := (HST.out.opened0 HE.out)
      go_wp2_with (first
        | (go_at_call 59; refine (HP.out _ HA.out).mono ?_; rintro e w2 ⟨rfl, hb2⟩; have HA := hide (HA.out.below hb2); have HB := hide (HB.out.below hb2 HB.out.lt); have HO := hide (HO.out.below hb2); have c2 := (HA.out.opened0 HE.out); have hXw := HA.out.lt; have hWw := HB.out.lt; clear hb2)
        | (go_at_call 58; refine (HF.out _ HA.out).mono ?_; rintro e w6 ⟨rfl, ho6, hs6⟩; have hXw := hs6.lt; have HB := hide (ho6.blk HB.out (by omega)); have HO := hide (HO.out.trans ho6); obtain ⟨k2, k6, k7, _⟩ := hs6.fault rfl; have hWw := HB.out.lt; have r0 := HB.out.cell 0; have r1 := HB.out.cell 1; have r2 := HB.out.cell 2; have r3 := HB.out.cell 3; have r4 := HB.out.cell 4; have r5 := HB.out.cell 5; have rf := (fun i => HB.out.frozen i); clear ho6 hs6))
      go_region
      go_wp2
      refine bodyPost_ret (res_cell_t3 rfl _ _ w.heap.size _ rfl (load_cfg ((((((HB.out.set_ 0 (.int .u64 0)).set_ 1 (.slice none 0 0)).set_ 2 (.slice none 0 0)).set_ 3 (.slice none 0 0)).set_ 4 (.slice none 0 0)).set_ 5 (.slice none 0 0)).drew rfl)) rfl ⟨HFV.out _ _ rfl, ((((((HO.out.setNew (Nat.le_refl _) _).setNew (Nat.le_refl _) _).setNew (Nat.le_refl _) _).setNew (Nat.le_refl _) _).setNew (Nat.le_refl _) _).setNew (Nat.le_refl _) _).drew⟩
/-- The state that Parse and Records begin with. -/
theorem st_start {w : World} {v : Value} {B : Nat} {l : List Token} (h : w.ownsRow B 45 5 v l.length (tokCells l)) (he : EndL l) :
    ∃ A cap, v = .slice A l.length cap ∧ StAt w.heap.size ⟨l, none⟩ zeroC (w.alloc (.cells #[.slice A l.length cap, .int .i64 0, .int .i64 0, .int .i64 0, .string ⟨#[]⟩, .int .u64 0, .int .i64 0, .int .i64 0, .int .u64 0, .slice none 0 0, .slice none 0 0, .slice none 0 0, .slice none 0 0, .slice none 0 0] 65)) := by
  obtain ⟨A, cap, hv⟩ := own_slice h
  subst hv
  have hr := Reads.of_own h
  have hl := he.len
  refine ⟨A, cap, rfl, A, l.length, cap, 0, 0, 0, ⟨#[]⟩, 0, 0, 0, Blk.new w _ _, ⟨l, rfl, hl, ?_, ?_, hr.alloc (Nat.le_refl _) _, rfl, he⟩, rfl⟩
  · rcases h.2 with ⟨hv, h0⟩ | ⟨g, cp, cur, hv, _, _, h1, h2, _⟩
    · omega
    · injection hv with _ _ h3; omega
  · rcases h.2 with ⟨hv, h0⟩ | ⟨g, cp, cur, hv, _, _, h1, h2, _⟩
    · omega
    · injection hv with _ _ h3; subst h3; simpa [maxLen] using h2
end Go.Proofs.YtdpieljopelkhaaGreatDoor
namespace Go.Proofs.YtdpieljopelkhaaGreatDoor
open Go.RowKit Go.Lib Go.Sort
set_option linter.unusedVariables false

theorem fin_law {m : PM PC} {s s' : RS} {c : Cfg} {w w' : World} {e : Ending} (he : s.err = none) (L : Lf m s (pcOf c) s') (F : FinV s' c w e w') (hf : ∃ t r, s'.l = t :: r) :
    (∃ pc, endT m s.l = .ok pc ∧ pcOf c = pc ∧ e = .returned (.tuple #[cfgV c, .int .i64 0, .int .i64 0, .int .i64 0])) ∨ (∃ f, endT m s.l = .error f ∧ e = .returned (.tuple #[cfgV zeroC, .int .i64 (f.1 : Int), .int .i64 (f.2.1 : Int), .int .i64 (f.2.2 : Int)])) := by
  obtain ⟨t, r, hl⟩ := hf
  unfold endT
  cases hm : m s.l with
  | error f => exact .inr ⟨f, rfl, F.1 f (L.bad he f hm)⟩
  | ok x =>
    obtain ⟨a, r0⟩ := x
    obtain ⟨h1, h2, h3⟩ := L.ok he a r0 hm
    simp only
    rw [← h2, hl]
    by_cases hk : t.kind = 0
    · exact .inl ⟨a, by unfold takeT; simp only; rw [if_pos hk], h1, F.2.2 h3 t r hl hk⟩
    · exact .inr ⟨(4, t.line, t.col), by unfold takeT; simp only; rw [if_neg hk], F.2.1 h3 t r hl hk⟩
set_option maxRecDepth 100000 in
set_option maxHeartbeats 2000000 in
theorem RRecordsT_calls (x : ByteArray) (hx : x.size ≤ 100000000000000) (w : World) :
    Calls Tryz.prog 18 #[.string x] w (ParseRV (parseRO x) w) := by
  have HT := hide (fun W => RefTokens_calls x hx W)
  cases ho : outOf x with
  | bad c0 i0 j0 =>
    have hc0 := out_code ho
    have HP : Hid (parseRO x = .error (c0, i0, j0)) := hide (by unfold parseRO; rw [ho])
    rw [ho] at HT
    have HT1 : Hid (∀ W, Calls Tryz.prog 13 #[.string x] W fun e w' => Below W.heap.size W w' ∧ e = .returned (.tuple #[.slice none 0 0, .int .i64 (c0 : Int), .int .i64 (i0 : Int), .int .i64 (j0 : Int)])) := hide (fun W => HT.out W)
    have d0 : ((c0 : Int) != 0) = true := by rw [bne_iff_ne]; omega
    rw [HP.out]
    have HB := hide (Blk.new w 30 #[.int .u64 0, .slice none 0 0, .slice none 0 0, .slice none 0 0, .slice none 0 0, .slice none 0 0])
    clear HT ho hx HP hc0
    go_enter Tryz.func18, Tryz.ntmps18
    go_wp2_with (go_at_call 13; refine (HT1.out _).mono ?_; rintro e w2 ⟨hb2, rfl⟩; have HB2 := hide (HB.out.below hb2 (by simp)); have HBL := hide (((Below.refl w.heap.size w).alloc (Nat.le_refl _) (.cells #[.int .u64 0, .slice none 0 0, .slice none 0 0, .slice none 0 0, .slice none 0 0, .slice none 0 0] 30)).trans (hb2.mono (by simp))); have r0 := HB2.out.cell 0; have r1 := HB2.out.cell 1; have r2 := HB2.out.cell 2; have r3 := HB2.out.cell 3; have r4 := HB2.out.cell 4; have r5 := HB2.out.cell 5; have rf := (fun i => HB2.out.frozen i); have hWw := HB2.out.lt; clear hb2)
    refine bodyPost_ret (res_cell_t3 rfl _ _ w.heap.size _ rfl (load_cfg ((((((HB2.out.set_ 0 (.int .u64 0)).set_ 1 (.slice none 0 0)).set_ 2 (.slice none 0 0)).set_ 3 (.slice none 0 0)).set_ 4 (.slice none 0 0)).set_ 5 (.slice none 0 0)) rfl)) rfl ⟨((((((HBL.out.setCell (p := ⟨w.heap.size, 0, none⟩) (Nat.le_refl _) _).setCell (p := ⟨w.heap.size, 1, none⟩) (Nat.le_refl _) _).setCell (p := ⟨w.heap.size, 2, none⟩) (Nat.le_refl _) _).setCell (p := ⟨w.heap.size, 3, none⟩) (Nat.le_refl _) _).setCell (p := ⟨w.heap.size, 4, none⟩) (Nat.le_refl _) _).setCell (p := ⟨w.heap.size, 5, none⟩) (Nat.le_refl _) _), rfl⟩
  | ok l =>
    obtain ⟨hEL, hTZ, _⟩ := out_facts ho
    have HP : Hid (parseRO x = endT (allRecT zeroPC) l) := hide (by unfold parseRO; rw [ho]; rfl)
    rw [ho] at HT
    have HT1 : Hid (∀ W, Calls Tryz.prog 13 #[.string x] W fun e w' => Below W.heap.size W w' ∧ ∃ v, e = .returned (.tuple #[v, .int .i64 0, .int .i64 0, .int .i64 0]) ∧ w'.ownsRow W.heap.size 45 5 v l.length (tokCells l)) := hide (fun W => HT.out W)
    have HEL := hide hEL
    have HTZ := hide hTZ
    have HB := hide (Blk.new w 30 #[.int .u64 0, .slice none 0 0, .slice none 0 0, .slice none 0 0, .slice none 0 0, .slice none 0 0])
    clear HT ho hx hEL hTZ
    go_enter Tryz.func18, Tryz.ntmps18
    go_wp2_with (go_at_call 13; refine (HT1.out _).mono ?_; rintro e w2 ⟨hb2, v, rfl, hown⟩; obtain ⟨A, cap, hv, hst⟩ := st_start hown HEL.out; subst hv; have HB2 := hide (HB.out.below hb2 (by simp)); have HBL := hide (((Below.refl w.heap.size w).alloc (Nat.le_refl _) (.cells #[.int .u64 0, .slice none 0 0, .slice none 0 0, .slice none 0 0, .slice none 0 0, .slice none 0 0] 30)).trans (hb2.mono (by simp))); have HS0 := hide hst; have hWX := HB2.out.lt; clear hb2 hown hst)
    have hXz : w2.heap.size < (w2.alloc (.cells #[.slice A l.length cap, .int .i64 0, .int .i64 0, .int .i64 0, .string ⟨#[]⟩, .int .u64 0, .int .i64 0, .int .i64 0, .int .u64 0, .slice none 0 0, .slice none 0 0, .slice none 0 0, .slice none 0 0, .slice none 0 0] 65)).heap.size := by simp
    have HB3 := hide (HB2.out.alloc (.cells #[.slice A l.length cap, .int .i64 0, .int .i64 0, .int .i64 0, .string ⟨#[]⟩, .int .u64 0, .int .i64 0, .int .i64 0, .int .u64 0, .slice none 0 0, .slice none 0 0, .slice none 0 0, .slice none 0 0, .slice none 0 0] 65))
    have HBA := hide (HBL.out.alloc (by omega) (.cells #[.slice A l.length cap, .int .i64 0, .int .i64 0, .int .i64 0, .string ⟨#[]⟩, .int .u64 0, .int .i64 0, .int .i64 0, .int .u64 0, .slice none 0 0, .slice none 0 0, .slice none 0 0, .slice none 0 0, .slice none 0 0] 65))
    go_wp2_with fail
    refine (RRecords_calls w2.heap.size _ _ _ HS0.out (OwnC.zero _ 0 _) (fun _ => ⟨ok_zero (n := 0) (by omega), HTZ.out⟩)).mono ?_
    rintro e w4 ⟨rfl, hlow, cE, sE, hsE, hoE, hlE⟩
    have HSE := hide hsE
    have HOE := hide hoE
    have HLL : Hid (Lf (allRecT zeroPC) ⟨l, none⟩ (pcOf cE) sE) := hide hlE
    have HBE := hide (HB3.out.below hlow (by omega))
    have HLE := hide (HBA.out.trans (hlow.mono (by omega)))
    clear hlow hsE hoE hlE
    go_wp2_with fail
    refine (RFinish_calls w2.heap.size _ _ _ HSE.out).mono ?_
    rintro e w9 ⟨hF, ho9⟩
    have HB9 := hide (ho9.blk HBE.out (by omega))
    have HL9 := hide (HLE.out.trans ((ho9.low HSE.out.lt).mono (by omega)))
    have hOE := hide (HSE.out.own HOE.out ho9)
    have hfl := fin_law rfl HLL.out hF HSE.out.form
    clear ho9 hF
    have r0 := HB9.out.cell 0
    have r1 := HB9.out.cell 1
    have r2 := HB9.out.cell 2
    have r3 := HB9.out.cell 3
    have r4 := HB9.out.cell 4
    have r5 := HB9.out.cell 5
    have rf := (fun i => HB9.out.frozen i)
    have hWw := HB9.out.lt
    rcases hfl with ⟨pc, e1, e2, rfl⟩ | ⟨f, e1, rfl⟩
    · have HPC := hide e2
      have HE1 := hide e1
      clear e1 e2
      unfold cfgV
      go_wp2
      refine bodyPost_ret (res_cell_t3 rfl _ _ w.heap.size _ rfl (load_cfg ((((((HB9.out.set_ 0 (.int .u64 (cE.frame : Int))).set_ 1 (.slice cE.parts.a cE.parts.l.length cE.parts.c)).set_ 2 (.slice cE.wins.a cE.wins.l.length cE.wins.c)).set_ 3 (.slice cE.regs.a cE.regs.l.length cE.regs.c)).set_ 4 (.slice cE.ports.a cE.ports.l.length cE.ports.c)).set_ 5 (.slice cE.chans.a cE.chans.l.length cE.chans.c)) rfl)) rfl ?_
      rw [HP.out, HE1.out]
      exact ⟨((((((HL9.out.setCell (p := ⟨w.heap.size, 0, none⟩) (Nat.le_refl _) _).setCell (p := ⟨w.heap.size, 1, none⟩) (Nat.le_refl _) _).setCell (p := ⟨w.heap.size, 2, none⟩) (Nat.le_refl _) _).setCell (p := ⟨w.heap.size, 3, none⟩) (Nat.le_refl _) _).setCell (p := ⟨w.heap.size, 4, none⟩) (Nat.le_refl _) _).setCell (p := ⟨w.heap.size, 5, none⟩) (Nat.le_refl _) _), cE, rfl, ((((((hOE.out.setLow (p := ⟨w.heap.size, 0, none⟩) (by show w.heap.size < w2.heap.size + 1; omega) _).setLow (p := ⟨w.heap.size, 1, none⟩) (by show w.heap.size < w2.heap.size + 1; omega) _).setLow (p := ⟨w.heap.size, 2, none⟩) (by show w.heap.size < w2.heap.size + 1; omega) _).setLow (p := ⟨w.heap.size, 3, none⟩) (by show w.heap.size < w2.heap.size + 1; omega) _).setLow (p := ⟨w.heap.size, 4, none⟩) (by show w.heap.size < w2.heap.size + 1; omega) _).setLow (p := ⟨w.heap.size, 5, none⟩) (by show w.heap.size < w2.heap.size + 1; omega) _).at_, HPC.out⟩
    · have HE1 := hide e1
      clear e1
      obtain ⟨f1, f2, f3⟩ := f
      unfold cfgV zeroC
      go_wp2
      refine bodyPost_ret (res_cell_t3 rfl _ _ w.heap.size _ rfl (load_cfg ((((((HB9.out.set_ 0 (.int .u64 0)).set_ 1 (.slice none 0 0)).set_ 2 (.slice none 0 0)).set_ 3 (.slice none 0 0)).set_ 4 (.slice none 0 0)).set_ 5 (.slice none 0 0)) rfl)) rfl ?_
      rw [HP.out, HE1.out]
      exact ⟨((((((HL9.out.setCell (p := ⟨w.heap.size, 0, none⟩) (Nat.le_refl _) _).setCell (p := ⟨w.heap.size, 1, none⟩) (Nat.le_refl _) _).setCell (p := ⟨w.heap.size, 2, none⟩) (Nat.le_refl _) _).setCell (p := ⟨w.heap.size, 3, none⟩) (Nat.le_refl _) _).setCell (p := ⟨w.heap.size, 4, none⟩) (Nat.le_refl _) _).setCell (p := ⟨w.heap.size, 5, none⟩) (Nat.le_refl _) _), rfl⟩
set_option maxRecDepth 100000 in
set_option maxHeartbeats 2000000 in
theorem RParse_calls (x : ByteArray) (hx : x.size ≤ 100000000000000) (w : World) :
    Calls Tryz.prog 11 #[.string x] w (ParseRV (parseO x) w) := by
  have HT := hide (fun W => RefTokens_calls x hx W)
  cases ho : outOf x with
  | bad c0 i0 j0 =>
    have hc0 := out_code ho
    have HP : Hid (parseO x = .error (c0, i0, j0)) := hide (by unfold parseO; rw [ho])
    rw [ho] at HT
    have HT1 : Hid (∀ W, Calls Tryz.prog 13 #[.string x] W fun e w' => Below W.heap.size W w' ∧ e = .returned (.tuple #[.slice none 0 0, .int .i64 (c0 : Int), .int .i64 (i0 : Int), .int .i64 (j0 : Int)])) := hide (fun W => HT.out W)
    have d0 : ((c0 : Int) != 0) = true := by rw [bne_iff_ne]; omega
    rw [HP.out]
    have HB := hide (Blk.new w 30 #[.int .u64 0, .slice none 0 0, .slice none 0 0, .slice none 0 0, .slice none 0 0, .slice none 0 0])
    clear HT ho hx HP hc0
    go_enter Tryz.func11, Tryz.ntmps11
    go_wp2_with (go_at_call 13; refine (HT1.out _).mono ?_; rintro e w2 ⟨hb2, rfl⟩; have HB2 := hide (HB.out.below hb2 (by simp)); have HBL := hide (((Below.refl w.heap.size w).alloc (Nat.le_refl _) (.cells #[.int .u64 0, .slice none 0 0, .slice none 0 0, .slice none 0 0, .slice none 0 0, .slice none 0 0] 30)).trans (hb2.mono (by simp))); have r0 := HB2.out.cell 0; have r1 := HB2.out.cell 1; have r2 := HB2.out.cell 2; have r3 := HB2.out.cell 3; have r4 := HB2.out.cell 4; have r5 := HB2.out.cell 5; have rf := (fun i => HB2.out.frozen i); have hWw := HB2.out.lt; clear hb2)
    refine bodyPost_ret (res_cell_t3 rfl _ _ w.heap.size _ rfl (load_cfg ((((((HB2.out.set_ 0 (.int .u64 0)).set_ 1 (.slice none 0 0)).set_ 2 (.slice none 0 0)).set_ 3 (.slice none 0 0)).set_ 4 (.slice none 0 0)).set_ 5 (.slice none 0 0)) rfl)) rfl ⟨((((((HBL.out.setCell (p := ⟨w.heap.size, 0, none⟩) (Nat.le_refl _) _).setCell (p := ⟨w.heap.size, 1, none⟩) (Nat.le_refl _) _).setCell (p := ⟨w.heap.size, 2, none⟩) (Nat.le_refl _) _).setCell (p := ⟨w.heap.size, 3, none⟩) (Nat.le_refl _) _).setCell (p := ⟨w.heap.size, 4, none⟩) (Nat.le_refl _) _).setCell (p := ⟨w.heap.size, 5, none⟩) (Nat.le_refl _) _), rfl⟩
  | ok l =>
    obtain ⟨hEL, hTZ, _⟩ := out_facts ho
    have HP : Hid (parseO x = endT moduleT l) := hide (by unfold parseO; rw [ho]; rfl)
    rw [ho] at HT
    have HT1 : Hid (∀ W, Calls Tryz.prog 13 #[.string x] W fun e w' => Below W.heap.size W w' ∧ ∃ v, e = .returned (.tuple #[v, .int .i64 0, .int .i64 0, .int .i64 0]) ∧ w'.ownsRow W.heap.size 45 5 v l.length (tokCells l)) := hide (fun W => HT.out W)
    have HEL := hide hEL
    have HTZ := hide hTZ
    have HB := hide (Blk.new w 30 #[.int .u64 0, .slice none 0 0, .slice none 0 0, .slice none 0 0, .slice none 0 0, .slice none 0 0])
    clear HT ho hx hEL hTZ
    go_enter Tryz.func11, Tryz.ntmps11
    go_wp2_with (go_at_call 13; refine (HT1.out _).mono ?_; rintro e w2 ⟨hb2, v, rfl, hown⟩; obtain ⟨A, cap, hv, hst⟩ := st_start hown HEL.out; subst hv; have HB2 := hide (HB.out.below hb2 (by simp)); have HBL := hide (((Below.refl w.heap.size w).alloc (Nat.le_refl _) (.cells #[.int .u64 0, .slice none 0 0, .slice none 0 0, .slice none 0 0, .slice none 0 0, .slice none 0 0] 30)).trans (hb2.mono (by simp))); have HS0 := hide hst; have hWX := HB2.out.lt; clear hb2 hown hst)
    have hXz : w2.heap.size < (w2.alloc (.cells #[.slice A l.length cap, .int .i64 0, .int .i64 0, .int .i64 0, .string ⟨#[]⟩, .int .u64 0, .int .i64 0, .int .i64 0, .int .u64 0, .slice none 0 0, .slice none 0 0, .slice none 0 0, .slice none 0 0, .slice none 0 0] 65)).heap.size := by simp
    have HB3 := hide (HB2.out.alloc (.cells #[.slice A l.length cap, .int .i64 0, .int .i64 0, .int .i64 0, .string ⟨#[]⟩, .int .u64 0, .int .i64 0, .int .i64 0, .int .u64 0, .slice none 0 0, .slice none 0 0, .slice none 0 0, .slice none 0 0, .slice none 0 0] 65))
    have HBA := hide (HBL.out.alloc (by omega) (.cells #[.slice A l.length cap, .int .i64 0, .int .i64 0, .int .i64 0, .string ⟨#[]⟩, .int .u64 0, .int .i64 0, .int .i64 0, .int .u64 0, .slice none 0 0, .slice none 0 0, .slice none 0 0, .slice none 0 0, .slice none 0 0] 65))
    have HO3 := hide (OnlyX.refl w2.heap.size (w2.alloc (.cells #[.slice A l.length cap, .int .i64 0, .int .i64 0, .int .i64 0, .string ⟨#[]⟩, .int .u64 0, .int .i64 0, .int .i64 0, .int .u64 0, .slice none 0 0, .slice none 0 0, .slice none 0 0, .slice none 0 0, .slice none 0 0] 65)))
    go_wp2_with fail
    refine (RWant_calls ⟨#[109, 111, 100, 117, 108, 101]⟩ w2.heap.size _ _ _ HS0.out).mono ?_
    rintro e w4 ⟨ho4, u4, s4, rfl, _, hl4, hs4⟩
    have HO4 := hide (OnlyX.trans HO3.out ho4); have HL4 := hide hl4; have HS4 := hide hs4
    clear ho4 hl4 hs4
    unfold unitV
    go_wp2_with fail
    refine (RWant_calls ⟨#[123]⟩ w2.heap.size _ _ _ HS4.out).mono ?_
    rintro e w5 ⟨ho5, u5, s5, rfl, _, hl5, hs5⟩
    have HO5 := hide (OnlyX.trans HO4.out ho5); have HL5 := hide hl5; have HS5 := hide hs5
    clear ho5 hl5 hs5
    unfold unitV
    have HFT : Hid (∀ x s W, StAt w2.heap.size s zeroC W → Calls Tryz.prog 26 #[.pointer (some ⟨w2.heap.size, 0, none⟩), .string x, .int .u64 ((topN : Nat) : Int)] W (RfV (fieldT x.data.toList topN) natV (fun n => n ≤ topN) w2.heap.size s zeroC W)) := hide (fun x s W hW => RField_calls x topN w2.heap.size s zeroC W hW)
    go_wp2_with (go_at_call 27; refine (Rtop_calls _).mono ?_; rintro e wq ⟨rfl, rfl⟩)
    refine (HFT.out ⟨#[102, 114, 97, 109, 101]⟩ _ _ HS5.out).mono ?_
    rintro e w6 ⟨ho6, n, s6, rfl, hn, hl6, hs6⟩
    have HO6 := hide (OnlyX.trans HO5.out ho6); have HL6 := hide hl6; have HS6 := hide hs6
    have HN := hide hn
    clear ho6 hl6 hs6 hn
    unfold natV
    have g8 := HS6.out.cfg.1
    have fz := HS6.out.frz
    have hX6 := HS6.out.lt
    have HS7 := hide (HS6.out.setF n)
    have HO7 := hide (HO6.out.set 8 (.int .u64 (n : Int)))
    have HZ7 : Hid (s6.err = none → OkC (pcOf { zeroC with frame := n }) ∧ Tsz s6.l) := hide (fun he => by
      obtain ⟨a6, b6, c6⟩ := HL6.out.post (pok_field _ _) he (fun h5 => (HL5.out.post (pok_want _) h5 (fun h4 => (HL4.out.post (pok_want _) h4 (fun _ => HTZ.out)).2.1)).2.1)
      exact ⟨ok_zero (lt64 c6), b6⟩)
    go_wp2_with fail
    refine (RRecords_calls w2.heap.size s6 { zeroC with frame := n } _ HS7.out (OwnC.zero _ n _) HZ7.out).mono ?_
    rintro e w7 ⟨rfl, hlow, cE, s7, hs7, ho7, hl7⟩
    have HS8 := hide hs7
    have HC8 := hide ho7
    have HL7 := hide hl7
    have HB8 := hide ((HO7.out.blk HB3.out (by omega)).below hlow (by omega))
    have HW8 := hide ((HBA.out.trans ((HO7.out.low hXz).mono (by omega))).trans (hlow.mono (by omega)))
    clear hlow hs7 ho7 hl7
    go_wp2_with fail
    refine (RWant_calls ⟨#[125]⟩ w2.heap.size _ _ _ HS8.out).mono ?_
    rintro e w8 ⟨ho8, u8, sE, rfl, _, hl8, hs8⟩
    have HSE := hide hs8
    have HOE := hide (HS8.out.own HC8.out ho8)
    have HLL : Hid (Lf moduleT ⟨l, none⟩ (pcOf cE) sE) := hide (HL4.out.bind (HL5.out.bind (HL6.out.bind (HL7.out.bind (hl8.bind (Lf.pure _ _))))))
    have HBE := hide (ho8.blk HB8.out (by omega))
    have HLE := hide (HW8.out.trans ((ho8.low HS8.out.lt).mono (by omega)))
    clear ho8 hl8 hs8
    unfold unitV
    go_wp2_with fail
    refine (RFinish_calls w2.heap.size _ _ _ HSE.out).mono ?_
    rintro e w9 ⟨hF, ho9⟩
    have HB9 := hide (ho9.blk HBE.out (by omega))
    have HL9 := hide (HLE.out.trans ((ho9.low HSE.out.lt).mono (by omega)))
    have hOE := hide (HSE.out.own HOE.out ho9)
    have hfl := fin_law rfl HLL.out hF HSE.out.form
    clear ho9 hF
    have r0 := HB9.out.cell 0
    have r1 := HB9.out.cell 1
    have r2 := HB9.out.cell 2
    have r3 := HB9.out.cell 3
    have r4 := HB9.out.cell 4
    have r5 := HB9.out.cell 5
    have rf := (fun i => HB9.out.frozen i)
    have hWw := HB9.out.lt
    rcases hfl with ⟨pc, e1, e2, rfl⟩ | ⟨f, e1, rfl⟩
    · have HPC := hide e2
      have HE1 := hide e1
      clear e1 e2
      unfold cfgV
      go_wp2
      refine bodyPost_ret (res_cell_t3 rfl _ _ w.heap.size _ rfl (load_cfg ((((((HB9.out.set_ 0 (.int .u64 (cE.frame : Int))).set_ 1 (.slice cE.parts.a cE.parts.l.length cE.parts.c)).set_ 2 (.slice cE.wins.a cE.wins.l.length cE.wins.c)).set_ 3 (.slice cE.regs.a cE.regs.l.length cE.regs.c)).set_ 4 (.slice cE.ports.a cE.ports.l.length cE.ports.c)).set_ 5 (.slice cE.chans.a cE.chans.l.length cE.chans.c)) rfl)) rfl ?_
      rw [HP.out, HE1.out]
      exact ⟨((((((HL9.out.setCell (p := ⟨w.heap.size, 0, none⟩) (Nat.le_refl _) _).setCell (p := ⟨w.heap.size, 1, none⟩) (Nat.le_refl _) _).setCell (p := ⟨w.heap.size, 2, none⟩) (Nat.le_refl _) _).setCell (p := ⟨w.heap.size, 3, none⟩) (Nat.le_refl _) _).setCell (p := ⟨w.heap.size, 4, none⟩) (Nat.le_refl _) _).setCell (p := ⟨w.heap.size, 5, none⟩) (Nat.le_refl _) _), cE, rfl, ((((((hOE.out.setLow (p := ⟨w.heap.size, 0, none⟩) (by show w.heap.size < w2.heap.size + 1; omega) _).setLow (p := ⟨w.heap.size, 1, none⟩) (by show w.heap.size < w2.heap.size + 1; omega) _).setLow (p := ⟨w.heap.size, 2, none⟩) (by show w.heap.size < w2.heap.size + 1; omega) _).setLow (p := ⟨w.heap.size, 3, none⟩) (by show w.heap.size < w2.heap.size + 1; omega) _).setLow (p := ⟨w.heap.size, 4, none⟩) (by show w.heap.size < w2.heap.size + 1; omega) _).setLow (p := ⟨w.heap.size, 5, none⟩) (by show w.heap.size < w2.heap.size + 1; omega) _).at_, HPC.out⟩
    · have HE1 := hide e1
      clear e1
      obtain ⟨f1, f2, f3⟩ := f
      unfold cfgV zeroC
      go_wp2
      refine bodyPost_ret (res_cell_t3 rfl _ _ w.heap.size _ rfl (load_cfg ((((((HB9.out.set_ 0 (.int .u64 0)).set_ 1 (.slice none 0 0)).set_ 2 (.slice none 0 0)).set_ 3 (.slice none 0 0)).set_ 4 (.slice none 0 0)).set_ 5 (.slice none 0 0)) rfl)) rfl ?_
      rw [HP.out, HE1.out]
      exact ⟨((((((HL9.out.setCell (p := ⟨w.heap.size, 0, none⟩) (Nat.le_refl _) _).setCell (p := ⟨w.heap.size, 1, none⟩) (Nat.le_refl _) _).setCell (p := ⟨w.heap.size, 2, none⟩) (Nat.le_refl _) _).setCell (p := ⟨w.heap.size, 3, none⟩) (Nat.le_refl _) _).setCell (p := ⟨w.heap.size, 4, none⟩) (Nat.le_refl _) _).setCell (p := ⟨w.heap.size, 5, none⟩) (Nat.le_refl _) _), rfl⟩
end Go.Proofs.YtdpieljopelkhaaGreatDoor
