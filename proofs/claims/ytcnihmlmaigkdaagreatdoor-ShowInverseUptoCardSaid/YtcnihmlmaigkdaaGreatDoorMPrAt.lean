/- The parser in memory: its cells, its rows; behind a record's reader (chapter 07). The parser's record of kind 1 (chapter 07). Written by genprrec.py. The parser's record of kind 2 (chapter 07). Written by genprrec.py. -/
import Derived.Test.YtcnihmlmaigkdaaGreatDoorMPrRead
import Derived.Test.YtcnihmlmaigkdaaGreatDoorPrRights
import Derived.Test.YtcnihmlmaigkdaaGreatDoorMMem
import Derived.Deep.RegionHeld3
import Derived.Deep.DeepCutAuto
import Derived.RegionDies
namespace Go.Proofs.YtcnihmlmaigkdaaGreatDoor
open Go.RowKit Go.Lib Go.Sort
set_option linter.unusedVariables false

section
variable {X : Nat} {l : List Token} {c : Cfg} {k : Nat} {w w' : World}
theorem PrAt.far (h : PrAt X l c k w) {p : Addr} (hp : X < p.block) (u : Value) : PrAt X l c k (w.setCell p u) := by
  obtain ⟨A, cap, h1, h2, h3, h4, h5⟩ := h
  exact ⟨A, cap, h1.far (by omega) u, h2, h3, h4.below ((Below.refl X w).setCell (by omega) u), h5⟩
theorem PrAt.grown (h : PrAt X l c k w) {row : Option Nat} (hg : w.grownBy w' row) (hr : ∀ r, row = some r → X < r) : PrAt X l c k w' := by
  have hX := h.lt
  obtain ⟨A, cap, h1, h2, h3, h4, h5⟩ := h
  exact ⟨A, cap, h1.grown hg (fun e => by have := hr X e.symm; omega), h2, h3, h4.below ((Below.refl X w).grown hg (by omega) (fun r e => by have := hr r e; omega)), h5⟩
theorem PrAt.cfg (h : PrAt X l c k w) : w.cell? ⟨X, 1, none⟩ = some (.int .u64 (c.frame : Int)) ∧ w.cell? ⟨X, 2, none⟩ = some (.slice c.parts.a c.parts.l.length c.parts.c) ∧ w.cell? ⟨X, 3, none⟩ = some (.slice c.wins.a c.wins.l.length c.wins.c) ∧ w.cell? ⟨X, 4, none⟩ = some (.slice c.regs.a c.regs.l.length c.regs.c) ∧ w.cell? ⟨X, 5, none⟩ = some (.slice c.ports.a c.ports.l.length c.ports.c) ∧ w.cell? ⟨X, 6, none⟩ = some (.slice c.chans.a c.chans.l.length c.chans.c) ∧ w.cell? ⟨X, 7, none⟩ = some (.int .i64 (k : Int)) := by
  obtain ⟨A, cap, h1, h2, h3, h4, h5⟩ := h
  exact ⟨h1.cell 1, h1.cell 2, h1.cell 3, h1.cell 4, h1.cell 5, h1.cell 6, h1.cell 7⟩
theorem PrAt.frz (h : PrAt X l c k w) : ∀ i, w.frozen? ⟨X, i, none⟩ = false := by
  obtain ⟨A, cap, h1, h2, h3, h4, h5⟩ := h
  exact fun i => h1.frozen i
theorem PrAt.own {B : Nat} (h : PrAt X l c k w) (ho : OwnC B c w) (hb : OnlyX X w w') : OwnC B c w' := by
  obtain ⟨_, _, h1, _⟩ := h
  exact ho.but hb h1 (by decide)
theorem OwnC.setPr {B : Nat} (h : PrAt X l c k w) {c' : Cfg} (ho : OwnC B c' w) (i : Nat) (u : Value) : OwnC B c' (w.setCell ⟨X, i, none⟩ u) := by
  obtain ⟨_, _, h1, _⟩ := h
  exact ho.setCell h1 (by decide) i u
theorem PrAt.setX {c' : Cfg} {k' : Nat} {A : Option Addr} {cap i : Nat} {u : Value} (h1 : Blk (w.setCell ⟨X, i, none⟩ u) X 131 (prC A l.length cap c' k')) (h2 : l.length ≤ cap) (h3 : cap ≤ 9223372036854775807) (h4 : Reads w X 5 A l.length (tokCells l)) (h5 : EndL l) : PrAt X l c' k' (w.setCell ⟨X, i, none⟩ u) :=
  ⟨A, cap, h1, h2, h3, h4.below ((Below.refl X w).setCell (Nat.le_refl _) u), h5⟩
theorem PrAt.setF (h : PrAt X l c k w) (n : Nat) : PrAt X l { c with frame := n } k (w.setCell ⟨X, 1, none⟩ (.int .u64 (n : Int))) := by
  obtain ⟨A, cap, h1, h2, h3, h4, h5⟩ := h
  exact PrAt.setX (h1.set_ 1 _) h2 h3 h4 h5
theorem PrAt.setL (h : PrAt X l c k w) (n : Nat) : PrAt X l c n (w.setCell ⟨X, 7, none⟩ (.int .i64 (n : Int))) := by
  obtain ⟨A, cap, h1, h2, h3, h4, h5⟩ := h
  exact PrAt.setX (h1.set_ 7 _) h2 h3 h4 h5
theorem PrAt.setP (h : PrAt X l c k w) (y : List PartR) (a : Option Addr) (n : Nat) : PrAt X l { c with parts := ⟨y, a, n⟩ } k (w.setCell ⟨X, 2, none⟩ (.slice a y.length n)) := by
  obtain ⟨A, cap, h1, h2, h3, h4, h5⟩ := h
  exact PrAt.setX (h1.set_ 2 _) h2 h3 h4 h5
theorem PrAt.setW (h : PrAt X l c k w) (y : List WinR) (a : Option Addr) (n : Nat) : PrAt X l { c with wins := ⟨y, a, n⟩ } k (w.setCell ⟨X, 3, none⟩ (.slice a y.length n)) := by
  obtain ⟨A, cap, h1, h2, h3, h4, h5⟩ := h
  exact PrAt.setX (h1.set_ 3 _) h2 h3 h4 h5
theorem PrAt.setR (h : PrAt X l c k w) (y : List RegR) (a : Option Addr) (n : Nat) : PrAt X l { c with regs := ⟨y, a, n⟩ } k (w.setCell ⟨X, 4, none⟩ (.slice a y.length n)) := by
  obtain ⟨A, cap, h1, h2, h3, h4, h5⟩ := h
  exact PrAt.setX (h1.set_ 4 _) h2 h3 h4 h5
theorem PrAt.setQ (h : PrAt X l c k w) (y : List PortR) (a : Option Addr) (n : Nat) : PrAt X l { c with ports := ⟨y, a, n⟩ } k (w.setCell ⟨X, 5, none⟩ (.slice a y.length n)) := by
  obtain ⟨A, cap, h1, h2, h3, h4, h5⟩ := h
  exact PrAt.setX (h1.set_ 5 _) h2 h3 h4 h5
theorem PrAt.setC (h : PrAt X l c k w) (y : List ChanR) (a : Option Addr) (n : Nat) : PrAt X l { c with chans := ⟨y, a, n⟩ } k (w.setCell ⟨X, 6, none⟩ (.slice a y.length n)) := by
  obtain ⟨A, cap, h1, h2, h3, h4, h5⟩ := h
  exact PrAt.setX (h1.set_ 6 _) h2 h3 h4 h5
end
/-- The maps stand. -/
def MK (X : Nat) (w w' : World) : Prop := ∀ g es clock, g ≠ X → w.heap[g]? = some (.map es clock) → w'.heap[g]? = some (.map es clock)
section
variable {X : Nat} {a b c : World}
theorem MK.refl (X : Nat) (w : World) : MK X w w := fun _ _ _ _ h => h
theorem MK.trans (h : MK X a b) (k : MK X b c) : MK X a c := fun g es cl hn hg => k g es cl hn (h g es cl hn hg)
theorem MK.of_only (h : OnlyX X a b) : MK X a b := fun g es cl hn hg => (h.block g (Array.getElem?_eq_some_iff.1 hg).1 hn).trans hg
theorem MK.alloc (h : MK X a b) (o : Obj) : MK X a (b.alloc o) := h.trans (MK.of_only ((OnlyX.refl X b).alloc o))
theorem MK.drew (h : MK X a b) : MK X a b.drew := h
theorem MK.setX (h : MK X a b) (i : Nat) (u : Value) : MK X a (b.setCell ⟨X, i, none⟩ u) := h.trans (MK.of_only ((OnlyX.refl X b).set i u))
theorem MK.grown (h : MK X a b) {B size n : Nat} {e : TypeId} {v : Value} {xs : List Value} (ho : b.ownsRow B e size v n xs) (hg : b.grownBy c v.ownBlock) : MK X a c := fun g es cl hn hgm => by
  have h1 := h g es cl hn hgm
  refine (hg.block g (Array.getElem?_eq_some_iff.1 h1).1 (fun he => ?_)).trans h1
  rcases ho.2 with ⟨rfl, _⟩ | ⟨r, cap, cur, rfl, hbs, hr, rest⟩
  · simp [Value.ownBlock] at he
  · have he : g = r := by simpa [Value.ownBlock] using he
    subst he
    have hr : b.heap[g]? = some (.cells cur e (0, 0)) := hr
    rw [h1] at hr
    cases hr
end
/-- A record's reader, its word read (the token t). -/
def methT (k : Nat) (c : PC) (t : Token) : PM PC := if limN k ≤ cntK c k then fun _ => .error (7, t.line, t.col) else bodyT k c
/-- Behind a record's reader. -/
def RecV (k X : Nat) (t : Token) (l : List Token) (c : Cfg) (w : World) (e : Ending) (w' : World) : Prop :=
  Below X w w' ∧ ((∃ c' r, methT k (pcOf c) t l = .ok (pcOf c', r) ∧ e = .returned (.tuple #[]) ∧ PrAt X r c' (linksN c'.chans.l) w' ∧ OwnC (X + 1) c' w' ∧ MK X w w') ∨ ∃ f, methT k (pcOf c) t l = .error f ∧ e = .panicked [fltE f])
theorem methT_lim {k : Nat} {c : PC} {t : Token} {l : List Token} (h : limN k ≤ cntK c k) : methT k c t l = .error (7, t.line, t.col) := by unfold methT; rw [if_pos h]
theorem methT_ok {k : Nat} {c : PC} {t : Token} {l : List Token} (h : ¬ limN k ≤ cntK c k) : methT k c t l = bodyT k c l := by unfold methT; rw [if_neg h]
theorem pcOf_chanP (c : Cfg) (x : ChanR) (a : Option Addr) (k : Nat) : pcOf { c with chans := ⟨c.chans.l ++ [x], a, k⟩ } = { pcOf c with chans := (pcOf c).chans ++ [(x.id, x.src, x.dests)] } := by simp [pcOf, chanK]
theorem pwinI : (Tryz.prog.info? 69).map (fun i => (i.zero, i.size, i.bytes)) = some (some (.agg #[.int .u64 0, .int .u64 0, .int .u16 0]), 3, 24) := by kernel_rfl
theorem ppartI : (Tryz.prog.info? 66).map (fun i => (i.zero, i.size, i.bytes)) = some (some (.agg #[.int .u16 0, .string ⟨#[]⟩, .int .u64 0, .int .u64 0]), 4, 40) := by kernel_rfl
theorem pregI : (Tryz.prog.info? 54).map (fun i => (i.zero, i.size, i.bytes)) = some (some (.agg #[.int .u64 0, .int .u64 0, .int .u16 0, .int .u8 0, .bool false]), 5, 24) := by kernel_rfl
theorem pportI : (Tryz.prog.info? 74).map (fun i => (i.zero, i.size, i.bytes)) = some (some (.agg #[.int .u16 0, .int .u16 0, .string ⟨#[]⟩, .bool false, .bool false, .int .u32 0]), 6, 32) := by kernel_rfl
theorem pchanI : (Tryz.prog.info? 57).map (fun i => (i.zero, i.size, i.bytes)) = some (some (.agg #[.int .u16 0, .int .u16 0, .slice none 0 0]), 3, 32) := by kernel_rfl
theorem ppartO (x : PartR) : ∀ u ∈ partL x, u.oneCell' = true := by intro u hu; simp only [partL, List.mem_cons, List.not_mem_nil, or_false] at hu; rcases hu with rfl | rfl | rfl | rfl <;> rfl
theorem pwinO (x : WinR) : ∀ u ∈ winL x, u.oneCell' = true := by intro u hu; simp only [winL, List.mem_cons, List.not_mem_nil, or_false] at hu; rcases hu with rfl | rfl | rfl <;> rfl
theorem pregO (x : RegR) : ∀ u ∈ regL x, u.oneCell' = true := by intro u hu; simp only [regL, List.mem_cons, List.not_mem_nil, or_false] at hu; rcases hu with rfl | rfl | rfl | rfl | rfl <;> rfl
theorem pportO (x : PortR) : ∀ u ∈ portL x, u.oneCell' = true := by intro u hu; simp only [portL, List.mem_cons, List.not_mem_nil, or_false] at hu; rcases hu with rfl | rfl | rfl | rfl | rfl | rfl <;> rfl
theorem pchanO (x : ChanR) : ∀ u ∈ chanL x, u.oneCell' = true := by intro u hu; simp only [chanL, List.mem_cons, List.not_mem_nil, or_false] at hu; rcases hu with rfl | rfl | rfl <;> rfl
theorem takeT_calls (kind : Nat) (hk : kind ≠ 0) (X : Nat) (l : List Token) (c : Cfg) (k : Nat) (w : World) (h : PrAt X l c k w) :
    Calls Tryz.prog 77 #[.pointer (some ⟨X, 0, none⟩), .int .i64 (kind : Int)] w fun e w' => RdV (takeT kind) tokVal X l c k w e w' ∧ ∀ t r, takeT kind l = .ok (t, r) → t.kind = kind := by
  obtain ⟨t, r, hl⟩ := h.form
  subst hl
  refine (take_calls kind X t r c k w h).mono ?_
  rintro e w' ⟨ho, ⟨h1, rfl, h2, _⟩ | ⟨h1, rfl⟩⟩
  · have hm : takeT kind (t :: r) = .ok (t, r) := by unfold takeT; simp only; rw [if_pos h1]
    exact ⟨⟨ho, .inl ⟨t, r, hm, rfl, h2 (by omega)⟩⟩, fun t2 r2 h => by rw [hm] at h; injection h with h; injection h with h3 h4; rw [← h3]; exact h1⟩
  · have hm : takeT kind (t :: r) = .error (4, t.line, t.col) := by unfold takeT; simp only; rw [if_neg h1]
    exact ⟨⟨ho, .inr ⟨_, hm, rfl⟩⟩, fun t2 r2 h => by rw [hm] at h; cases h⟩
theorem ptok_f1 (k v i j : Int) (x : ByteArray) (w : World) : (Instr.field 132 (.agg #[.int .i64 k, .string x, .int .u64 v, .int .i64 i, .int .i64 j]) 1).run Tryz.prog w = .ok (.string x) w := by kernel_rfl
theorem want1_at (x : ByteArray) (b X : Nat) (l : List Token) (c : Cfg) (k : Nat) (w : World) (h : PrAt X l c k w) (hb : w.heap.size = b) :
    Calls Tryz.prog 78 #[.pointer (some ⟨X, 0, none⟩), .slice (some ⟨b, 0, none⟩) 1 1] (w.alloc (.cells #[.string x] 9)) (RdV (wantT x.data.toList) unitV2 X l c k (w.alloc (.cells #[.string x] 9))) := by
  subst hb
  exact want1_calls x X l c k w h
theorem want2_at (x y : ByteArray) (b X : Nat) (l : List Token) (c : Cfg) (k : Nat) (w : World) (h : PrAt X l c k w) (hb : w.heap.size = b) :
    Calls Tryz.prog 78 #[.pointer (some ⟨X, 0, none⟩), .slice (some ⟨b, 0, none⟩) 2 2] (w.alloc (.cells #[.string x, .string y] 9)) (RdV (wantsT [x, y]) unitV2 X l c k (w.alloc (.cells #[.string x, .string y] 9))) := by
  subst hb
  exact want2_calls x y X l c k w h
theorem is_at (x : ByteArray) (X : Nat) (l : List Token) (c : Cfg) (k : Nat) (w : World) (h : PrAt X l c k w) :
    Calls Tryz.prog 132 #[.pointer (some ⟨X, 0, none⟩), .string x] w fun e w' => e = .returned (.bool (isT x.data.toList l)) ∧ Below w.heap.size w w' := by
  obtain ⟨t, r, hl⟩ := h.form
  subst hl
  exact is_calls x X t r c k w h
theorem shared_w {l r : List Token} {u : Unit} (h : isT [115, 104, 97, 114, 101, 100] l = true) (h2 : wantsT [⟨#[115, 104, 97, 114, 101, 100]⟩, ⟨#[59]⟩] l = .ok (u, r)) : sharedT l = .ok (true, r) := by
  unfold sharedT
  rw [if_pos h]
  have e0 : wantsT [⟨#[115, 104, 97, 114, 101, 100]⟩, ⟨#[59]⟩] l = bindT (wantT [115, 104, 97, 114, 101, 100]) (fun _ => wantsT [⟨#[59]⟩]) l := rfl
  rw [e0] at h2
  cases h1 : wantT [115, 104, 97, 114, 101, 100] l with
  | error e => rw [bindT_err h1] at h2; cases h2
  | ok p =>
    obtain ⟨v, r1⟩ := p
    rw [bindT_ok h1] at h2 ⊢
    have e2 : wantT [59] r1 = .ok (u, r) := (wants1 ⟨#[59]⟩ r1).trans h2
    rw [bindT_ok e2]
    rfl
theorem shared_we {l : List Token} {f : Flt} (h : isT [115, 104, 97, 114, 101, 100] l = true) (h2 : wantsT [⟨#[115, 104, 97, 114, 101, 100]⟩, ⟨#[59]⟩] l = .error f) : sharedT l = .error f := by
  unfold sharedT
  rw [if_pos h]
  have e0 : wantsT [⟨#[115, 104, 97, 114, 101, 100]⟩, ⟨#[59]⟩] l = bindT (wantT [115, 104, 97, 114, 101, 100]) (fun _ => wantsT [⟨#[59]⟩]) l := rfl
  rw [e0] at h2
  cases h1 : wantT [115, 104, 97, 114, 101, 100] l with
  | error e => rw [bindT_err h1] at h2 ⊢; injection h2 with h2; rw [h2]
  | ok p =>
    obtain ⟨v, r1⟩ := p
    rw [bindT_ok h1] at h2 ⊢
    have e2 : wantT [59] r1 = .error f := (wants1 ⟨#[59]⟩ r1).trans h2
    rw [bindT_err e2]
theorem shared_wn {l : List Token} (h : isT [115, 104, 97, 114, 101, 100] l = false) : sharedT l = .ok (false, l) := by unfold sharedT; rw [if_neg (by rw [h]; decide)]
theorem rights_w {l r : List Token} {t : Token} {n : Nat} (h : takeT 1 l = .ok (t, r)) (hn : rightsN t.text = some n) : rightsT l = .ok (n, r) := by
  unfold rightsT
  rw [bindT_ok h, hn]
  rfl
theorem rights_wn {l r : List Token} {t : Token} (h : takeT 1 l = .ok (t, r)) (hn : rightsN t.text = none) : rightsT l = .error (4, t.line, t.col) := by
  unfold rightsT
  rw [bindT_ok h, hn]
theorem rights_we {l : List Token} {f : Flt} (h : takeT 1 l = .error f) : rightsT l = .error f := by
  unfold rightsT
  rw [bindT_err h]
theorem mixed_progP : Tryz.prog.follows .mixedOrders = true := by kernel_rfl
theorem pnew_reads (w : World) (cs : Array Value) (t : TypeId) (k : Nat) (hk : cs.size = k) : Reads (w.alloc (.cells cs t)).drew (w.heap.size + 1) k (some ⟨w.heap.size, 0, none⟩) 1 cs.toList :=
  ⟨by simp [hk], fun _ => ⟨_, rfl, by simp, fun j u hu => by
    rw [addr_plain, Nat.zero_add]
    have := (Blk.new w t cs).drew.cell j
    rw [this, ← Array.getElem?_toList]
    exact hu⟩⟩
end Go.Proofs.YtcnihmlmaigkdaaGreatDoor
namespace Go.Proofs.YtcnihmlmaigkdaaGreatDoor
open Go.RowKit Go.Lib Go.Sort
set_option linter.unusedVariables false

set_option maxRecDepth 100000 in
set_option maxHeartbeats 16000000 in
theorem PRec1_calls (X : Nat) (l : List Token) (c : Cfg) (t : Token) (w : World) (h : PrAt X l c (linksN c.chans.l) w) (ho : OwnC (X + 1) c w) :
    Calls Tryz.prog 80 #[.pointer (some ⟨X, 0, none⟩), .agg (tokV t)] w (RecV 1 X t l c w) := by
  have hXl := h.lt
  have hcnt : cntK (pcOf c) 1 = c.parts.l.length := by first | rfl | (show (c.chans.l.map chanK).length = _; simp)
  have hlm : limN 1 = 64 := rfl
  have hLB := fun hh W => limit_bad (c.parts.l.length : Int) 64 t hh W
  have hLO := fun hh W => limit_ok (c.parts.l.length : Int) 64 t hh W
  have HT0 := hide (fun hh => methT_lim (k := 1) (c := pcOf c) (t := t) (l := l) hh)
  have HT1 := hide (fun hh => methT_ok (k := 1) (c := pcOf c) (t := t) (l := l) hh)
  rw [hcnt, hlm] at HT0 HT1
  have hRV : Hid (∀ e w', RecV 1 X t l c w e w' = RecV 1 X t l c w e w') := hide (fun _ _ => rfl)
  obtain ⟨MT, hMT⟩ : ∃ m, m = methT 1 (pcOf c) t := ⟨_, rfl⟩
  unfold RecV
  rw [← hMT] at HT0 HT1 ⊢
  have HMT := hide hMT
  obtain ⟨q0, q1, q2, q3, q4, q5, q6⟩ := h.cfg
  have HP := hide h
  have HOW := hide ho
  obtain ⟨fl, hfl⟩ : ∃ f : Flt, f = (7, t.line, t.col) := ⟨_, rfl⟩
  rw [← hfl] at HT0 hLB
  obtain ⟨kind, text, v, li, co⟩ := t
  unfold tokV tokC at hLB hLO ⊢
  simp only at hLB hLO ⊢
  generalize (⟨text.toArray⟩ : ByteArray) = y at *
  clear h ho hfl hMT hcnt hlm hRV
  by_cases hlim : 64 ≤ c.parts.l.length
  · have HLB := hide (hLB (by omega))
    have HRS := hide (HT0.out hlim)
    clear hLB hLO HT0 HT1 hlim
    go_enter Tryz.func80, Tryz.ntmps80
    go_wp2_with fail
    go_region_dies
    all_goals go_wp2_with (go_at_call 134; refine (HLB.out _).mono ?_; rintro e w5 ⟨rfl, hb5⟩; exact ⟨rfl, (by refine Below.trans ?_ (hb5.mono (by simp; omega)); repeat (first | exact Below.refl _ _ | apply Below.drew | refine Below.alloc ?_ (by omega) _)), .inr ⟨fl, HRS.out, rfl⟩⟩)
  · have HLO := hide (hLO (by omega))
    have HRS : Hid (MT l = partT (pcOf c) l) := hide (HT1.out hlim)
    clear hLB hLO HT0 HT1
    have mixed := mixed_progP
    have HID : Hid (∀ l W, PrAt X l c (linksN c.chans.l) W → Calls Tryz.prog 135 #[.pointer (some ⟨X, 0, none⟩)] W fun e w' => RdV (numT 65535) idV X l c (linksN c.chans.l) W e w' ∧ ∀ n r, numT 65535 l = .ok (n, r) → n ≤ 65535) := hide (fun l W hW => pid_calls X l c _ W hW)
    have HNM : Hid (∀ l W, PrAt X l c (linksN c.chans.l) W → Calls Tryz.prog 77 #[.pointer (some ⟨X, 0, none⟩), .int .i64 3] W fun e w' => RdV (takeT 3) tokVal X l c (linksN c.chans.l) W e w' ∧ ∀ t r, takeT 3 l = .ok (t, r) → t.kind = 3) := hide (fun l W hW => takeT_calls 3 (by decide) X l c _ W hW)
    have HTK1 : Hid (∀ l W, PrAt X l c (linksN c.chans.l) W → Calls Tryz.prog 77 #[.pointer (some ⟨X, 0, none⟩), .int .i64 1] W fun e w' => RdV (takeT 1) tokVal X l c (linksN c.chans.l) W e w' ∧ ∀ t r, takeT 1 l = .ok (t, r) → t.kind = 1) := hide (fun l W hW => takeT_calls 1 (by decide) X l c _ W hW)
    have HW := hide (fun x b l W (hW : PrAt X l c (linksN c.chans.l) W) (hb : W.heap.size = b) => want1_at x b X l c _ W hW hb)
    have HW2 := hide (fun x y b l W (hW : PrAt X l c (linksN c.chans.l) W) (hb : W.heap.size = b) => want2_at x y b X l c _ W hW hb)
    have HBG := hide (fun x l W (hW : PrAt X l c (linksN c.chans.l) W) => pbig_calls x X l c _ W hW)
    have HF16 : Hid (∀ x l W, PrAt X l c (linksN c.chans.l) W → Calls Tryz.prog 133 #[.pointer (some ⟨X, 0, none⟩), .string x, .int .u64 65535] W fun e w' => RdV (fieldT x.data.toList 65535) natP X l c (linksN c.chans.l) W e w' ∧ ∀ n r, fieldT x.data.toList 65535 l = .ok (n, r) → n ≤ 65535) := hide (fun x l W hW => pfield_calls x 65535 X l c _ W hW)
    have HF32 : Hid (∀ x l W, PrAt X l c (linksN c.chans.l) W → Calls Tryz.prog 133 #[.pointer (some ⟨X, 0, none⟩), .string x, .int .u64 4294967295] W fun e w' => RdV (fieldT x.data.toList 4294967295) natP X l c (linksN c.chans.l) W e w' ∧ ∀ n r, fieldT x.data.toList 4294967295 l = .ok (n, r) → n ≤ 4294967295) := hide (fun x l W hW => pfield_calls x 4294967295 X l c _ W hW)
    have HCH := hide (fun a b l W (hW : PrAt X l c (linksN c.chans.l) W) => second_calls a b X l c _ W hW)
    go_enter Tryz.func80, Tryz.ntmps80
    go_wp2_with fail
    go_cut [] (fun wx => Hid (Below w.heap.size w wx))
    case first =>
      go_region_with (go_at_call 134; refine (HLO.out _).mono ?_; rintro e w5 ⟨rfl, hb5⟩; have HB5 : Hid (Below w.heap.size w w5) := hide (by refine Below.trans ?_ (hb5.mono (by simp)); repeat (first | exact Below.refl _ _ | apply Below.drew | refine Below.alloc ?_ (by omega) _)); clear hb5)
      all_goals
        go_wp2_with fail
        go_meet
        exact HB5
    case rest =>
      have HP0 := hide (HP.out.below hcut.out)
      have HO0 := hide (OnlyX.below (OnlyX.refl X w) hcut.out)
      have hXc := HP0.out.lt
      clear hcut q0 q1 q2 q3 q4 q5 q6
      go_wp2_with fail
      refine (HID.out _ _ HP0.out).mono ?_
      rintro e w4 ⟨⟨ho4, ⟨n, r4, h4, rfl, hs4⟩ | ⟨f, h4, rfl⟩⟩, hb4⟩
      rotate_left
      exact ⟨rfl, OnlyX.low (OnlyX.trans HO0.out ho4) hXl, .inr ⟨f, by rw [HRS.out]; unfold partT; rw [bindT_err h4], rfl⟩⟩
      have hv4 := hb4 _ _ h4
      clear hb4
      have HO4 := hide (OnlyX.trans HO0.out ho4)
      have H4 := hide h4
      have HS4 := hide hs4
      have hX4 : X < w4.heap.size := hs4.lt
      have w16_4 : IntKind.u16.wrap (n : Int) = (n : Int) := by rw [IntKind.wrap_u16]; omega
      clear ho4 h4 hs4
      unfold idV
      go_wp2_with fail
      refine (HNM.out _ _ HS4.out).mono ?_
      rintro e w5 ⟨⟨ho5, ⟨tn, r5, h5, rfl, hs5⟩ | ⟨f, h5, rfl⟩⟩, hb5⟩
      rotate_left
      exact ⟨rfl, OnlyX.low (OnlyX.trans HO4.out ho5) hXl, .inr ⟨f, by rw [HRS.out]; unfold partT; rw [bindT_ok H4.out, bindT_err h5], rfl⟩⟩
      have hv5 := hb5 _ _ h5
      clear hb5
      have HO5 := hide (OnlyX.trans HO4.out ho5)
      have H5 := hide h5
      have HS5 := hide hs5
      have hX5 : X < w5.heap.size := hs5.lt
      obtain ⟨tnk, tnt, tnv, tnl, tnc⟩ := tn
      have HNMT : Hid ((⟨tnt.toArray⟩ : ByteArray) = nameB tnt) := hide rfl
      unfold tokVal tokV tokC
      simp only
      generalize (⟨tnt.toArray⟩ : ByteArray) = nm at *
      have hf1 := fun W => ptok_f1 (tnk : Int) (tnv : Int) (tnl : Int) (tnc : Int) nm W
      clear ho5 h5 hs5
      go_wp2_with fail
      refine (HW.out ⟨#[123]⟩ _ _ _ (HS5.out.alloc _) (by simp)).mono ?_
      rintro e w6 ⟨ho6, ⟨u, r6, h6, rfl, hs6⟩ | ⟨f, h6, rfl⟩⟩
      rotate_left
      exact ⟨rfl, OnlyX.low (OnlyX.trans (OnlyX.alloc (HO5.out.alloc _) _) ho6) hXl, .inr ⟨f, by rw [HRS.out]; unfold partT; rw [bindT_ok H4.out, bindT_ok H5.out, bindT_err h6], rfl⟩⟩
      have HO6 := hide (OnlyX.trans (OnlyX.alloc (HO5.out.alloc _) _) ho6)
      have H6 := hide h6
      have HS6 := hide hs6
      have hX6 : X < w6.heap.size := hs6.lt
      have hXP : X < w5.heap.size := HS5.out.lt
      have hwP : w.heap.size ≤ w5.heap.size := HO5.out.size
      have HB6 : Hid (Blk w6 w5.heap.size 66 #[.int .u16 (n : Int), .string nm, .int .u64 0, .int .u64 0]) := hide (ho6.blk ((Blk.new w5 66 #[.int .u16 (n : Int), .string nm, .int .u64 0, .int .u64 0]).alloc _) (by omega))
      have p0 : w6.cell? ⟨w5.heap.size, 0, none⟩ = some (.int .u16 (n : Int)) := HB6.out.cell 0
      have p1 : w6.cell? ⟨w5.heap.size, 1, none⟩ = some (.string nm) := HB6.out.cell 1
      have p2 : w6.cell? ⟨w5.heap.size, 2, none⟩ = some (.int .u64 0) := HB6.out.cell 2
      have p3 : w6.cell? ⟨w5.heap.size, 3, none⟩ = some (.int .u64 0) := HB6.out.cell 3
      have pf := fun i => HB6.out.frozen i
      have hPw : w5.heap.size < w6.heap.size := HB6.out.lt
      clear ho6 h6 hs6
      unfold unitV2
      go_wp2_with fail
      refine (HBG.out ⟨#[112, 101, 114, 105, 111, 100]⟩ _ _ HS6.out).mono ?_
      rintro e w7 ⟨⟨ho7, ⟨m1, r7, h7, rfl, hs7⟩ | ⟨f, h7, rfl⟩⟩, hb7⟩
      rotate_left
      exact ⟨rfl, OnlyX.low (OnlyX.trans HO6.out ho7) hXl, .inr ⟨f, by rw [HRS.out]; unfold partT; rw [bindT_ok H4.out, bindT_ok H5.out, bindT_ok H6.out, bindT_err h7], rfl⟩⟩
      have hv7 := hb7 _ _ h7
      clear hb7
      have HO7 := hide (OnlyX.trans HO6.out ho7)
      have H7 := hide h7
      have HS7 := hide hs7
      have hX7 : X < w7.heap.size := hs7.lt
      have HB7 : Hid (Blk w7 w5.heap.size 66 #[.int .u16 (n : Int), .string nm, .int .u64 0, .int .u64 0]) := hide (ho7.blk HB6.out (by omega))
      clear p0 p1 p2 p3 pf hPw
      have p0 : w7.cell? ⟨w5.heap.size, 0, none⟩ = some (.int .u16 (n : Int)) := HB7.out.cell 0
      have p1 : w7.cell? ⟨w5.heap.size, 1, none⟩ = some (.string nm) := HB7.out.cell 1
      have p2 : w7.cell? ⟨w5.heap.size, 2, none⟩ = some (.int .u64 0) := HB7.out.cell 2
      have p3 : w7.cell? ⟨w5.heap.size, 3, none⟩ = some (.int .u64 0) := HB7.out.cell 3
      have pf := fun i => HB7.out.frozen i
      have hPw : w5.heap.size < w7.heap.size := HB7.out.lt
      clear ho7 h7 hs7
      unfold natP
      go_wp2_with fail
      refine (HBG.out ⟨#[100, 117, 114, 97, 116, 105, 111, 110]⟩ _ _ HS7.out).mono ?_
      rintro e w8 ⟨⟨ho8, ⟨m2, r8, h8, rfl, hs8⟩ | ⟨f, h8, rfl⟩⟩, hb8⟩
      rotate_left
      exact ⟨rfl, OnlyX.low (OnlyX.trans HO7.out ho8) hXl, .inr ⟨f, by rw [HRS.out]; unfold partT; rw [bindT_ok H4.out, bindT_ok H5.out, bindT_ok H6.out, bindT_ok H7.out, bindT_err h8], rfl⟩⟩
      have hv8 := hb8 _ _ h8
      clear hb8
      have HO8 := hide (OnlyX.trans HO7.out ho8)
      have H8 := hide h8
      have HS8 := hide hs8
      have hX8 : X < w8.heap.size := hs8.lt
      have HB8 : Hid (Blk w8 w5.heap.size 66 #[.int .u16 (n : Int), .string nm, .int .u64 0, .int .u64 0]) := hide (ho8.blk HB7.out (by omega))
      clear p0 p1 p2 p3 pf hPw
      have p0 : w8.cell? ⟨w5.heap.size, 0, none⟩ = some (.int .u16 (n : Int)) := HB8.out.cell 0
      have p1 : w8.cell? ⟨w5.heap.size, 1, none⟩ = some (.string nm) := HB8.out.cell 1
      have p2 : w8.cell? ⟨w5.heap.size, 2, none⟩ = some (.int .u64 0) := HB8.out.cell 2
      have p3 : w8.cell? ⟨w5.heap.size, 3, none⟩ = some (.int .u64 0) := HB8.out.cell 3
      have pf := fun i => HB8.out.frozen i
      have hPw : w5.heap.size < w8.heap.size := HB8.out.lt
      clear ho8 h8 hs8
      unfold natP
      go_wp2_with fail
      have HSa := hide (((HS8.out.far (p := ⟨w5.heap.size, 2, none⟩) hXP (.int .u64 (m1 : Int))).far (p := ⟨w5.heap.size, 3, none⟩) hXP (.int .u64 (m2 : Int))))
      have HOa := hide (((HO8.out.setNew (p := ⟨w5.heap.size, 2, none⟩) hwP (.int .u64 (m1 : Int))).setNew (p := ⟨w5.heap.size, 3, none⟩) hwP (.int .u64 (m2 : Int))))
      have HBa : Hid (Blk ((w8.setCell ⟨w5.heap.size, 2, none⟩ (.int .u64 (m1 : Int))).setCell ⟨w5.heap.size, 3, none⟩ (.int .u64 (m2 : Int))) w5.heap.size 66 #[.int .u16 (n : Int), .string nm, .int .u64 (m1 : Int), .int .u64 (m2 : Int)]) := hide ((HB8.out.set_ 2 (.int .u64 (m1 : Int))).set_ 3 (.int .u64 (m2 : Int)))
      have hXa := HSa.out.lt
      have hPa := HBa.out.lt
      have hwa := HOa.out.size
      clear p0 p1 p2 p3 pf hPw
      generalize ((w8.setCell ⟨w5.heap.size, 2, none⟩ (.int .u64 (m1 : Int))).setCell ⟨w5.heap.size, 3, none⟩ (.int .u64 (m2 : Int))) = Wa at *
      have p0 : Wa.cell? ⟨w5.heap.size, 0, none⟩ = some (.int .u16 (n : Int)) := HBa.out.cell 0
      have p1 : Wa.cell? ⟨w5.heap.size, 1, none⟩ = some (.string nm) := HBa.out.cell 1
      have p2 : Wa.cell? ⟨w5.heap.size, 2, none⟩ = some (.int .u64 (m1 : Int)) := HBa.out.cell 2
      have p3 : Wa.cell? ⟨w5.heap.size, 3, none⟩ = some (.int .u64 (m2 : Int)) := HBa.out.cell 3
      have qf0 := HSa.out.frz
      have q9 := (HSa.out.cfg).2.1
      have HCa := hide (HP.out.own HOW.out HOa.out)
      obtain ⟨i0, hi, hz0, hz1, hz2⟩ := info_parts ppartI
      have HII := hide hi
      clear hi
      obtain ⟨rec, hrec⟩ : ∃ x : PartR, x = ⟨n, nm, m1, m2⟩ := ⟨_, rfl⟩
      have HRE : Hid (partL rec = [.int .u16 (n : Int), .string nm, .int .u64 (m1 : Int), .int .u64 (m2 : Int)]) := hide (by rw [hrec]; rfl)
      have HREC := hide hrec
      clear hrec
      have HRD : Hid (Reads (Wa.alloc (.cells #[.int .u16 (n : Int), .string nm, .int .u64 (m1 : Int), .int .u64 (m2 : Int)] 66)).drew (Wa.heap.size + 1) 4 (some ⟨Wa.heap.size, 0, none⟩) 1 (partL rec)) := hide (by rw [HRE.out]; exact pnew_reads Wa #[.int .u16 (n : Int), .string nm, .int .u64 (m1 : Int), .int .u64 (m2 : Int)] 66 4 rfl)
      go_region_law (refine step_append_any _ rfl (.tmp 33) (.tmp 35) 23 rfl (X + 1) 66 i0 _ 4 40 Tryz.underlying23 HII.out hz0 hz1 hz2 rfl (by decide) (.slice c.parts.a c.parts.l.length c.parts.c) c.parts.l.length (c.parts.l.flatMap partL) (by simp [Act.eval]) ((HCa.out.parts.alloc _).drew) (Wa.heap.size + 1) (some ⟨Wa.heap.size, 0, none⟩) 1 1 (partL rec) (by simp [Act.eval]) HRD.out (ppartO rec) (by simp only [maxLen]; omega) (by omega) (by simp; omega) ?_; intro v9 w9 ho9 hg9 hat9; obtain ⟨a9, c9, hv9⟩ := own_slice ho9; subst hv9; have HGR := hide hg9; have HO9 := hide ho9; have HS9 := hide ((HSa.out.alloc (.cells #[.int .u16 (n : Int), .string nm, .int .u64 (m1 : Int), .int .u64 (m2 : Int)] 66)).drew.grown hg9 (fun r hr => by have := (HCa.out.parts.lt r hr).1; omega)); have q10 := (HS9.out.cfg).2.1; have qf := HS9.out.frz; have hX9 := HS9.out.lt; clear ho9 hg9 hat9)
      all_goals
        have HC9 : Hid (OwnC (X + 1) { c with parts := ⟨c.parts.l ++ [rec], a9, c9⟩ } w9) := hide (by
          have HCx := (HCa.out.alloc (.cells #[.int .u16 (n : Int), .string nm, .int .u64 (m1 : Int), .int .u64 (m2 : Int)] 66)).drew
          exact HCx.pushP HO9.out HGR.out)
        have HSN := hide (HS9.out.setP (c.parts.l ++ [rec]) a9 c9)
        have HCN := hide (OwnC.setPr HS9.out HC9.out 2 (.slice a9 (c.parts.l ++ [rec]).length c9))
        have HLOW : Hid (Below X w (w9.setCell ⟨X, 2, none⟩ (.slice a9 (c.parts.l ++ [rec]).length c9))) := hide (((((HOa.out.low hXl).alloc (by omega) (.cells #[.int .u16 (n : Int), .string nm, .int .u64 (m1 : Int), .int .u64 (m2 : Int)] 66)).drew).grown HGR.out (by simp; omega) (fun r hr => by have := (HCa.out.parts.lt r hr).1; omega)).setCell (by simp) _)
        have HMK := hide ((MK.grown (((MK.of_only HOa.out).alloc (.cells #[.int .u16 (n : Int), .string nm, .int .u64 (m1 : Int), .int .u64 (m2 : Int)] 66)).drew) ((HCa.out.parts.alloc (.cells #[.int .u16 (n : Int), .string nm, .int .u64 (m1 : Int), .int .u64 (m2 : Int)] 66)).drew) HGR.out).setX 2 (.slice a9 (c.parts.l ++ [rec]).length c9))
        have hlen : (c.parts.l ++ [rec]).length = c.parts.l.length + 1 := by simp
        rw [hlen] at HSN HCN HLOW HMK
        go_wp2_with fail
        first | go_end0 | (refine bodyPost_ret (results_none rfl _ _ _) rfl ?_)
        refine ⟨HLOW.out, .inl ⟨_, _, ?_, rfl, HSN.out, HCN.out, HMK.out⟩⟩
        rw [HRS.out]
        unfold partT
        rw [bindT_ok H4.out, bindT_ok H5.out, bindT_ok H6.out, bindT_ok H7.out, bindT_ok H8.out]
        rw [HREC.out]
        rw [HNMT.out]; rfl
end Go.Proofs.YtcnihmlmaigkdaaGreatDoor
namespace Go.Proofs.YtcnihmlmaigkdaaGreatDoor
open Go.RowKit Go.Lib Go.Sort
set_option linter.unusedVariables false

set_option maxRecDepth 100000 in
set_option maxHeartbeats 16000000 in
theorem PRec2_calls (X : Nat) (l : List Token) (c : Cfg) (t : Token) (w : World) (h : PrAt X l c (linksN c.chans.l) w) (ho : OwnC (X + 1) c w) :
    Calls Tryz.prog 81 #[.pointer (some ⟨X, 0, none⟩), .agg (tokV t)] w (RecV 2 X t l c w) := by
  have hXl := h.lt
  have hcnt : cntK (pcOf c) 2 = c.wins.l.length := by first | rfl | (show (c.chans.l.map chanK).length = _; simp)
  have hlm : limN 2 = 1024 := rfl
  have hLB := fun hh W => limit_bad (c.wins.l.length : Int) 1024 t hh W
  have hLO := fun hh W => limit_ok (c.wins.l.length : Int) 1024 t hh W
  have HT0 := hide (fun hh => methT_lim (k := 2) (c := pcOf c) (t := t) (l := l) hh)
  have HT1 := hide (fun hh => methT_ok (k := 2) (c := pcOf c) (t := t) (l := l) hh)
  rw [hcnt, hlm] at HT0 HT1
  have hRV : Hid (∀ e w', RecV 2 X t l c w e w' = RecV 2 X t l c w e w') := hide (fun _ _ => rfl)
  obtain ⟨MT, hMT⟩ : ∃ m, m = methT 2 (pcOf c) t := ⟨_, rfl⟩
  unfold RecV
  rw [← hMT] at HT0 HT1 ⊢
  have HMT := hide hMT
  obtain ⟨q0, q1, q2, q3, q4, q5, q6⟩ := h.cfg
  have HP := hide h
  have HOW := hide ho
  obtain ⟨fl, hfl⟩ : ∃ f : Flt, f = (7, t.line, t.col) := ⟨_, rfl⟩
  rw [← hfl] at HT0 hLB
  obtain ⟨kind, text, v, li, co⟩ := t
  unfold tokV tokC at hLB hLO ⊢
  simp only at hLB hLO ⊢
  generalize (⟨text.toArray⟩ : ByteArray) = y at *
  clear h ho hfl hMT hcnt hlm hRV
  by_cases hlim : 1024 ≤ c.wins.l.length
  · have HLB := hide (hLB (by omega))
    have HRS := hide (HT0.out hlim)
    clear hLB hLO HT0 HT1 hlim
    go_enter Tryz.func81, Tryz.ntmps81
    go_wp2_with fail
    go_region_dies
    all_goals go_wp2_with (go_at_call 134; refine (HLB.out _).mono ?_; rintro e w5 ⟨rfl, hb5⟩; exact ⟨rfl, (by refine Below.trans ?_ (hb5.mono (by simp; omega)); repeat (first | exact Below.refl _ _ | apply Below.drew | refine Below.alloc ?_ (by omega) _)), .inr ⟨fl, HRS.out, rfl⟩⟩)
  · have HLO := hide (hLO (by omega))
    have HRS : Hid (MT l = winT (pcOf c) l) := hide (HT1.out hlim)
    clear hLB hLO HT0 HT1
    have mixed := mixed_progP
    have HID : Hid (∀ l W, PrAt X l c (linksN c.chans.l) W → Calls Tryz.prog 135 #[.pointer (some ⟨X, 0, none⟩)] W fun e w' => RdV (numT 65535) idV X l c (linksN c.chans.l) W e w' ∧ ∀ n r, numT 65535 l = .ok (n, r) → n ≤ 65535) := hide (fun l W hW => pid_calls X l c _ W hW)
    have HNM : Hid (∀ l W, PrAt X l c (linksN c.chans.l) W → Calls Tryz.prog 77 #[.pointer (some ⟨X, 0, none⟩), .int .i64 3] W fun e w' => RdV (takeT 3) tokVal X l c (linksN c.chans.l) W e w' ∧ ∀ t r, takeT 3 l = .ok (t, r) → t.kind = 3) := hide (fun l W hW => takeT_calls 3 (by decide) X l c _ W hW)
    have HTK1 : Hid (∀ l W, PrAt X l c (linksN c.chans.l) W → Calls Tryz.prog 77 #[.pointer (some ⟨X, 0, none⟩), .int .i64 1] W fun e w' => RdV (takeT 1) tokVal X l c (linksN c.chans.l) W e w' ∧ ∀ t r, takeT 1 l = .ok (t, r) → t.kind = 1) := hide (fun l W hW => takeT_calls 1 (by decide) X l c _ W hW)
    have HW := hide (fun x b l W (hW : PrAt X l c (linksN c.chans.l) W) (hb : W.heap.size = b) => want1_at x b X l c _ W hW hb)
    have HW2 := hide (fun x y b l W (hW : PrAt X l c (linksN c.chans.l) W) (hb : W.heap.size = b) => want2_at x y b X l c _ W hW hb)
    have HBG := hide (fun x l W (hW : PrAt X l c (linksN c.chans.l) W) => pbig_calls x X l c _ W hW)
    have HF16 : Hid (∀ x l W, PrAt X l c (linksN c.chans.l) W → Calls Tryz.prog 133 #[.pointer (some ⟨X, 0, none⟩), .string x, .int .u64 65535] W fun e w' => RdV (fieldT x.data.toList 65535) natP X l c (linksN c.chans.l) W e w' ∧ ∀ n r, fieldT x.data.toList 65535 l = .ok (n, r) → n ≤ 65535) := hide (fun x l W hW => pfield_calls x 65535 X l c _ W hW)
    have HF32 : Hid (∀ x l W, PrAt X l c (linksN c.chans.l) W → Calls Tryz.prog 133 #[.pointer (some ⟨X, 0, none⟩), .string x, .int .u64 4294967295] W fun e w' => RdV (fieldT x.data.toList 4294967295) natP X l c (linksN c.chans.l) W e w' ∧ ∀ n r, fieldT x.data.toList 4294967295 l = .ok (n, r) → n ≤ 4294967295) := hide (fun x l W hW => pfield_calls x 4294967295 X l c _ W hW)
    have HCH := hide (fun a b l W (hW : PrAt X l c (linksN c.chans.l) W) => second_calls a b X l c _ W hW)
    go_enter Tryz.func81, Tryz.ntmps81
    go_wp2_with fail
    go_cut [] (fun wx => Hid (Below w.heap.size w wx))
    case first =>
      go_region_with (go_at_call 134; refine (HLO.out _).mono ?_; rintro e w5 ⟨rfl, hb5⟩; have HB5 : Hid (Below w.heap.size w w5) := hide (by refine Below.trans ?_ (hb5.mono (by simp)); repeat (first | exact Below.refl _ _ | apply Below.drew | refine Below.alloc ?_ (by omega) _)); clear hb5)
      all_goals
        go_wp2_with fail
        go_meet
        exact HB5
    case rest =>
      have HP0 := hide (HP.out.below hcut.out)
      have HO0 := hide (OnlyX.below (OnlyX.refl X w) hcut.out)
      have hXc := HP0.out.lt
      clear hcut q0 q1 q2 q3 q4 q5 q6
      go_wp2_with fail
      refine (HID.out _ _ HP0.out).mono ?_
      rintro e w4 ⟨⟨ho4, ⟨n, r4, h4, rfl, hs4⟩ | ⟨f, h4, rfl⟩⟩, hb4⟩
      rotate_left
      exact ⟨rfl, OnlyX.low (OnlyX.trans HO0.out ho4) hXl, .inr ⟨f, by rw [HRS.out]; unfold winT; rw [bindT_err h4], rfl⟩⟩
      have hv4 := hb4 _ _ h4
      clear hb4
      have HO4 := hide (OnlyX.trans HO0.out ho4)
      have H4 := hide h4
      have HS4 := hide hs4
      have hX4 : X < w4.heap.size := hs4.lt
      have w16_4 : IntKind.u16.wrap (n : Int) = (n : Int) := by rw [IntKind.wrap_u16]; omega
      clear ho4 h4 hs4
      unfold idV
      go_wp2_with fail
      refine (HW.out ⟨#[123]⟩ _ _ _ (HS4.out.alloc _) (by simp)).mono ?_
      rintro e w5 ⟨ho5, ⟨u, r5, h5, rfl, hs5⟩ | ⟨f, h5, rfl⟩⟩
      rotate_left
      exact ⟨rfl, OnlyX.low (OnlyX.trans (OnlyX.alloc (HO4.out.alloc _) _) ho5) hXl, .inr ⟨f, by rw [HRS.out]; unfold winT; rw [bindT_ok H4.out, bindT_err h5], rfl⟩⟩
      have HO5 := hide (OnlyX.trans (OnlyX.alloc (HO4.out.alloc _) _) ho5)
      have H5 := hide h5
      have HS5 := hide hs5
      have hX5 : X < w5.heap.size := hs5.lt
      have hXP : X < w4.heap.size := HS4.out.lt
      have hwP : w.heap.size ≤ w4.heap.size := HO4.out.size
      have HB5 : Hid (Blk w5 w4.heap.size 69 #[.int .u64 0, .int .u64 0, .int .u16 (n : Int)]) := hide (ho5.blk ((Blk.new w4 69 #[.int .u64 0, .int .u64 0, .int .u16 (n : Int)]).alloc _) (by omega))
      have p0 : w5.cell? ⟨w4.heap.size, 0, none⟩ = some (.int .u64 0) := HB5.out.cell 0
      have p1 : w5.cell? ⟨w4.heap.size, 1, none⟩ = some (.int .u64 0) := HB5.out.cell 1
      have p2 : w5.cell? ⟨w4.heap.size, 2, none⟩ = some (.int .u16 (n : Int)) := HB5.out.cell 2
      have pf := fun i => HB5.out.frozen i
      have hPw : w4.heap.size < w5.heap.size := HB5.out.lt
      clear ho5 h5 hs5
      unfold unitV2
      go_wp2_with fail
      refine (HBG.out ⟨#[115, 116, 97, 114, 116]⟩ _ _ HS5.out).mono ?_
      rintro e w6 ⟨⟨ho6, ⟨m1, r6, h6, rfl, hs6⟩ | ⟨f, h6, rfl⟩⟩, hb6⟩
      rotate_left
      exact ⟨rfl, OnlyX.low (OnlyX.trans HO5.out ho6) hXl, .inr ⟨f, by rw [HRS.out]; unfold winT; rw [bindT_ok H4.out, bindT_ok H5.out, bindT_err h6], rfl⟩⟩
      have hv6 := hb6 _ _ h6
      clear hb6
      have HO6 := hide (OnlyX.trans HO5.out ho6)
      have H6 := hide h6
      have HS6 := hide hs6
      have hX6 : X < w6.heap.size := hs6.lt
      have HB6 : Hid (Blk w6 w4.heap.size 69 #[.int .u64 0, .int .u64 0, .int .u16 (n : Int)]) := hide (ho6.blk HB5.out (by omega))
      clear p0 p1 p2 pf hPw
      have p0 : w6.cell? ⟨w4.heap.size, 0, none⟩ = some (.int .u64 0) := HB6.out.cell 0
      have p1 : w6.cell? ⟨w4.heap.size, 1, none⟩ = some (.int .u64 0) := HB6.out.cell 1
      have p2 : w6.cell? ⟨w4.heap.size, 2, none⟩ = some (.int .u16 (n : Int)) := HB6.out.cell 2
      have pf := fun i => HB6.out.frozen i
      have hPw : w4.heap.size < w6.heap.size := HB6.out.lt
      clear ho6 h6 hs6
      unfold natP
      go_wp2_with fail
      refine (HBG.out ⟨#[108, 101, 110, 103, 116, 104]⟩ _ _ HS6.out).mono ?_
      rintro e w7 ⟨⟨ho7, ⟨m2, r7, h7, rfl, hs7⟩ | ⟨f, h7, rfl⟩⟩, hb7⟩
      rotate_left
      exact ⟨rfl, OnlyX.low (OnlyX.trans HO6.out ho7) hXl, .inr ⟨f, by rw [HRS.out]; unfold winT; rw [bindT_ok H4.out, bindT_ok H5.out, bindT_ok H6.out, bindT_err h7], rfl⟩⟩
      have hv7 := hb7 _ _ h7
      clear hb7
      have HO7 := hide (OnlyX.trans HO6.out ho7)
      have H7 := hide h7
      have HS7 := hide hs7
      have hX7 : X < w7.heap.size := hs7.lt
      have HB7 : Hid (Blk w7 w4.heap.size 69 #[.int .u64 0, .int .u64 0, .int .u16 (n : Int)]) := hide (ho7.blk HB6.out (by omega))
      clear p0 p1 p2 pf hPw
      have p0 : w7.cell? ⟨w4.heap.size, 0, none⟩ = some (.int .u64 0) := HB7.out.cell 0
      have p1 : w7.cell? ⟨w4.heap.size, 1, none⟩ = some (.int .u64 0) := HB7.out.cell 1
      have p2 : w7.cell? ⟨w4.heap.size, 2, none⟩ = some (.int .u16 (n : Int)) := HB7.out.cell 2
      have pf := fun i => HB7.out.frozen i
      have hPw : w4.heap.size < w7.heap.size := HB7.out.lt
      clear ho7 h7 hs7
      unfold natP
      go_wp2_with fail
      have HSa := hide (((HS7.out.far (p := ⟨w4.heap.size, 0, none⟩) hXP (.int .u64 (m1 : Int))).far (p := ⟨w4.heap.size, 1, none⟩) hXP (.int .u64 (m2 : Int))))
      have HOa := hide (((HO7.out.setNew (p := ⟨w4.heap.size, 0, none⟩) hwP (.int .u64 (m1 : Int))).setNew (p := ⟨w4.heap.size, 1, none⟩) hwP (.int .u64 (m2 : Int))))
      have HBa : Hid (Blk ((w7.setCell ⟨w4.heap.size, 0, none⟩ (.int .u64 (m1 : Int))).setCell ⟨w4.heap.size, 1, none⟩ (.int .u64 (m2 : Int))) w4.heap.size 69 #[.int .u64 (m1 : Int), .int .u64 (m2 : Int), .int .u16 (n : Int)]) := hide ((HB7.out.set_ 0 (.int .u64 (m1 : Int))).set_ 1 (.int .u64 (m2 : Int)))
      have hXa := HSa.out.lt
      have hPa := HBa.out.lt
      have hwa := HOa.out.size
      clear p0 p1 p2 pf hPw
      generalize ((w7.setCell ⟨w4.heap.size, 0, none⟩ (.int .u64 (m1 : Int))).setCell ⟨w4.heap.size, 1, none⟩ (.int .u64 (m2 : Int))) = Wa at *
      have p0 : Wa.cell? ⟨w4.heap.size, 0, none⟩ = some (.int .u64 (m1 : Int)) := HBa.out.cell 0
      have p1 : Wa.cell? ⟨w4.heap.size, 1, none⟩ = some (.int .u64 (m2 : Int)) := HBa.out.cell 1
      have p2 : Wa.cell? ⟨w4.heap.size, 2, none⟩ = some (.int .u16 (n : Int)) := HBa.out.cell 2
      have qf0 := HSa.out.frz
      have q9 := (HSa.out.cfg).2.2.1
      have HCa := hide (HP.out.own HOW.out HOa.out)
      obtain ⟨i0, hi, hz0, hz1, hz2⟩ := info_parts pwinI
      have HII := hide hi
      clear hi
      obtain ⟨rec, hrec⟩ : ∃ x : WinR, x = ⟨m1, m2, n⟩ := ⟨_, rfl⟩
      have HRE : Hid (winL rec = [.int .u64 (m1 : Int), .int .u64 (m2 : Int), .int .u16 (n : Int)]) := hide (by rw [hrec]; rfl)
      have HREC := hide hrec
      clear hrec
      have HRD : Hid (Reads (Wa.alloc (.cells #[.int .u64 (m1 : Int), .int .u64 (m2 : Int), .int .u16 (n : Int)] 69)).drew (Wa.heap.size + 1) 3 (some ⟨Wa.heap.size, 0, none⟩) 1 (winL rec)) := hide (by rw [HRE.out]; exact pnew_reads Wa #[.int .u64 (m1 : Int), .int .u64 (m2 : Int), .int .u16 (n : Int)] 69 3 rfl)
      go_region_law (refine step_append_any _ rfl (.tmp 30) (.tmp 32) 24 rfl (X + 1) 69 i0 _ 3 24 Tryz.underlying24 HII.out hz0 hz1 hz2 rfl (by decide) (.slice c.wins.a c.wins.l.length c.wins.c) c.wins.l.length (c.wins.l.flatMap winL) (by simp [Act.eval]) ((HCa.out.wins.alloc _).drew) (Wa.heap.size + 1) (some ⟨Wa.heap.size, 0, none⟩) 1 1 (winL rec) (by simp [Act.eval]) HRD.out (pwinO rec) (by simp only [maxLen]; omega) (by omega) (by simp; omega) ?_; intro v9 w9 ho9 hg9 hat9; obtain ⟨a9, c9, hv9⟩ := own_slice ho9; subst hv9; have HGR := hide hg9; have HO9 := hide ho9; have HS9 := hide ((HSa.out.alloc (.cells #[.int .u64 (m1 : Int), .int .u64 (m2 : Int), .int .u16 (n : Int)] 69)).drew.grown hg9 (fun r hr => by have := (HCa.out.wins.lt r hr).1; omega)); have q10 := (HS9.out.cfg).2.2.1; have qf := HS9.out.frz; have hX9 := HS9.out.lt; clear ho9 hg9 hat9)
      all_goals
        have HC9 : Hid (OwnC (X + 1) { c with wins := ⟨c.wins.l ++ [rec], a9, c9⟩ } w9) := hide (by
          have HCx := (HCa.out.alloc (.cells #[.int .u64 (m1 : Int), .int .u64 (m2 : Int), .int .u16 (n : Int)] 69)).drew
          exact HCx.pushW HO9.out HGR.out)
        have HSN := hide (HS9.out.setW (c.wins.l ++ [rec]) a9 c9)
        have HCN := hide (OwnC.setPr HS9.out HC9.out 3 (.slice a9 (c.wins.l ++ [rec]).length c9))
        have HLOW : Hid (Below X w (w9.setCell ⟨X, 3, none⟩ (.slice a9 (c.wins.l ++ [rec]).length c9))) := hide (((((HOa.out.low hXl).alloc (by omega) (.cells #[.int .u64 (m1 : Int), .int .u64 (m2 : Int), .int .u16 (n : Int)] 69)).drew).grown HGR.out (by simp; omega) (fun r hr => by have := (HCa.out.wins.lt r hr).1; omega)).setCell (by simp) _)
        have HMK := hide ((MK.grown (((MK.of_only HOa.out).alloc (.cells #[.int .u64 (m1 : Int), .int .u64 (m2 : Int), .int .u16 (n : Int)] 69)).drew) ((HCa.out.wins.alloc (.cells #[.int .u64 (m1 : Int), .int .u64 (m2 : Int), .int .u16 (n : Int)] 69)).drew) HGR.out).setX 3 (.slice a9 (c.wins.l ++ [rec]).length c9))
        have hlen : (c.wins.l ++ [rec]).length = c.wins.l.length + 1 := by simp
        rw [hlen] at HSN HCN HLOW HMK
        go_wp2_with fail
        first | go_end0 | (refine bodyPost_ret (results_none rfl _ _ _) rfl ?_)
        refine ⟨HLOW.out, .inl ⟨_, _, ?_, rfl, HSN.out, HCN.out, HMK.out⟩⟩
        rw [HRS.out]
        unfold winT
        rw [bindT_ok H4.out, bindT_ok H5.out, bindT_ok H6.out, bindT_ok H7.out]
        rw [HREC.out]
        rfl
end Go.Proofs.YtcnihmlmaigkdaaGreatDoor
