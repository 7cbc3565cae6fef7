/- The parser's smallest readers: fail, is, take, want, number (chapter 07). The parser's readers: number, id, field, big, second, limit (chapter 07). The parser's readers: id, field, big, second, limit (chapter 07). -/
import Derived.Test.YtcnihmlmaigkdaaGreatDoorPrMem
import Derived.Test.YtcnihmlmaigkdaaGreatDoorMCfD
namespace Go.Proofs.YtcnihmlmaigkdaaGreatDoor
open Go.RowKit Go.Lib
set_option linter.unusedVariables false

def fltE (f : Flt) : PanicEntry := { v := .iface 43 (.agg (fltP f)), recovered := false }
def tokVal (t : Token) : Value := .agg (tokV t)
def natP (n : Nat) : Value := .int .u64 (n : Int)
set_option maxRecDepth 100000 in
theorem fail_calls (code : Nat) (t : Token) (w : World) :
    Calls Tryz.prog 131 #[.int .i64 (code : Int), .agg (tokV t)] w fun e w' => e = .panicked [fltE (code, t.line, t.col)] ∧ Below w.heap.size w w' := by
  obtain ⟨kind, text, v, li, co⟩ := t
  unfold tokV tokC
  simp only
  generalize (⟨text.toArray⟩ : ByteArray) = s
  go_enter Tryz.func131, Tryz.ntmps131
  go_wp2
  exact ⟨rfl, rfl, (Below.refl _ w).alloc (Nat.le_refl _) _⟩
theorem is_eq (x : ByteArray) (t : Token) (r : List Token) : isT x.data.toList (t :: r) = ((t.kind == 1 || t.kind == 4) && ((⟨t.text.toArray⟩ : ByteArray).toList == x.toList)) := by
  show ((t.kind == 1 || t.kind == 4) && t.text == x.data.toList) = _
  rw [ByteArray.toList_eq, ByteArray.toList_eq]
set_option maxRecDepth 100000 in
set_option maxHeartbeats 2000000 in
theorem is_calls (x : ByteArray) (X : Nat) (t : Token) (r : List Token) (c : Cfg) (k : Nat) (w : World) (h : PrAt X (t :: r) c k w) :
    Calls Tryz.prog 132 #[.pointer (some ⟨X, 0, none⟩), .string x] w fun e w' => e = .returned (.bool (isT x.data.toList (t :: r))) ∧ Below w.heap.size w w' := by
  obtain ⟨b, o, cap, hb, hc1, hc2, hX, y0, y1, y2, y3, y4, hr, he⟩ := h.head
  have hXl := h.lt
  rw [is_eq]
  obtain ⟨kind, text, v, li, co⟩ := t
  have k0 : w.cell? ⟨X, 0, none⟩ = some (.slice (some ⟨b, o, none⟩) (r.length + 1) cap) := hX.cell 0
  simp only at y0 y1 y2 y3 y4 ⊢
  generalize (⟨text.toArray⟩ : ByteArray) = s at *
  have hnI : (0 : Int) < ((r.length + 1 : Nat) : Int) := by omega
  have hcI : ((r.length + 1 : Nat) : Int) ≤ (cap : Int) := by omega
  generalize r.length + 1 = n at *
  clear hr he hX h
  obtain ⟨q, hq⟩ : ∃ q, q = (s.toList == x.toList) := ⟨_, rfl⟩
  rw [← hq]
  have hq1 := hq.symm
  clear hq
  have hbl : b < w.heap.size := by omega
  by_cases k1 : kind = 1
  · subst k1
    cases q
    all_goals
      go_enter Tryz.func132, Tryz.ntmps132
      go_wp2
      go_ret
      exact ⟨rfl, (Below.refl _ w).alloc (Nat.le_refl _) _⟩
  · have m1 : ((kind : Int) == 1) = false := by rw [beq_eq_false_iff_ne]; omega
    have n1 : (kind == 1) = false := by rw [beq_eq_false_iff_ne]; exact k1
    by_cases k4 : kind = 4
    · subst k4
      cases q
      all_goals
        clear k1
        go_enter Tryz.func132, Tryz.ntmps132
        go_wp2
        go_ret
        exact ⟨rfl, (Below.refl _ w).alloc (Nat.le_refl _) _⟩
    · have m4 : ((kind : Int) == 4) = false := by rw [beq_eq_false_iff_ne]; omega
      have n4 : (kind == 4) = false := by rw [beq_eq_false_iff_ne]; exact k4
      clear k1 k4
      go_enter Tryz.func132, Tryz.ntmps132
      go_wp2
      go_ret
      exact ⟨by rw [n1, n4]; rfl, (Below.refl _ w).alloc (Nat.le_refl _) _⟩
theorem load_ltok {w : World} {g : Nat} {cs : Array Value} (hg : Blk w g 132 cs) (hc : cs.size = 5) : (loadVar 132 ⟨g, 0, none⟩).run Tryz.prog w = .ok (.agg cs) w :=
  run_loadVar_row (P := Tryz.prog) w g 132 132 cs (0, 0) _ hg Tryz.underlying132 rfl (by rw [hc]; kernel_rfl)
theorem res_cellL {fn : Func} {p : Tmp} {ty : TypeId} (h : fn.results = #[.cell p ty]) (tmps : Array Value) (w : World) (g : Nat) (cs : Array Value)
    (hp : tmps.getD p undef = .pointer (some ⟨g, 0, none⟩)) (hl : (loadVar ty ⟨g, 0, none⟩).run Tryz.prog w = .ok (.agg cs) w) :
    (results fn tmps).run Tryz.prog w = .ok (.agg cs) w := by
  have hp' : tmps[p]?.getD undef = .pointer (some ⟨g, 0, none⟩) := by simpa using hp
  simp [results, h, hp', asAddr, hl]
theorem Blk.newSet (w : World) (p : Addr) (u : Value) (t : TypeId) (cs : Array Value) : Blk ((w.setCell p u).alloc (.cells cs t)) w.heap.size t cs := by
  have := Blk.new (w.setCell p u) t cs
  rw [size_setCell] at this
  exact this
/-- Behind take at any kind: the token is handed back, the slice is cut; or the fault. -/
def TakeV (kind X : Nat) (t : Token) (r : List Token) (c : Cfg) (k : Nat) (w : World) (e : Ending) (w' : World) : Prop :=
  OnlyX X w w' ∧ ((t.kind = kind ∧ e = .returned (.agg (tokV t)) ∧ (t.kind ≠ 0 → PrAt X r c k w') ∧ ∃ A n cap, Blk w' X 131 (prC A n cap c k)) ∨ (t.kind ≠ kind ∧ e = .panicked [fltE (4, t.line, t.col)]))
set_option maxRecDepth 100000 in
set_option maxHeartbeats 2000000 in
theorem take_calls (kind X : Nat) (t : Token) (r : List Token) (c : Cfg) (k : Nat) (w : World) (h : PrAt X (t :: r) c k w) :
    Calls Tryz.prog 77 #[.pointer (some ⟨X, 0, none⟩), .int .i64 (kind : Int)] w (TakeV kind X t r c k w) := by
  obtain ⟨b, o, cap, hb, hc1, hc2, hX, y0, y1, y2, y3, y4, hr, he⟩ := h.head
  have hXl := h.lt
  have HOFF := hide (fun hk => PrAt.off hX hr he hk hc1 hc2)
  have HE0 : Hid (r.length + 1 = 1 → t.kind = 0) := hide (fun h1 => by
    have : r = [] := List.length_eq_zero_iff.1 (by omega)
    subst this
    exact he)
  have HX := hide hX
  have hF := fun W => fail_calls 4 t W
  obtain ⟨tk, text, v, li, co⟩ := t
  have k0 : w.cell? ⟨X, 0, none⟩ = some (.slice (some ⟨b, o, none⟩) (r.length + 1) cap) := hX.cell 0
  have kf := fun i => hX.frozen i
  unfold tokV tokC at hF
  simp only at y0 y1 y2 y3 y4 hF HOFF HE0
  have HTV : Hid (tokV ⟨tk, text, v, li, co⟩ = #[.int .i64 (tk : Int), .string ⟨text.toArray⟩, .int .u64 (v : Int), .int .i64 (li : Int), .int .i64 (co : Int)]) := hide rfl
  generalize (⟨text.toArray⟩ : ByteArray) = s at *
  have HF := hide hF
  have hnI : (0 : Int) < ((r.length + 1 : Nat) : Int) := by omega
  have hcI : ((r.length + 1 : Nat) : Int) ≤ (cap : Int) := by omega
  have hbl : b < w.heap.size := by omega
  obtain ⟨n, hn⟩ : ∃ n, n = r.length + 1 := ⟨_, rfl⟩
  rw [← hn] at k0 hnI hcI
  have HNN := hide hn
  clear hr he hX h hn hF
  by_cases hk : tk = kind
  · subst hk
    have d0 : ((tk : Int) != (tk : Int)) = false := by simp
    go_enter Tryz.func77, Tryz.ntmps77
    go_wp2
    all_goals
      refine bodyPost_ret (res_cellL rfl _ _ w.heap.size _ rfl (load_ltok (((Blk.newSet _ _ _ 132 _).alloc _)) rfl)) rfl ⟨(((OnlyX.refl X w).set 0 _).alloc _).alloc _, .inl ⟨rfl, by rw [HTV.out], fun h0 => ?_, _, _, _, ((HX.out.set_ 0 _).alloc _).alloc _⟩⟩
    · have hn := HNN.out
      exact absurd (HE0.out (by omega)) h0
    · have := HOFF.out h0
      have hn := HNN.out
      subst hn
      exact (this.alloc _).alloc _
  · have d0 : ((tk : Int) != (kind : Int)) = true := by rw [bne_iff_ne]; omega
    have HK := hide hk
    clear hk
    go_enter Tryz.func77, Tryz.ntmps77
    go_wp2_with fail
    refine (HF.out _).mono ?_
    rintro e w2 ⟨rfl, hb2⟩
    exact ⟨rfl, (((OnlyX.refl X w).alloc _).alloc _).below hb2, .inr ⟨HK.out, rfl⟩⟩
theorem PrAt.form {X : Nat} {l : List Token} {c : Cfg} {k : Nat} {w : World} (h : PrAt X l c k w) : ∃ t r, l = t :: r := by
  obtain ⟨A, cap, _, _, _, _, he⟩ := h
  exact he.form
/-- The words that are wanted, one by one. -/
def wantsT : List ByteArray → PM Unit
  | [] => pureT ()
  | x :: xs => bindT (wantT x.data.toList) fun _ => wantsT xs
def unitV2 (_ : Unit) : Value := .tuple #[]
theorem want_rest {x : ByteArray} {xs : List ByteArray} {l : List Token} (h : isT x.data.toList l = true) : wantsT (x :: xs) l = wantsT xs l.tail := by
  show bindT (wantT x.data.toList) _ l = _
  unfold bindT
  rw [want_yes h]
theorem want_stop {x : ByteArray} {xs : List ByteArray} {t : Token} {r : List Token} (h : isT x.data.toList (t :: r) = false) : wantsT (x :: xs) (t :: r) = .error (4, t.line, t.col) := by
  show bindT (wantT x.data.toList) _ (t :: r) = _
  unfold bindT
  rw [want_no h]
  rfl
theorem isT_kind0 {x : List UInt8} {t : Token} {r : List Token} (h : isT x (t :: r) = true) : t.kind ≠ 0 := by
  intro h0
  have h1 : ((t.kind == 1 || t.kind == 4) && t.text == x) = true := h
  rw [h0] at h1
  simp at h1
/-- In want: the words from j on, at the tokens that are left. -/
def WtS (X : Nat) (xs : List ByteArray) (l : List Token) (c : Cfg) (k : Nat) (w : World) (j : Nat) (wr : World) : Prop :=
  ∃ r, PrAt X r c k wr ∧ OnlyX X w wr ∧ wantsT xs l = wantsT (xs.drop j) r
set_option maxRecDepth 100000 in
set_option maxHeartbeats 2000000 in
theorem want_calls (xs : List ByteArray) (bb cc : Nat) (X : Nat) (l : List Token) (c : Cfg) (k : Nat) (w : World) (h : PrAt X l c k w)
    (hx : ∀ j x, xs[j]? = some x → w.cell? ⟨bb, j, none⟩ = some (.string x)) (hb : bb ≠ X) (hbl : bb < w.heap.size) (hcc : xs.length ≤ cc) (hn : xs.length ≤ 1000) :
    Calls Tryz.prog 78 #[.pointer (some ⟨X, 0, none⟩), .slice (some ⟨bb, 0, none⟩) xs.length cc] w (RdV (wantsT xs) unitV2 X l c k w) := by
  have HR0 : Hid (WtS X xs l c k w 0 w) := hide ⟨l, h, OnlyX.refl X w, rfl⟩
  have HX := hide hx
  have hXl := h.lt
  obtain ⟨n, hn2⟩ : ∃ n, n = xs.length := ⟨_, rfl⟩
  have HN := hide hn2
  rw [← hn2] at hcc hn ⊢
  have hnI : (n : Int) ≤ (cc : Int) := by omega
  clear h hx hn2
  go_enter Tryz.func78, Tryz.ntmps78
  go_wp2
  go_loopw [8] (fun i wr => ∃ j : Nat, j ≤ n ∧ i = .int .i64 (j : Int) ∧ Hid (WtS X xs l c k w j wr)) (fun i _ => n - (intOf i).toNat)
  case atStart => exact ⟨0, Nat.zero_le _, rfl, HR0⟩
  case round =>
    obtain ⟨j, hj, rfl, hrel⟩ := hrel
    obtain ⟨r, hp, ho, he⟩ := hrel.out
    by_cases hlt : j < n
    · have hlt2 : (j : Int) < (n : Int) := by omega
      have hjl : j < xs.length := by have := HN.out; omega
      have hxj : xs[j]? = some xs[j] := List.getElem?_eq_getElem hjl
      have y0 : wr.cell? ⟨bb, j, none⟩ = some (.string xs[j]) := by
        have := HX.out j _ hxj
        rw [← this]
        have hb1 := ho.block bb hbl hb
        exact World.cell?_of_block hb1
      obtain ⟨t, r2, hr⟩ := hp.form
      subst hr
      have hd : xs.drop j = xs[j] :: xs.drop (j + 1) := (List.getElem_cons_drop hjl).symm
      rw [hd] at he
      have HI := hide (is_calls xs[j] X t r2 c k wr hp)
      have HHE := hide he
      have HHO := hide ho
      have HHP := hide hp
      clear he ho hp hd hxj hrel
      generalize xs[j] = x at *
      cases hi : isT x.data.toList (t :: r2) with
      | true =>
        rw [hi] at HI
        have hk0 := isT_kind0 hi
        have HNX : Hid (wantsT xs l = wantsT (xs.drop (j + 1)) r2) := hide (by rw [HHE.out, want_rest hi]; rfl)
        obtain ⟨b, o, cap, hbX, hc1, hc2, hXb, q0, q1, q2, q3, q4, hrd, hen⟩ := HHP.out.head
        have hr2 := (hen.cons hk0).len
        have HRD := hide hrd
        have HEN := hide hen
        have HK0 := hide hk0
        have hXw := HHP.out.lt
        obtain ⟨nn, hnn⟩ : ∃ nn, nn = r2.length + 1 := ⟨_, rfl⟩
        have HXB := hide hXb
        have HNN := hide hnn
        have hcap1 : ¬ cap = 1 := by omega
        have hnn0 : (1 : Int) ≤ (nn : Int) := by omega
        have hnnc : (nn : Int) ≤ (cap : Int) := by omega
        have hcc1 := hide hc1
        clear hi hk0 q0 q1 q2 q3 q4 hrd hen hXb hnn HHE
        go_wp2_with (go_at_call 132; refine HI.out.mono ?_; rintro e w2 ⟨rfl, hb2⟩; have HB2 := hide (HXB.out.below hb2 HXB.out.lt); have k0 : w2.cell? ⟨X, 0, none⟩ = some (.slice (some ⟨b, o, none⟩) nn cap) := (by rw [HNN.out]; exact HB2.out.cell 0); have kf := (fun i => HB2.out.frozen i); have HRD2 := hide (HRD.out.below (hb2.mono (by omega))); have HO2 := hide (HHO.out.below hb2); clear hb2)
        go_roundw
        case rel =>
          refine ⟨j + 1, by omega, by go_num, hide ⟨r2, ?_, HO2.out.set 0 _, HNX.out⟩⟩
          have hn1 : nn - 1 = r2.length := by have := HNN.out; omega
          rw [hn1]
          exact PrAt.off HB2.out HRD2.out HEN.out HK0.out hcc1.out hc2
        case measure => simp [intOf]; omega
      | false =>
        rw [hi] at HI
        have HNX : Hid (wantsT xs l = .error (4, t.line, t.col)) := hide (by rw [HHE.out, want_stop hi])
        have hF := fun W => fail_calls 4 t W
        obtain ⟨b, o, cap, hbX, hc1, hc2, hXb, q0, q1, q2, q3, q4, hrd, hen⟩ := HHP.out.head
        have HXB := hide hXb
        obtain ⟨nn, hnn⟩ : ∃ nn, nn = r2.length + 1 := ⟨_, rfl⟩
        have HNN := hide hnn
        have hnn0 : (0 : Int) < (nn : Int) := by omega
        have hnnc : (nn : Int) ≤ (cap : Int) := by omega
        have hXw := HHP.out.lt
        obtain ⟨tk, text, v, li, co⟩ := t
        unfold tokV tokC at hF
        simp only at q0 q1 q2 q3 q4 hF HNX
        generalize (⟨text.toArray⟩ : ByteArray) = s at *
        have HF : Hid (∀ W, Calls Tryz.prog 131 #[.int .i64 4, .agg #[.int .i64 (tk : Int), .string s, .int .u64 (v : Int), .int .i64 (li : Int), .int .i64 (co : Int)]] W fun e w' => e = .panicked [fltE (4, li, co)] ∧ Below W.heap.size W w') := hide hF
        have hbw : b < wr.heap.size := by omega
        have HQ : Hid (wr.cell? ⟨b, o, none⟩ = some (.int .i64 (tk : Int)) ∧ wr.cell? ⟨b, o + 1, none⟩ = some (.string s) ∧ wr.cell? ⟨b, o + 2, none⟩ = some (.int .u64 (v : Int)) ∧ wr.cell? ⟨b, o + 3, none⟩ = some (.int .i64 (li : Int)) ∧ wr.cell? ⟨b, o + 4, none⟩ = some (.int .i64 (co : Int))) := hide ⟨q0, q1, q2, q3, q4⟩
        clear hi hrd hen hXb hnn HHE hF q0 q1 q2 q3 q4
        go_wp2_with (go_at_call 132; refine HI.out.mono ?_; rintro e w2 ⟨rfl, hb2⟩; have HB2 := hide (HXB.out.below hb2 HXB.out.lt); have k0 : w2.cell? ⟨X, 0, none⟩ = some (.slice (some ⟨b, o, none⟩) nn cap) := (by rw [HNN.out]; exact HB2.out.cell 0); have z0 := (hb2.cell (p := ⟨b, o, none⟩) hbw).trans HQ.out.1; have z1 := (hb2.cell (p := ⟨b, o + 1, none⟩) hbw).trans HQ.out.2.1; have z2 := (hb2.cell (p := ⟨b, o + 2, none⟩) hbw).trans HQ.out.2.2.1; have z3 := (hb2.cell (p := ⟨b, o + 3, none⟩) hbw).trans HQ.out.2.2.2.1; have z4 := (hb2.cell (p := ⟨b, o + 4, none⟩) hbw).trans HQ.out.2.2.2.2; have HO2 := hide (HHO.out.below hb2); clear hb2)
        refine (HF.out _).mono ?_
        rintro e w3 ⟨rfl, hb3⟩
        exact ⟨rfl, HO2.out.below hb3, .inr ⟨_, HNX.out, rfl⟩⟩
    · obtain rfl : j = n := by omega
      have hd : xs.drop j = [] := List.drop_eq_nil_of_le (by have := HN.out; omega)
      rw [hd] at he
      have HF : Hid (RdV (wantsT xs) unitV2 X l c k w (.returned (.tuple #[])) wr) := hide ⟨ho, .inl ⟨(), r, he, rfl, hp⟩⟩
      clear he ho hp hd hrel hlt
      go_wp2
      go_end0
      exact HF.out
end Go.Proofs.YtcnihmlmaigkdaaGreatDoor
namespace Go.Proofs.YtcnihmlmaigkdaaGreatDoor
open Go.RowKit Go.Lib
set_option linter.unusedVariables false

def idV (n : Nat) : Value := .int .u16 (n : Int)
def boolV2 (q : Bool) : Value := .bool q
section
variable {α β : Type} {m : PM α} {f : α → PM β} {l r : List Token} {a : α} {e : Flt}
theorem bindT_ok (h : m l = .ok (a, r)) : bindT m f l = f a r := by unfold bindT; rw [h]
theorem bindT_err (h : m l = .error e) : bindT m f l = .error e := by unfold bindT; rw [h]
end
theorem RdV.congr {α : Type} {m m2 : PM α} {val : α → Value} {X : Nat} {l : List Token} {c : Cfg} {k : Nat} {w : World} {e : Ending} {w' : World} (h : RdV m val X l c k w e w') (he : m2 l = m l) : RdV m2 val X l c k w e w' := by
  unfold RdV at h ⊢
  rw [he]
  exact h
theorem wants1 (x : ByteArray) (l : List Token) : wantT x.data.toList l = wantsT [x] l := by
  show _ = bindT (wantT x.data.toList) (fun _ => pureT ()) l
  cases h : wantT x.data.toList l with
  | ok p => obtain ⟨u, r⟩ := p; rw [bindT_ok h]; rfl
  | error e => rw [bindT_err h]
theorem want1_calls (x : ByteArray) (X : Nat) (l : List Token) (c : Cfg) (k : Nat) (w : World) (h : PrAt X l c k w) :
    Calls Tryz.prog 78 #[.pointer (some ⟨X, 0, none⟩), .slice (some ⟨w.heap.size, 0, none⟩) 1 1] (w.alloc (.cells #[.string x] 9)) (RdV (wantT x.data.toList) unitV2 X l c k (w.alloc (.cells #[.string x] 9))) := by
  have hXl := h.lt
  refine (want_calls [x] w.heap.size 1 X l c k _ (h.alloc _) (fun j y hy => ?_) (by omega) (by simp) (by simp) (by simp)).mono fun e w' hv => hv.congr (wants1 x l)
  rw [(Blk.new w 9 #[.string x]).cell j]
  cases j with
  | zero => simp at hy; subst hy; rfl
  | succ j => simp at hy
theorem want2_calls (x y : ByteArray) (X : Nat) (l : List Token) (c : Cfg) (k : Nat) (w : World) (h : PrAt X l c k w) :
    Calls Tryz.prog 78 #[.pointer (some ⟨X, 0, none⟩), .slice (some ⟨w.heap.size, 0, none⟩) 2 2] (w.alloc (.cells #[.string x, .string y] 9)) (RdV (wantsT [x, y]) unitV2 X l c k (w.alloc (.cells #[.string x, .string y] 9))) := by
  have hXl := h.lt
  refine want_calls [x, y] w.heap.size 2 X l c k _ (h.alloc _) (fun j z hz => ?_) (by omega) (by simp) (by simp) (by simp)
  rw [(Blk.new w 9 #[.string x, .string y]).cell j]
  cases j with
  | zero => simp at hz; subst hz; rfl
  | succ j => cases j with
    | zero => simp at hz; subst hz; rfl
    | succ j => simp at hz
set_option maxRecDepth 100000 in
set_option maxHeartbeats 2000000 in
theorem pnumber_calls (most : Nat) (X : Nat) (l : List Token) (c : Cfg) (k : Nat) (w : World) (h : PrAt X l c k w) :
    Calls Tryz.prog 194 #[.pointer (some ⟨X, 0, none⟩), .int .u64 (most : Int)] w fun e w' => RdV (numT most) natP X l c k w e w' ∧ ∀ n r, numT most l = .ok (n, r) → n ≤ most := by
  have HB0 : Hid (∀ n r, numT most l = .ok (n, r) → n ≤ most) := hide (fun n r h => by
    unfold numT at h
    split at h
    · split at h
      · injection h with h; injection h with h1 h2; omega
      · cases h
    · cases h)
  obtain ⟨t, r, hl⟩ := h.form
  subst hl
  have hT := take_calls 2 X t r c k w h
  have hF := fun W => fail_calls 5 t W
  have h1 : t.kind ≠ 2 → numT most (t :: r) = .error (4, t.line, t.col) := fun hk => by unfold numT takeT; simp only; rw [if_neg hk]
  have h2 : t.kind = 2 → most < t.val → numT most (t :: r) = .error (5, t.line, t.col) := fun hk hv => by unfold numT takeT; simp only; rw [if_pos hk]; simp only; rw [if_neg (by omega)]
  have h3 : t.kind = 2 → t.val ≤ most → numT most (t :: r) = .ok (t.val, r) := fun hk hv => by unfold numT takeT; simp only; rw [if_pos hk]; simp only; rw [if_pos hv]
  have H1 := hide h1
  have H2 := hide h2
  have H3 := hide h3
  have HTT : Hid (Calls Tryz.prog 77 #[.pointer (some ⟨X, 0, none⟩), .int .i64 2] w (TakeV 2 X t r c k w)) := hide hT
  obtain ⟨tk, text, v, li, co⟩ := t
  unfold tokV tokC at hF
  simp only at hF H1 H2 H3
  have HTV : Hid (tokV ⟨tk, text, v, li, co⟩ = #[.int .i64 (tk : Int), .string ⟨text.toArray⟩, .int .u64 (v : Int), .int .i64 (li : Int), .int .i64 (co : Int)]) := hide rfl
  generalize (⟨text.toArray⟩ : ByteArray) = y at *
  have HF : Hid (∀ W, Calls Tryz.prog 131 #[.int .i64 5, .agg #[.int .i64 (tk : Int), .string y, .int .u64 (v : Int), .int .i64 (li : Int), .int .i64 (co : Int)]] W fun e w' => e = .panicked [fltE (5, li, co)] ∧ Below W.heap.size W w') := hide hF
  clear h hT hF h1 h2 h3
  by_cases hv : most < v
  · have d1 : decide ((most : Int) < (v : Int)) = true := by simpa using hv
    have d2 : decide (most < v) = true := by simpa using hv
    have HV := hide hv
    clear hv
    go_enter Tryz.func194, Tryz.ntmps194
    go_wp2_with fail
    refine HTT.out.mono ?_
    rintro e w2 ⟨ho2, ⟨hk, rfl, hp, _⟩ | ⟨hk, rfl⟩⟩
    · rw [HTV.out]
      have HO2 := hide ho2
      have HK := hide hk
      clear ho2 hk hp
      go_wp2_with fail
      refine (HF.out _).mono ?_
      rintro e w3 ⟨rfl, hb3⟩
      exact ⟨rfl, ⟨(HO2.out.alloc _).below hb3, .inr ⟨_, H2.out HK.out HV.out, rfl⟩⟩, HB0.out⟩
    · exact ⟨rfl, ⟨ho2, .inr ⟨_, H1.out hk, rfl⟩⟩, HB0.out⟩
  · have d1 : decide ((most : Int) < (v : Int)) = false := by simp; omega
    have d2 : decide (most < v) = false := by simp; omega
    have HV := hide (show v ≤ most by omega)
    clear hv
    go_enter Tryz.func194, Tryz.ntmps194
    go_wp2_with fail
    refine HTT.out.mono ?_
    rintro e w2 ⟨ho2, ⟨hk, rfl, hp, _⟩ | ⟨hk, rfl⟩⟩
    · rw [HTV.out]
      have HO2 := hide ho2
      have HK := hide hk
      have HP := hide (hp (by rw [hk]; decide))
      clear ho2 hk hp
      go_wp2_with fail
      go_ret
      exact ⟨⟨HO2.out.alloc _, .inl ⟨v, r, H3.out HK.out HV.out, rfl, HP.out.alloc _⟩⟩, HB0.out⟩
    · exact ⟨rfl, ⟨ho2, .inr ⟨_, H1.out hk, rfl⟩⟩, HB0.out⟩
end Go.Proofs.YtcnihmlmaigkdaaGreatDoor
namespace Go.Proofs.YtcnihmlmaigkdaaGreatDoor
open Go.RowKit Go.Lib
set_option linter.unusedVariables false

set_option maxRecDepth 100000 in
set_option maxHeartbeats 2000000 in
theorem pid_calls (X : Nat) (l : List Token) (c : Cfg) (k : Nat) (w : World) (h : PrAt X l c k w) :
    Calls Tryz.prog 135 #[.pointer (some ⟨X, 0, none⟩)] w fun e w' => RdV (numT 65535) idV X l c k w e w' ∧ ∀ n r, numT 65535 l = .ok (n, r) → n ≤ 65535 := by
  have HN : Hid (Calls Tryz.prog 194 #[.pointer (some ⟨X, 0, none⟩), .int .u64 65535] w fun e w' => RdV (numT 65535) natP X l c k w e w' ∧ ∀ n r, numT 65535 l = .ok (n, r) → n ≤ 65535) := hide (pnumber_calls 65535 X l c k w h)
  clear h
  go_enter Tryz.func135, Tryz.ntmps135
  go_wp2_with fail
  refine HN.out.mono ?_
  rintro e w2 ⟨⟨ho2, ⟨n, r, hm, rfl, hp⟩ | ⟨f, hm, rfl⟩⟩, hb⟩
  · have hn := hb n r hm
    have wn : IntKind.u16.wrap (n : Int) = (n : Int) := by rw [IntKind.wrap_u16]; omega
    have HF : Hid (RdV (numT 65535) idV X l c k w (.returned (.int .u16 (n : Int))) w2) := hide ⟨ho2, .inl ⟨n, r, hm, rfl, hp⟩⟩
    have HB := hide hb
    clear ho2 hm hp hb hn
    unfold natP
    go_wp2_with fail
    go_ret
    exact ⟨HF.out, HB.out⟩
  · exact ⟨rfl, ⟨ho2, .inr ⟨f, hm, rfl⟩⟩, hb⟩
set_option maxRecDepth 100000 in
set_option maxHeartbeats 2000000 in
theorem pfield_calls (word : ByteArray) (most : Nat) (X : Nat) (l : List Token) (c : Cfg) (k : Nat) (w : World) (h : PrAt X l c k w) :
    Calls Tryz.prog 133 #[.pointer (some ⟨X, 0, none⟩), .string word, .int .u64 (most : Int)] w fun e w' => RdV (fieldT word.data.toList most) natP X l c k w e w' ∧ ∀ n r, fieldT word.data.toList most l = .ok (n, r) → n ≤ most := by
  have HBD : Hid (∀ n r, fieldT word.data.toList most l = .ok (n, r) → n ≤ most) := hide (fun n r h => by
    unfold fieldT at h
    cases h1 : wantT word.data.toList l with
    | error e => rw [bindT_err h1] at h; cases h
    | ok p =>
      obtain ⟨u, r1⟩ := p
      rw [bindT_ok h1] at h
      cases h2 : numT most r1 with
      | error e => rw [bindT_err h2] at h; cases h
      | ok q =>
        obtain ⟨m, r2⟩ := q
        rw [bindT_ok h2] at h
        have hm : m ≤ most := by
          unfold numT at h2
          split at h2
          · split at h2
            · injection h2 with h2; injection h2 with h3 h4; omega
            · cases h2
          · cases h2
        cases h3 : wantT [59] r2 with
        | error e => rw [bindT_err h3] at h; cases h
        | ok q =>
          obtain ⟨u2, r3⟩ := q
          rw [bindT_ok h3] at h
          injection h with h; injection h with h4 h5; omega)
  have HW := hide (fun x l W (hW : PrAt X l c k W) => want1_calls x X l c k W hW)
  have HN := hide (fun l W (hW : PrAt X l c k W) => pnumber_calls most X l c k W hW)
  have HP := hide h
  clear h
  go_enter Tryz.func133, Tryz.ntmps133
  go_wp2_with fail
  refine (HW.out word _ _ HP.out).mono ?_
  rintro e w2 ⟨ho2, ⟨u, r1, h1, rfl, hp1⟩ | ⟨f, h1, rfl⟩⟩
  · have HO2 := hide (((OnlyX.refl X w).alloc (.cells #[.string word] 9)).trans ho2); have HP1 := hide hp1; have H1 := hide h1
    clear ho2 hp1 h1
    unfold unitV2
    go_wp2_with fail
    refine (HN.out _ _ HP1.out).mono ?_
    rintro e w3 ⟨⟨ho3, ⟨n, r2, h2, rfl, hp2⟩ | ⟨f, h2, rfl⟩⟩, _⟩
    · have HO3 := hide (HO2.out.trans ho3); have HP2 := hide hp2; have H2 := hide h2
      clear ho3 hp2 h2
      unfold natP
      go_wp2_with fail
      refine (HW.out ⟨#[59]⟩ _ _ HP2.out).mono ?_
      rintro e w4 ⟨ho4, ⟨u4, r3, h3, rfl, hp3⟩ | ⟨f, h3, rfl⟩⟩
      · have HF : Hid (RdV (fieldT word.data.toList most) natP X l c k w (.returned (.int .u64 (n : Int))) w4) := hide ⟨(HO3.out.alloc _).trans ho4, .inl ⟨n, r3, by unfold fieldT; rw [bindT_ok H1.out, bindT_ok H2.out, bindT_ok h3]; rfl, rfl, hp3⟩⟩
        clear ho4 hp3 h3
        unfold unitV2
        go_wp2_with fail
        go_ret
        exact ⟨HF.out, HBD.out⟩
      · exact ⟨rfl, ⟨(HO3.out.alloc _).trans ho4, .inr ⟨f, by unfold fieldT; rw [bindT_ok H1.out, bindT_ok H2.out, bindT_err h3], rfl⟩⟩, HBD.out⟩
    · exact ⟨rfl, ⟨HO2.out.trans ho3, .inr ⟨f, by unfold fieldT; rw [bindT_ok H1.out, bindT_err h2], rfl⟩⟩, HBD.out⟩
  · exact ⟨rfl, ⟨((OnlyX.refl X w).alloc _).trans ho2, .inr ⟨f, by unfold fieldT; rw [bindT_err h1], rfl⟩⟩, HBD.out⟩
set_option maxRecDepth 100000 in
set_option maxHeartbeats 2000000 in
theorem pbig_calls (word : ByteArray) (X : Nat) (l : List Token) (c : Cfg) (k : Nat) (w : World) (h : PrAt X l c k w) :
    Calls Tryz.prog 79 #[.pointer (some ⟨X, 0, none⟩), .string word] w fun e w' => RdV (fieldT word.data.toList topN) natP X l c k w e w' ∧ ∀ n r, fieldT word.data.toList topN l = .ok (n, r) → n ≤ topN := by
  have HN : Hid (Calls Tryz.prog 133 #[.pointer (some ⟨X, 0, none⟩), .string word, .int .u64 18446744073709551615] w fun e w' => RdV (fieldT word.data.toList topN) natP X l c k w e w' ∧ ∀ n r, fieldT word.data.toList topN l = .ok (n, r) → n ≤ topN) := hide (pfield_calls word topN X l c k w h)
  clear h
  go_enter Tryz.func79, Tryz.ntmps79
  go_wp2_with fail
  refine HN.out.mono ?_
  rintro e w2 ⟨⟨ho2, ⟨n, r, hm, rfl, hp⟩ | ⟨f, hm, rfl⟩⟩, hb⟩
  · have HF : Hid (RdV (fieldT word.data.toList topN) natP X l c k w (.returned (.int .u64 (n : Int))) w2) := hide ⟨ho2, .inl ⟨n, r, hm, rfl, hp⟩⟩
    have HB := hide hb
    clear ho2 hm hp hb
    unfold natP
    go_wp2_with fail
    go_ret
    exact ⟨HF.out, HB.out⟩
  · exact ⟨rfl, ⟨ho2, .inr ⟨f, hm, rfl⟩⟩, hb⟩
theorem choice_w {a b : ByteArray} {l : List Token} : choiceT a.data.toList b.data.toList l = if isT b.data.toList l then bindT (wantsT [b, ⟨#[59]⟩]) (fun _ => pureT true) l else bindT (wantsT [a, ⟨#[59]⟩]) (fun _ => pureT false) l := by
  have go : ∀ (x : ByteArray) (q : Bool), bindT (wantT x.data.toList) (fun _ => bindT (wantT [59]) fun _ => pureT q) l = bindT (wantsT [x, ⟨#[59]⟩]) (fun _ => pureT q) l := by
    intro x q
    cases h1 : wantT x.data.toList l with
    | error e =>
      rw [bindT_err h1]
      have : wantsT [x, ⟨#[59]⟩] l = .error e := by show bindT _ _ l = _; rw [bindT_err h1]
      rw [bindT_err this]
    | ok p =>
      obtain ⟨u, r1⟩ := p
      rw [bindT_ok h1]
      have e1 : wantsT [x, ⟨#[59]⟩] l = wantsT [⟨#[59]⟩] r1 := by show bindT _ _ l = _; rw [bindT_ok h1]
      have e2 : wantsT [x, ⟨#[59]⟩] l = wantT [59] r1 := by rw [e1, ← wants1]
      cases h2 : wantT [59] r1 with
      | error e => rw [bindT_err h2, bindT_err (e2.trans h2)]
      | ok q2 => obtain ⟨u2, r2⟩ := q2; rw [bindT_ok h2, bindT_ok (e2.trans h2)]
  unfold choiceT
  rw [go, go]
set_option maxRecDepth 100000 in
set_option maxHeartbeats 2000000 in
theorem second_calls (a b : ByteArray) (X : Nat) (l : List Token) (c : Cfg) (k : Nat) (w : World) (h : PrAt X l c k w) :
    Calls Tryz.prog 137 #[.pointer (some ⟨X, 0, none⟩), .string a, .string b] w (RdV (choiceT a.data.toList b.data.toList) boolV2 X l c k w) := by
  obtain ⟨t, r, hl⟩ := h.form
  subst hl
  have HI := hide (is_calls b X t r c k w h)
  have HW := hide (fun x y W (hW : PrAt X (t :: r) c k W) => want2_calls x y X (t :: r) c k W hW)
  have HP := hide h
  have hc := choice_w (a := a) (b := b) (l := t :: r)
  have HC1 : Hid (∀ q, isT b.data.toList (t :: r) = q → choiceT a.data.toList b.data.toList (t :: r) = bindT (wantsT [cond q b a, ⟨#[59]⟩]) (fun _ => pureT q) (t :: r)) := hide (fun q hq => by
    rw [hc, hq]
    cases q
    · rw [if_neg (by decide)]; rfl
    · rw [if_pos rfl]; rfl)
  cases hi : isT b.data.toList (t :: r)
  all_goals
    rw [hi] at HI
    have hC := HC1.out _ hi
    unfold cond at hC
    simp only at hC
    have HC := hide hC
    clear h hi hc HC1 hC
    go_enter Tryz.func137, Tryz.ntmps137
    go_wp2_with (go_at_call 132; refine HI.out.mono ?_; rintro e w2 ⟨rfl, hb2⟩; have HP2 := hide (HP.out.below hb2); have HO2 := hide ((OnlyX.refl X w).below hb2); clear hb2)
    refine (HW.out _ _ _ HP2.out).mono ?_
    rintro e w4 ⟨ho4, ⟨u4, r3, h3, rfl, hp3⟩ | ⟨f, h3, rfl⟩⟩
    · have HO4 := hide ((HO2.out.alloc _).trans ho4); have HP4 := hide hp3; have H3 := hide h3
      clear ho4 hp3 h3
      unfold unitV2
      go_wp2_with fail
      go_ret
      exact ⟨HO4.out, .inl ⟨_, r3, by rw [HC.out, bindT_ok H3.out]; rfl, rfl, HP4.out⟩⟩
    · exact ⟨rfl, ⟨(HO2.out.alloc _).trans ho4, .inr ⟨f, by rw [HC.out, bindT_err h3], rfl⟩⟩⟩
set_option maxRecDepth 100000 in
theorem limit_ok (n most : Int) (t : Token) (hn : n < most) (w : World) :
    Calls Tryz.prog 134 #[.int .i64 n, .int .i64 most, .agg (tokV t)] w fun e w' => e = .returned (.tuple #[]) ∧ Below w.heap.size w w' := by
  obtain ⟨kind, text, v, li, co⟩ := t
  unfold tokV tokC
  simp only
  generalize (⟨text.toArray⟩ : ByteArray) = s
  have d : decide (most ≤ n) = false := by simp; omega
  go_enter Tryz.func134, Tryz.ntmps134
  go_wp2
  go_end0
  exact ⟨rfl, (Below.refl _ w).alloc (Nat.le_refl _) _⟩
set_option maxRecDepth 100000 in
theorem limit_bad (n most : Int) (t : Token) (hn : most ≤ n) (w : World) :
    Calls Tryz.prog 134 #[.int .i64 n, .int .i64 most, .agg (tokV t)] w fun e w' => e = .panicked [fltE (7, t.line, t.col)] ∧ Below w.heap.size w w' := by
  have hF := fun W => fail_calls 7 t W
  obtain ⟨kind, text, v, li, co⟩ := t
  unfold tokV tokC at hF ⊢
  simp only at hF ⊢
  generalize (⟨text.toArray⟩ : ByteArray) = s at *
  have HF : Hid (∀ W, Calls Tryz.prog 131 #[.int .i64 7, .agg #[.int .i64 (kind : Int), .string s, .int .u64 (v : Int), .int .i64 (li : Int), .int .i64 (co : Int)]] W fun e w' => e = .panicked [fltE (7, li, co)] ∧ Below W.heap.size W w') := hide hF
  have d : decide (most ≤ n) = true := by simpa using hn
  clear hF hn
  go_enter Tryz.func134, Tryz.ntmps134
  go_wp2_with fail
  refine (HF.out _).mono ?_
  rintro e w2 ⟨rfl, hb2⟩
  exact ⟨rfl, rfl, ((Below.refl _ w).alloc (Nat.le_refl _) _).trans (hb2.mono (by simp))⟩
end Go.Proofs.YtcnihmlmaigkdaaGreatDoor
