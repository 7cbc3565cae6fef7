/- The parser's records (chapter 07). The parser's module (chapter 07). The parser's deferred closure (chapter 07). -/
import Derived.Test.YtcnihmlmaigkdaaGreatDoorMPrAt
import Derived.Test.YtcnihmlmaigkdaaGreatDoorMPrRec3
import Derived.Test.YtcnihmlmaigkdaaGreatDoorPrRec5
import Derived.Test.YtcnihmlmaigkdaaGreatDoorMPaSpec
import Derived.Carry
import Derived.StringKeys
import Derived.Deep.LoopGhost
import Derived.Defers
import Derived.Recover
namespace Go.Proofs.YtcnihmlmaigkdaaGreatDoor
open Go.RowKit Go.Lib Go.Sort Go.Maps Go.WideMaps
set_option linter.unusedVariables false

def fK : Nat → Nat
  | 1 => 80
  | 2 => 81
  | 3 => 82
  | 4 => 83
  | _ => 84
/-- The map's values: the methods, bound to the parser at X. -/
def vsX (X : Nat) : Nat → Value
  | 0 => .nilFunc
  | k + 1 => .func (.func (fK (k + 1))) #[.pointer (some ⟨X, 0, none⟩)] #[]
theorem recordT_meth {k : Nat} {c : PC} {t : Token} {r : List Token} (h : t.kind = 1) : recordT k c (t :: r) = bindT (methT k c t) (fun c2 => bindT (wantT [125]) fun _ => pureT c2) r := by
  unfold recordT methT
  have h1 : takeT 1 (t :: r) = .ok (t, r) := by unfold takeT; simp only; rw [if_pos h]
  rw [bindT_ok h1]
  by_cases hl : limN k ≤ cntK c k
  · rw [if_pos hl, if_pos hl]; rfl
  · rw [if_neg hl, if_neg hl]
theorem prec_stop {f : Nat} {c : PC} {t : Token} {r : List Token} (hf : 1 ≤ f) (h : ¬ (t.kind = 1 ∧ 0 < sectN t.text)) : recordsT f c (t :: r) = .ok (c, t :: r) := by
  obtain ⟨g, rfl⟩ : ∃ g, f = g + 1 := ⟨f - 1, by omega⟩
  rw [recordsT]
  simp only
  rw [if_neg h]
theorem rec_go {g : Nat} {c : PC} {t : Token} {r : List Token} (h : t.kind = 1) (hk : 0 < sectN t.text) : recordsT (g + 1) c (t :: r) = (match recordT (sectN t.text) c (t :: r) with
      | .error e => .error e
      | .ok (c2, r) => recordsT g c2 r) := by
  rw [recordsT]
  simp only
  rw [if_pos ⟨h, hk⟩]
  rfl
theorem ownsMap_mk {H : Type} {P : Program} {k : TypeId} {R : Value → Option (DataW H × List MemPlace)} {X b n : Nat} {w w' : World} {D : DataW H} (h : w.ownsMap P k R b n D) (hk : MK X w w') (hb : b ≠ X) : w'.ownsMap P k R b n D := by
  obtain ⟨es, clock, h1, F, hs, hD⟩ := h
  exact ⟨es, clock, hk b es clock hb h1, F, hs, hD⟩
theorem RecK_calls (k : Nat) (h1 : 1 ≤ k) (h5 : k ≤ 5) (X : Nat) (l : List Token) (c : Cfg) (t : Token) (w : World) (h : PrAt X l c (linksN c.chans.l) w) (ho : OwnC (X + 1) c w) :
    Calls Tryz.prog (fK k) #[.pointer (some ⟨X, 0, none⟩), .agg (tokV t)] w (RecV k X t l c w) := by
  rcases (show k = 1 ∨ k = 2 ∨ k = 3 ∨ k = 4 ∨ k = 5 by omega) with rfl | rfl | rfl | rfl | rfl
  · exact PRec1_calls X l c t w h ho
  · exact PRec2_calls X l c t w h ho
  · exact PRec3_calls X l c t w h ho
  · exact PRec4_calls X l c t w h ho
  · exact PRec5_calls X l c t w h ho
/-- At the loop's head. -/
structure PcS (X : Nat) (w : World) (l : List Token) (c : Cfg) (m gk : Nat) (r : List Token) (c1 : Cfg) (wr : World) : Prop where
  low : Below X w wr
  st : PrAt X r c1 (linksN c1.chans.l) wr
  own : OwnC (X + 1) c1 wr
  map : wr.ownsMap Tryz.prog 9 (fnR (vsX X)) m 5 (tabD (vsX X))
  len : r.length = gk
  txt : TxtLe r
  eq : ∃ f, r.length ≤ f ∧ recordsT l.length (pcOf c) l = recordsT f (pcOf c1) r
/-- Behind records. -/
def RecsV (X : Nat) (l : List Token) (c : Cfg) (w : World) (e : Ending) (w' : World) : Prop :=
  Below X w w' ∧ ((∃ c' r, allRecT (pcOf c) l = .ok (pcOf c', r) ∧ e = .returned (.tuple #[]) ∧ PrAt X r c' (linksN c'.chans.l) w' ∧ OwnC (X + 1) c' w') ∨ ∃ f, allRecT (pcOf c) l = .error f ∧ e = .panicked [fltE f])
theorem zeroFn (w : World) : (zeroValue 136).run Tryz.prog w = .ok .nilFunc w := by kernel_rfl
theorem sect_le5 (w : List UInt8) : sectN w ≤ 5 := by
  unfold sectN
  repeat (split; omega)
  omega
theorem suf_meth (k : Nat) (c : PC) (t : Token) : SufO (methT k c t) := by
  unfold methT
  by_cases h : limN k ≤ cntK c k
  · rw [if_pos h]; exact suf_err _
  · rw [if_neg h]; exact suf_body k c
section
variable {w : World} {ops : Array Oper} {rest : List Oper} {o : Oper} {a : Act} {Q : Exit → Act → World → Prop}
theorem wpList_lookup_tab (hg : o.guard = none) (m x : Operand) (hop : o.op = Op.lookup 137 m x true) (X b : Nat) (hm : a.eval m = .map (some b)) (hown : w.ownsMap Tryz.prog 9 (fnR (vsX X)) b 5 (tabD (vsX X)))
    (s : ByteArray) (hx : a.eval x = .string s) (hs : s.size ≤ maxLen) (v : Value) (q : Bool) (hv : v = vsX X (sectN s.data.toList)) (hq : q = decide (0 < sectN s.data.toList)) (hK : wpList Tryz.prog ops Q rest (a.put o.dst (.tuple #[v, .bool q])) w) :
    wpList Tryz.prog ops Q (o :: rest) a w :=
  wpList_lookup_own_ok w hg m x _ hop 9 136 (string_keyed Tryz.underlying9) Tryz.underlying137 (fnR (vsX X)) (zeroFn w) (fnD (vsX X) 0) [] (fnR_at (vsX X) 0) b 5 _ hm hown (.string s) (.string s.data.toList) hx (keyOf_string_mk Tryz.underlying9 hs) (fun v2 ps hv2 => by
    have h1 := tab_look (vsX X) s.data.toList
    rw [h1.1] at hv2
    have h2 : v2 = vsX X (sectN s.data.toList) := by
      by_cases h0 : sectN s.data.toList = 0
      · rw [if_pos h0] at hv2
        rw [h0]
        exact fnR_inj hv2
      · rw [if_neg h0] at hv2
        exact fnR_inj hv2
    rw [h2, h1.2, ← hv, ← hq]
    exact hK)
end
set_option maxRecDepth 100000 in
set_option maxHeartbeats 4000000 in
theorem Precs_calls (X : Nat) (l : List Token) (c : Cfg) (w : World) (h : PrAt X l c (linksN c.chans.l) w) (ho : OwnC (X + 1) c w) (ht : TxtLe l) :
    Calls Tryz.prog 40 #[.pointer (some ⟨X, 0, none⟩)] w (RecsV X l c w) := by
  have hXl := h.lt
  have hmm := @run_makeMap Tryz.prog
  have hkd : Keyed Tryz.prog 9 := string_keyed Tryz.underlying9
  have hku := Tryz.underlying9
  obtain ⟨W1, e1, o1, t1⟩ := (World.ownsMap_made w Tryz.prog 9 (fnR (vsX X))).store hkd Tryz.underlying137 (by decide) (key := .string ⟨#[112, 97, 114, 116, 105, 116, 105, 111, 110]⟩) (kl := .string (sectW 1)) (keyOf_string_mk hku (by decide)) (fnR_at (vsX X) 1)
  have e1 : (Instr.mapUpdate 137 (.map (some w.heap.size)) (.string ⟨#[112, 97, 114, 116, 105, 116, 105, 111, 110]⟩) (.func (.func 80) #[.pointer (some ⟨X, 0, none⟩)] #[])).run Tryz.prog (w.alloc (.map #[] 0)) = .ok () W1 := e1
  obtain ⟨W2, e2, o2, t2⟩ := (o1).store hkd Tryz.underlying137 (by decide) (key := .string ⟨#[119, 105, 110, 100, 111, 119]⟩) (kl := .string (sectW 2)) (keyOf_string_mk hku (by decide)) (fnR_at (vsX X) 2)
  have e2 : (Instr.mapUpdate 137 (.map (some w.heap.size)) (.string ⟨#[119, 105, 110, 100, 111, 119]⟩) (.func (.func 81) #[.pointer (some ⟨X, 0, none⟩)] #[])).run Tryz.prog W1 = .ok () W2 := e2
  obtain ⟨W3, e3, o3, t3⟩ := (o2).store hkd Tryz.underlying137 (by decide) (key := .string ⟨#[114, 101, 103, 105, 111, 110]⟩) (kl := .string (sectW 3)) (keyOf_string_mk hku (by decide)) (fnR_at (vsX X) 3)
  have e3 : (Instr.mapUpdate 137 (.map (some w.heap.size)) (.string ⟨#[114, 101, 103, 105, 111, 110]⟩) (.func (.func 82) #[.pointer (some ⟨X, 0, none⟩)] #[])).run Tryz.prog W2 = .ok () W3 := e3
  obtain ⟨W4, e4, o4, t4⟩ := (o3).store hkd Tryz.underlying137 (by decide) (key := .string ⟨#[112, 111, 114, 116]⟩) (kl := .string (sectW 4)) (keyOf_string_mk hku (by decide)) (fnR_at (vsX X) 4)
  have e4 : (Instr.mapUpdate 137 (.map (some w.heap.size)) (.string ⟨#[112, 111, 114, 116]⟩) (.func (.func 83) #[.pointer (some ⟨X, 0, none⟩)] #[])).run Tryz.prog W3 = .ok () W4 := e4
  obtain ⟨W5, e5, o5, t5⟩ := (o4).store hkd Tryz.underlying137 (by decide) (key := .string ⟨#[99, 104, 97, 110, 110, 101, 108]⟩) (kl := .string (sectW 5)) (keyOf_string_mk hku (by decide)) (fnR_at (vsX X) 5)
  have e5 : (Instr.mapUpdate 137 (.map (some w.heap.size)) (.string ⟨#[99, 104, 97, 110, 110, 101, 108]⟩) (.func (.func 84) #[.pointer (some ⟨X, 0, none⟩)] #[])).run Tryz.prog W4 = .ok () W5 := e5
  have HT := hide ((((t1.trans t2).trans t3).trans t4).trans t5)
  have HOX : Hid (OnlyX X w W5) := hide (OnlyX.grownP ((OnlyX.refl X w).alloc (.map #[] 0)) HT.out.grown (fun r e => by injection e with e; omega))
  have HBW : Hid (Below w.heap.size w W5) := hide (((Below.refl _ w).alloc (Nat.le_refl _) (.map #[] 0)).grown HT.out.grown (by simp) (fun r e => by injection e with e; omega))
  have HR0 : Hid (PcS X w l c w.heap.size l.length l c W5) := hide ⟨HOX.out.low hXl, h.below HBW.out, h.own ho HOX.out, o5, rfl, ht, l.length, Nat.le_refl _, rfl⟩
  obtain ⟨n0, hn0⟩ : ∃ n, n = l.length := ⟨_, rfl⟩
  have hall : allRecT (pcOf c) l = recordsT l.length (pcOf c) l := rfl
  unfold RecsV
  rw [hall]
  obtain ⟨RL, hRL⟩ : ∃ x, x = recordsT l.length (pcOf c) l := ⟨_, rfl⟩
  rw [← hRL]
  have HRL := hide hRL
  rw [← hn0] at HR0
  clear h ho ht hn0 o1 o2 o3 o4 o5 t1 t2 t3 t4 t5 HT HOX HBW hall hRL hkd hku
  have eF1 : ∀ args w, (callFunc 80 args).run Tryz.prog w = .ok (.enter 80 args) w := enters_of Tryz.func80 (by kernel_rfl) rfl
  have eF2 : ∀ args w, (callFunc 81 args).run Tryz.prog w = .ok (.enter 81 args) w := enters_of Tryz.func81 (by kernel_rfl) rfl
  have eF3 : ∀ args w, (callFunc 82 args).run Tryz.prog w = .ok (.enter 82 args) w := enters_of Tryz.func82 (by kernel_rfl) rfl
  have eF4 : ∀ args w, (callFunc 83 args).run Tryz.prog w = .ok (.enter 83 args) w := enters_of Tryz.func83 (by kernel_rfl) rfl
  have eF5 : ∀ args w, (callFunc 84 args).run Tryz.prog w = .ok (.enter 84 args) w := enters_of Tryz.func84 (by kernel_rfl) rfl
  go_enter Tryz.func40, Tryz.ntmps40
  go_wp2
  go_loopg [] n0 (fun k wr => Hid (∃ r c1, PcS X w l c w.heap.size k r c1 wr))
  case atStart => exact hide ⟨l, c, HR0.out⟩
  case round =>
    obtain ⟨r0, c1, hR⟩ := hrel.out
    obtain ⟨t, r, hl⟩ := hR.st.form
    subst hl
    have HR := hide hR
    obtain ⟨b, o, cp, hbX, hcp, hcp2, hbl, y0, y1, y2, y3, y4, _, _⟩ := hR.st.head
    have k0 : wr.cell? ⟨X, 0, none⟩ = some (.slice (some ⟨b, o, none⟩) (r.length + 1) cp) := hbl.cell 0
    obtain ⟨nn, hnn⟩ : ∃ k, k = r.length + 1 := ⟨_, rfl⟩
    rw [← hnn] at k0 hcp
    have hnI : (0 : Int) < (nn : Int) := by omega
    have hcI : (nn : Int) ≤ (cp : Int) := by omega
    have hXr := hR.st.lt
    obtain ⟨f, hf1, hf2⟩ := hR.eq
    rw [← HRL.out] at hf2
    have hsz : t.text.length ≤ 9223372036854775807 := hR.txt t List.mem_cons_self
    have HSTOP : Hid (¬ (t.kind = 1 ∧ 0 < sectN t.text) → RL = .ok (pcOf c1, t :: r)) := hide (fun hn => hf2.trans (prec_stop (by simp at hf1; omega) hn))
    have HGO : Hid (t.kind = 1 → 0 < sectN t.text → RL = (match bindT (methT (sectN t.text) (pcOf c1) t) (fun c2 => bindT (wantT [125]) fun _ => pureT c2) r with
      | .error e => .error e
      | .ok (c2, r) => recordsT (f - 1) c2 r)) := hide (fun h1 h2 => by
        obtain ⟨g, rfl⟩ : ∃ g, f = g + 1 := ⟨f - 1, by simp at hf1; omega⟩
        rw [hf2, rec_go h1 h2, recordT_meth h1]; rfl)
    have HF1 := hide hf1
    have HTAKE := hide (fun W (hW : PrAt X (t :: r) c1 (linksN c1.chans.l) W) => take_calls 1 X t r c1 _ W hW)
    have hq5 := sect_le5 t.text
    obtain ⟨q, hq⟩ : ∃ q, q = sectN t.text := ⟨_, rfl⟩
    rw [← hq] at hq5 HSTOP HGO
    have HREC := hide (fun h1 W hW hO => RecK_calls q h1 hq5 X r c1 t W hW hO)
    clear hrel hR hbl hf1 hf2 hnn
    obtain ⟨kind, text, v, li, co⟩ := t
    obtain ⟨y, hy⟩ : ∃ y : ByteArray, y = ⟨text.toArray⟩ := ⟨_, rfl⟩
    have hyt : y.data.toList = text := by rw [hy]
    have hys : y.size ≤ maxLen := by rw [hy]; simpa [ByteArray.size, maxLen] using hsz
    unfold TakeV at HTAKE
    unfold tokV tokC at HTAKE HREC
    simp only at y0 y1 y2 y3 y4 HTAKE HREC HGO HSTOP hq
    rw [← hy] at y1 HTAKE HREC
    rw [← hyt] at hq
    have HQE := hide hq
    clear hy hyt hsz hq
    by_cases hk : kind = 1
    · subst hk
      by_cases hqz : q = 0
      · subst hqz
        have HV : Hid (Value.nilFunc = vsX X (sectN y.data.toList)) := hide (by rw [← HQE.out]; rfl)
        have HQ : Hid (false = decide (0 < sectN y.data.toList)) := hide (by rw [← HQE.out]; rfl)
        have HS := hide (HSTOP.out (by omega))
        clear HSTOP HGO HREC HTAKE
        go_wp2_with (at_lookup; refine wpList_lookup_tab rfl _ _ rfl X w.heap.size rfl HR.out.map y rfl hys _ _ HV.out HQ.out ?_)
        first | go_end0 | (refine bodyPost_ret (results_none rfl _ _ _) rfl ?_)
        exact ⟨HR.out.low, .inl ⟨c1, _, HS.out, rfl, HR.out.st, HR.out.own⟩⟩
      · have HQ : Hid (true = decide (0 < sectN y.data.toList)) := hide (by rw [← HQE.out]; simp; omega)
        have HV0 : Hid (vsX X q = vsX X (sectN y.data.toList)) := hide (by rw [HQE.out])
        have HREC2 := hide (HREC.out (by omega))
        have HG := hide (HGO.out rfl (by omega))
        have HTK : Hid (∀ W, PrAt X (⟨1, text, v, li, co⟩ :: r) c1 (linksN c1.chans.l) W → Calls Tryz.prog 77 #[.pointer (some ⟨X, 0, none⟩), .int .i64 1] W fun e w' => e = .returned (.agg #[.int .i64 1, .string y, .int .u64 (v : Int), .int .i64 (li : Int), .int .i64 (co : Int)]) ∧ OnlyX X W w' ∧ PrAt X r c1 (linksN c1.chans.l) w') := hide (fun W hW => (HTAKE.out W hW).mono (by
          rintro e w' ⟨ho, ⟨h1, rfl, h2, _⟩ | ⟨h1, rfl⟩⟩
          · exact ⟨rfl, ho, h2 (by omega)⟩
          · exact absurd rfl h1))
        clear HSTOP HGO HREC HTAKE
        rcases (show q = 1 ∨ q = 2 ∨ q = 3 ∨ q = 4 ∨ q = 5 by omega) with rfl | rfl | rfl | rfl | rfl
        all_goals
          have hrc := HREC2.out
          have hv0 := HV0.out
          simp only [vsX, fK] at hrc hv0
          have HV := hide hv0
          have HREC3 := hide hrc
          clear hrc hv0 HREC2 HV0 hqz hq5
          go_wp2_with (first
            | (at_lookup; refine wpList_lookup_tab rfl _ _ rfl X w.heap.size rfl HR.out.map y rfl hys _ _ HV.out HQ.out ?_)
            | (go_at_call 77; refine (HTK.out _ HR.out.st).mono ?_; rintro e w2 ⟨rfl, ho2, hs2⟩; have HO2 := hide ho2; have HS2 := hide hs2; have hX2 := hs2.lt; clear ho2 hs2))
          refine (HREC3.out _ HS2.out (HR.out.st.own HR.out.own HO2.out)).mono ?_
          rintro e w7 ⟨hlow, ⟨c7, r7, hm7, rfl, hs7, ho7, hk7⟩ | ⟨f7, hm7, rfl⟩⟩
          rotate_left
          exact ⟨rfl, (HR.out.low.trans (HO2.out.low hXr)).trans hlow, .inr ⟨f7, by rw [HG.out, bindT_err hm7], rfl⟩⟩
          have HS7 := hide hs7
          have HO7 := hide ho7
          have HM7 := hide hm7
          have HK7 := hide ((MK.of_only HO2.out).trans hk7)
          have HL7 := hide ((HR.out.low.trans (HO2.out.low hXr)).trans hlow)
          have hX7 := hs7.lt
          clear hs7 ho7 hm7 hk7 hlow
          go_wp2_with fail
          refine (want1_at ⟨#[125]⟩ _ X r7 c7 _ w7 HS7.out rfl).mono ?_
          rintro e w8 ⟨ho8, ⟨u, r8, h8, rfl, hs8⟩ | ⟨f8, h8, rfl⟩⟩
          rotate_left
          exact ⟨rfl, HL7.out.trans (((OnlyX.refl X w7).alloc _ |>.trans ho8).low hX7), .inr ⟨f8, by rw [HG.out, bindT_ok HM7.out, bindT_err h8], rfl⟩⟩
          have HO8 := hide (((OnlyX.refl X w7).alloc _).trans ho8)
          have HS8 := hide hs8
          have HEQ : Hid (RL = recordsT (f - 1) (pcOf c7) r8) := hide (by rw [HG.out, bindT_ok HM7.out, bindT_ok h8]; rfl)
          have hsf7 := suf_meth _ _ _ _ _ _ HM7.out
          have hsf8 := suf_want _ _ _ _ h8
          have hle : r8.length ≤ r.length := by have h1 := hsf7.length_le; have h2 := hsf8.length_le; omega
          have HTX : Hid (TxtLe r8) := hide (TxtLe.suf HR.out.txt (hsf8.trans (hsf7.trans (List.suffix_cons _ _))))
          have hgk := HR.out.len
          clear ho8 hs8 h8 hsf7 hsf8
          unfold unitV2
          go_wp2_with fail
          go_roundg (r8.length)
          case rel => exact hide ⟨r8, c7, HL7.out.trans (HO8.out.low hX7), HS8.out, HS7.out.own HO7.out HO8.out, ownsMap_mk HR.out.map (HK7.out.trans (MK.of_only HO8.out)) (by omega), rfl, HTX.out, f - 1, by have := HF1.out; simp at this; omega, by rw [← HRL.out]; exact HEQ.out⟩
          case measure => simp at hgk; omega
    · have m1 : ((kind : Int) == 1) = false := by rw [beq_eq_false_iff_ne]; omega
      have HS := hide (HSTOP.out (fun hh => hk hh.1))
      clear HSTOP HGO HREC HTAKE hk
      go_wp2
      first | go_end0 | (refine bodyPost_ret (results_none rfl _ _ _) rfl ?_)
      exact ⟨HR.out.low, .inl ⟨c1, _, HS.out, rfl, HR.out.st, HR.out.own⟩⟩
end Go.Proofs.YtcnihmlmaigkdaaGreatDoor
namespace Go.Proofs.YtcnihmlmaigkdaaGreatDoor
open Go.RowKit Go.Lib
set_option linter.unusedVariables false

theorem wants2_ok {β : Type} {a b : ByteArray} {F : PM β} {l r : List Token} {u : Unit} (h : wantsT [a, b] l = .ok (u, r)) : bindT (wantT a.data.toList) (fun _ => bindT (wantT b.data.toList) fun _ => F) l = F r := by
  have e0 : wantsT [a, b] l = bindT (wantT a.data.toList) (fun _ => wantsT [b]) l := rfl
  rw [e0] at h
  cases h1 : wantT a.data.toList l with
  | error e => rw [bindT_err h1] at h; cases h
  | ok p =>
    obtain ⟨v, r1⟩ := p
    rw [bindT_ok h1] at h ⊢
    rw [bindT_ok ((wants1 b r1).trans h)]
theorem wants2_err {β : Type} {a b : ByteArray} {F : PM β} {l : List Token} {f : Flt} (h : wantsT [a, b] l = .error f) : bindT (wantT a.data.toList) (fun _ => bindT (wantT b.data.toList) fun _ => F) l = .error f := by
  have e0 : wantsT [a, b] l = bindT (wantT a.data.toList) (fun _ => wantsT [b]) l := rfl
  rw [e0] at h
  cases h1 : wantT a.data.toList l with
  | error e => rw [bindT_err h1] at h ⊢; injection h with h; rw [h]
  | ok p =>
    obtain ⟨v, r1⟩ := p
    rw [bindT_ok h1] at h ⊢
    rw [bindT_err ((wants1 b r1).trans h)]
/-- Behind module or records. -/
def PmV (m : PM PC) (X : Nat) (l : List Token) (w : World) (e : Ending) (w' : World) : Prop :=
  Below X w w' ∧ ((∃ c' r, m l = .ok (pcOf c', r) ∧ e = .returned (.tuple #[]) ∧ PrAt X r c' (linksN c'.chans.l) w' ∧ OwnC (X + 1) c' w') ∨ ∃ f, m l = .error f ∧ e = .panicked [fltE f])
theorem records_pm (X : Nat) (l : List Token) (w : World) (h : PrAt X l zeroC 0 w) (ht : TxtLe l) :
    Calls Tryz.prog 40 #[.pointer (some ⟨X, 0, none⟩)] w (PmV (allRecT zeroPC) X l w) :=
  Precs_calls X l zeroC w h (OwnC.zero (X + 1) 0 w) ht
set_option maxRecDepth 100000 in
set_option maxHeartbeats 2000000 in
theorem module_pm (X : Nat) (l : List Token) (w : World) (h : PrAt X l zeroC 0 w) (ht : TxtLe l) :
    Calls Tryz.prog 39 #[.pointer (some ⟨X, 0, none⟩)] w (PmV moduleT X l w) := by
  have hXl := h.lt
  have HW2 := hide (fun b => want2_at ⟨#[109, 111, 100, 117, 108, 101]⟩ ⟨#[123]⟩ b X l zeroC 0 w h)
  have HBG := hide (fun l W (hW : PrAt X l zeroC 0 W) => pbig_calls ⟨#[102, 114, 97, 109, 101]⟩ X l zeroC 0 W hW)
  have HTX := hide ht
  unfold PmV
  obtain ⟨MT, hMT⟩ : ∃ m, m = moduleT := ⟨_, rfl⟩
  rw [← hMT]
  have HMT := hide hMT
  clear h ht hMT
  go_enter Tryz.func39, Tryz.ntmps39
  go_wp2_with fail
  refine (HW2.out _ rfl).mono ?_
  rintro e w2 ⟨ho2, ⟨u, r2, h2, rfl, hs2⟩ | ⟨f, h2, rfl⟩⟩
  rotate_left
  exact ⟨rfl, (((OnlyX.refl X w).alloc _).trans ho2).low hXl, .inr ⟨f, by rw [HMT.out]; exact wants2_err h2, rfl⟩⟩
  have HO2 := hide (((OnlyX.refl X w).alloc (.cells #[.string ⟨#[109, 111, 100, 117, 108, 101]⟩, .string ⟨#[123]⟩] 9)).trans ho2)
  have H2 := hide h2
  have HS2 := hide hs2
  clear ho2 h2 hs2
  unfold unitV2
  go_wp2_with fail
  refine (HBG.out _ _ HS2.out).mono ?_
  rintro e w3 ⟨⟨ho3, ⟨n, r3, h3, rfl, hs3⟩ | ⟨f, h3, rfl⟩⟩, hb3⟩
  rotate_left
  exact ⟨rfl, (HO2.out.trans ho3).low hXl, .inr ⟨f, by rw [HMT.out]; exact (wants2_ok H2.out).trans (bindT_err h3), rfl⟩⟩
  have HO3 := hide (HO2.out.trans ho3)
  have H3 := hide h3
  have HS3 := hide hs3
  have hX3 := hs3.lt
  have q1 := hs3.cfg.1
  have qf := hs3.frz
  have HS4 := hide (HS3.out.setF n)
  have HO4 := hide (HO3.out.set 1 (.int .u64 (n : Int)))
  have HTX3 := hide (HTX.out.suf (show r3 <:+ l from by
    have h1 := suf_field _ _ _ _ _ h3
    have h0 : r2 <:+ l := by
      have e0 : wantsT [⟨#[109, 111, 100, 117, 108, 101]⟩, ⟨#[123]⟩] l = bindT (wantT (⟨#[109, 111, 100, 117, 108, 101]⟩ : ByteArray).data.toList) (fun _ => bindT (wantT (⟨#[123]⟩ : ByteArray).data.toList) fun _ => pureT ()) l := rfl
      have h2 := H2.out
      rw [e0] at h2
      exact suf_bind (suf_want _) (fun _ => suf_bind (suf_want _) fun _ => suf_pure _) _ _ _ h2
    exact h1.trans h0))
  clear ho3 h3 hs3 hb3
  unfold natP
  go_wp2_with fail
  refine (Precs_calls X r3 { zeroC with frame := n } _ HS4.out (OwnC.zero (X + 1) n _) HTX3.out).mono ?_
  rintro e w5 ⟨hlow, ⟨c5, r5, h5, rfl, hs5, ho5⟩ | ⟨f, h5, rfl⟩⟩
  rotate_left
  exact ⟨rfl, (HO4.out.low hXl).trans hlow, .inr ⟨f, by rw [HMT.out]; exact (wants2_ok H2.out).trans ((bindT_ok H3.out).trans (bindT_err h5)), rfl⟩⟩
  have HL5 := hide ((HO4.out.low hXl).trans hlow)
  have H5 := hide h5
  have HS5 := hide hs5
  have HO5 := hide ho5
  have hX5 := hs5.lt
  clear hlow h5 hs5 ho5
  go_wp2_with fail
  refine (want1_at ⟨#[125]⟩ _ X r5 c5 _ w5 HS5.out rfl).mono ?_
  rintro e w6 ⟨ho6, ⟨u, r6, h6, rfl, hs6⟩ | ⟨f, h6, rfl⟩⟩
  rotate_left
  exact ⟨rfl, HL5.out.trans ((((OnlyX.refl X w5).alloc _).trans ho6).low hX5), .inr ⟨f, by rw [HMT.out]; exact (wants2_ok H2.out).trans ((bindT_ok H3.out).trans ((bindT_ok H5.out).trans (bindT_err h6))), rfl⟩⟩
  have HO6 := hide (((OnlyX.refl X w5).alloc (.cells #[.string ⟨#[125]⟩] 9)).trans ho6)
  have H6 := hide h6
  have HS6 := hide hs6
  clear ho6 h6 hs6
  unfold unitV2
  go_wp2_with fail
  first | go_end0 | (refine bodyPost_ret (results_none rfl _ _ _) rfl ?_)
  exact ⟨HL5.out.trans (HO6.out.low hX5), .inl ⟨c5, r6, by rw [HMT.out]; exact (wants2_ok H2.out).trans ((bindT_ok H3.out).trans ((bindT_ok H5.out).trans (bindT_ok H6.out))), rfl, HS6.out, HS5.out.own HO5.out HO6.out⟩⟩
end Go.Proofs.YtcnihmlmaigkdaaGreatDoor
namespace Go.Proofs.YtcnihmlmaigkdaaGreatDoor
open Go.RowKit Go.Lib
set_option linter.unusedVariables false

theorem fault_assert (a b c : Int) (w : World) : (Instr.typeAssert (.iface 43 (.agg #[.int .i64 a, .int .i64 b, .int .i64 c])) 20 43 true).run Tryz.prog w = .ok (.tuple #[.agg #[.int .i64 a, .int .i64 b, .int .i64 c], .bool true]) w := by kernel_rfl
set_option maxRecDepth 100000 in
theorem catch_fault (B b d : Nat) (fl : Flt) (older : List PanicEntry) (w : World) (h1 : Blk w b 29 #[.int .u64 0, .slice none 0 0, .slice none 0 0, .slice none 0 0, .slice none 0 0, .slice none 0 0]) (h2 : Blk w d 43 #[.int .i64 0, .int .i64 0, .int .i64 0]) (hbd : b ≠ d) (hB : B ≤ b) (hD : B ≤ d) :
    CallsD Tryz.prog 76 #[.pointer (some ⟨b, 0, none⟩), .pointer (some ⟨d, 0, none⟩)] (.panicking (fltE fl :: older)) w fun e u' w' =>
      e = .returned (.tuple #[]) ∧ u' = .panicking ({ fltE fl with recovered := true } :: older) ∧ Blk w' b 29 #[.int .u64 0, .slice none 0 0, .slice none 0 0, .slice none 0 0, .slice none 0 0, .slice none 0 0] ∧ Blk w' d 43 (fltP fl) ∧ Below B w w' := by
  obtain ⟨fc, fi, fj⟩ := fl
  have HB1 := hide h1
  have HB2 := hide h2
  have x1 := h1.lt
  have x2 := h2.lt
  have f1 := fun i => h1.frozen i
  have y0 := h1.cell 0
  have y1 := h1.cell 1
  have y2 := h1.cell 2
  have y3 := h1.cell 3
  have y4 := h1.cell 4
  have y5 := h1.cell 5
  have z0 := h2.cell 0
  have z1 := h2.cell 1
  have z2 := h2.cell 2
  have f2 := fun i => h2.frozen i
  clear h1 h2
  unfold fltE fltP
  simp only
  refine callsD_of_wpS Tryz.func76 rfl fun c₀ cs hu => ?_
  apply wpS_seq
  apply wpS_region
  simp [wpOpsS, go_sem, recoverD, hu, Tryz.ntmps76, Exit.thenS]
  refine wpS_of_wp ?_
  change Code.wp _ _ _ { tmps := #[.pointer (some ⟨b, 0, none⟩), .pointer (some ⟨d, 0, none⟩), undef, undef, undef, .iface 43 (.agg #[.int .i64 (fc : Int), .int .i64 (fi : Int), .int .i64 (fj : Int)]), undef, undef, undef, undef, undef, undef, undef], defers := [] } _
  have ta := fun a b c w => fault_assert a b c w
  go_wp2
  go_region
  all_goals
    have HZ1 : Blk ((((((((((w.setCell ⟨b, 0, none⟩ (.int .u64 0)).setCell ⟨b, 1, none⟩ (.slice none 0 0)).setCell ⟨b, 2, none⟩ (.slice none 0 0)).setCell ⟨b, 3, none⟩ (.slice none 0 0)).setCell ⟨b, 4, none⟩ (.slice none 0 0)).setCell ⟨b, 5, none⟩ (.slice none 0 0)).setCell ⟨d, 0, none⟩ (.int .i64 (fc : Int))).setCell ⟨d, 1, none⟩ (.int .i64 (fi : Int))).setCell ⟨d, 2, none⟩ (.int .i64 (fj : Int))).alloc (.cells #[.int .i64 (fc : Int), .int .i64 (fi : Int), .int .i64 (fj : Int)] 43)).drew b 29 #[.int .u64 0, .slice none 0 0, .slice none 0 0, .slice none 0 0, .slice none 0 0, .slice none 0 0] := ((((((((((HB1.out.set_ 0 (.int .u64 0)).set_ 1 (.slice none 0 0)).set_ 2 (.slice none 0 0)).set_ 3 (.slice none 0 0)).set_ 4 (.slice none 0 0)).set_ 5 (.slice none 0 0)).far (p := ⟨d, 0, none⟩) hbd (.int .i64 (fc : Int))).far (p := ⟨d, 1, none⟩) hbd (.int .i64 (fi : Int))).far (p := ⟨d, 2, none⟩) hbd (.int .i64 (fj : Int))).alloc (.cells #[.int .i64 (fc : Int), .int .i64 (fi : Int), .int .i64 (fj : Int)] 43)).drew
    have HZ2 : Blk ((((((((((w.setCell ⟨b, 0, none⟩ (.int .u64 0)).setCell ⟨b, 1, none⟩ (.slice none 0 0)).setCell ⟨b, 2, none⟩ (.slice none 0 0)).setCell ⟨b, 3, none⟩ (.slice none 0 0)).setCell ⟨b, 4, none⟩ (.slice none 0 0)).setCell ⟨b, 5, none⟩ (.slice none 0 0)).setCell ⟨d, 0, none⟩ (.int .i64 (fc : Int))).setCell ⟨d, 1, none⟩ (.int .i64 (fi : Int))).setCell ⟨d, 2, none⟩ (.int .i64 (fj : Int))).alloc (.cells #[.int .i64 (fc : Int), .int .i64 (fi : Int), .int .i64 (fj : Int)] 43)).drew d 43 #[.int .i64 (fc : Int), .int .i64 (fi : Int), .int .i64 (fj : Int)] := ((((((((((HB2.out.far (p := ⟨b, 0, none⟩) (Ne.symm hbd) (.int .u64 0)).far (p := ⟨b, 1, none⟩) (Ne.symm hbd) (.slice none 0 0)).far (p := ⟨b, 2, none⟩) (Ne.symm hbd) (.slice none 0 0)).far (p := ⟨b, 3, none⟩) (Ne.symm hbd) (.slice none 0 0)).far (p := ⟨b, 4, none⟩) (Ne.symm hbd) (.slice none 0 0)).far (p := ⟨b, 5, none⟩) (Ne.symm hbd) (.slice none 0 0)).set_ 0 (.int .i64 (fc : Int))).set_ 1 (.int .i64 (fi : Int))).set_ 2 (.int .i64 (fj : Int))).alloc (.cells #[.int .i64 (fc : Int), .int .i64 (fi : Int), .int .i64 (fj : Int)] 43)).drew
    have HZ3 : Below B w ((((((((((w.setCell ⟨b, 0, none⟩ (.int .u64 0)).setCell ⟨b, 1, none⟩ (.slice none 0 0)).setCell ⟨b, 2, none⟩ (.slice none 0 0)).setCell ⟨b, 3, none⟩ (.slice none 0 0)).setCell ⟨b, 4, none⟩ (.slice none 0 0)).setCell ⟨b, 5, none⟩ (.slice none 0 0)).setCell ⟨d, 0, none⟩ (.int .i64 (fc : Int))).setCell ⟨d, 1, none⟩ (.int .i64 (fi : Int))).setCell ⟨d, 2, none⟩ (.int .i64 (fj : Int))).alloc (.cells #[.int .i64 (fc : Int), .int .i64 (fi : Int), .int .i64 (fj : Int)] 43)).drew := (((((((((((Below.refl B w).setCell (p := ⟨b, 0, none⟩) hB (.int .u64 0)).setCell (p := ⟨b, 1, none⟩) hB (.slice none 0 0)).setCell (p := ⟨b, 2, none⟩) hB (.slice none 0 0)).setCell (p := ⟨b, 3, none⟩) hB (.slice none 0 0)).setCell (p := ⟨b, 4, none⟩) hB (.slice none 0 0)).setCell (p := ⟨b, 5, none⟩) hB (.slice none 0 0)).setCell (p := ⟨d, 0, none⟩) hD (.int .i64 (fc : Int))).setCell (p := ⟨d, 1, none⟩) hD (.int .i64 (fi : Int))).setCell (p := ⟨d, 2, none⟩) hD (.int .i64 (fj : Int))).alloc (by simp; omega) (.cells #[.int .i64 (fc : Int), .int .i64 (fi : Int), .int .i64 (fj : Int)] 43)).drew
    generalize ((((((((((w.setCell ⟨b, 0, none⟩ (.int .u64 0)).setCell ⟨b, 1, none⟩ (.slice none 0 0)).setCell ⟨b, 2, none⟩ (.slice none 0 0)).setCell ⟨b, 3, none⟩ (.slice none 0 0)).setCell ⟨b, 4, none⟩ (.slice none 0 0)).setCell ⟨b, 5, none⟩ (.slice none 0 0)).setCell ⟨d, 0, none⟩ (.int .i64 (fc : Int))).setCell ⟨d, 1, none⟩ (.int .i64 (fi : Int))).setCell ⟨d, 2, none⟩ (.int .i64 (fj : Int))).alloc (.cells #[.int .i64 (fc : Int), .int .i64 (fi : Int), .int .i64 (fj : Int)] 43)).drew = W at HZ1 HZ2 HZ3 ⊢
    clear y0 y1 y2 y3 y4 y5 z0 z1 z2 f1 f2 HB1 HB2 ta
    exact ⟨rfl, _, rfl, _, results_none rfl _ _ _, rfl, rfl, HZ1, HZ2, HZ3⟩
set_option maxRecDepth 100000 in
theorem catch_idle (p q : Value) (w : World) :
    CallsD Tryz.prog 76 #[p, q] .returning w fun e u' w' => e = .returned (.tuple #[]) ∧ u' = .returning ∧ w' = w := by
  refine callsD_of_wpS Tryz.func76 rfl fun c₀ cs hu => ?_
  apply wpS_seq
  apply wpS_region
  simp [wpOpsS, go_sem, recoverD, hu, Tryz.ntmps76, Exit.thenS]
  refine wpS_of_wp ?_
  change Code.wp _ _ _ { tmps := #[p, q, undef, undef, undef, .nilIface, undef, undef, undef, undef, undef, undef, undef], defers := [] } _
  go_wp2
  exact ⟨rfl, .returning, by cases c₀; simp_all, _, results_none rfl _ _ _, rfl, rfl, rfl⟩
end Go.Proofs.YtcnihmlmaigkdaaGreatDoor
