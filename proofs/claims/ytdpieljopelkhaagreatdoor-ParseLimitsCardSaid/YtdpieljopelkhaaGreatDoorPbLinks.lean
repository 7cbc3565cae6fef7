/- The reference's links (chapter 07). -/
import Derived.Test.YtdpieljopelkhaaGreatDoorMPrMem
import Derived.Test.YtdpieljopelkhaaGreatDoorMShSpec
import Derived.Test.YtdpieljopelkhaaGreatDoorMPost
import Derived.Test.YtdpieljopelkhaaGreatDoorMMem
import Derived.Deep.DeepMust
namespace Go.Proofs.YtdpieljopelkhaaGreatDoor
open Go.RowKit Go.Lib
set_option linter.unusedVariables false

theorem u16_info : (Tryz.prog.info? 40).map (fun i => (i.zero, i.size, i.bytes)) = some (some (.int .u16 0), 1, 2) := by kernel_rfl
theorem cnt_ix6 (a b c d e f : Int) (w : World) : (Instr.index 87 (.agg #[.int .i64 0, .int .i64 a, .int .i64 b, .int .i64 c, .int .i64 d, .int .i64 e, .int .i64 f]) (.int .i64 6)).run Tryz.prog w = .ok (.int .i64 f) w := by kernel_rfl
theorem one_dest (n : Nat) : ∀ u ∈ [destL n], u.oneCell' = true := by intro u hu; rw [List.mem_singleton] at hu; rw [hu]; rfl
theorem dest_push (l : List Nat) (n : Nat) : l.map destL ++ [destL n] = (l ++ [n]).map destL := by simp
theorem own_base_le {w : World} {base size n : Nat} {e : TypeId} {v : Value} {xs : List Value} (h : w.ownsRow base e size v n xs) : ∀ r, v.ownBlock = some r → base ≤ r := fun r hr => (h.lt r hr).1
/-- In links. -/
structure LkS (w : World) (X : Nat) (s0 : RS) (c : Cfg) (q : Bool) (out : List Nat) (s1 : RS) (f : Nat) (a : Option Addr) (k cap : Nat) (wr : World) : Prop where
  len : k = out.length
  own : wr.ownsRow w.heap.size 40 1 (.slice a k cap) k (out.map destL)
  low : ∀ d ∈ out, d < 65536
  st : StAt X s1 c wr
  only : OnlyX X w wr
  more : q = true → 1 ≤ f ∧ k ≤ 1024 ∧ (s1.err = none → s1.l.length ≤ f) ∧ ∀ ns sE, Lf (destsT f (linksN c.chans.l + k)) s1 ns sE → Lf (destsT s0.l.length (linksN c.chans.l)) s0 (out ++ ns) sE
  done : q = false → k ≤ 1025 ∧ Lf (destsT s0.l.length (linksN c.chans.l)) s0 out s1
/-- Behind links. -/
def LinksV (X : Nat) (s : RS) (c : Cfg) (w : World) (e : Ending) (w' : World) : Prop :=
  OnlyX X w w' ∧ ∃ ds a cap s', e = .returned (.slice a ds.length cap) ∧ w'.ownsRow w.heap.size 40 1 (.slice a ds.length cap) ds.length (ds.map destL) ∧ (∀ d ∈ ds, d < 65536) ∧ ds.length ≤ 1025 ∧ Lf (linksT (linksN c.chans.l)) s ds s' ∧ StAt X s' c w' ∧ OwnC (X + 1) c w'
def lkMeas (v3 v4 : Value) : Nat := match v4, v3 with
  | .bool true, .slice _ n _ => 3000 - n
  | _, _ => 0
set_option maxRecDepth 100000 in
set_option maxHeartbeats 8000000 in
theorem RLinks_calls (X : Nat) (s : RS) (c : Cfg) (w : World) (h : StAt X s c w) (ho : OwnC (X + 1) c w) (hsm : c.Small) :
    Calls Tryz.prog 102 #[.pointer (some ⟨X, 0, none⟩)] w (LinksV X s c w) := by
  obtain ⟨t0, r0, hl0⟩ := h.form
  have hXl := h.lt
  have HI := hide (RIs_calls ⟨#[59]⟩ X s c t0 r0 hl0 w h)
  have HP := hide (fun s t r hl W (hW : StAt X s c W) => RPeek_calls X s c t r hl W hW)
  have HI44 := hide (fun s t r hl W (hW : StAt X s c W) => RIs_calls ⟨#[44]⟩ X s c t r hl W hW)
  have HF : Hid (∀ s t W, StAt X s c W → Calls Tryz.prog 58 #[.pointer (some ⟨X, 0, none⟩), .int .i64 7, .agg (tokV t)] W fun e w' => e = .returned (.tuple #[]) ∧ OnlyX X W w' ∧ StAt X (failS 7 t s) c w') := hide (fun s t W hW => RFail_calls X s c 7 (by omega) t W hW)
  have HT := hide (fun s t r hl W (hW : StAt X s c W) => RTake_calls X s c t r hl W hW)
  have HN : Hid (∀ s W, StAt X s c W → Calls Tryz.prog 61 #[.pointer (some ⟨X, 0, none⟩), .int .u64 65535] W (RfV (numT 65535) natV (fun n => n ≤ 65535) X s c W)) := hide (fun s W hW => RNumber_calls 65535 X s c W hW)
  have HST := hide h
  have HOC := hide ho
  obtain ⟨L, hL⟩ : ∃ L, L = linksN c.chans.l := ⟨_, rfl⟩
  have hLI : (L : Int) ≤ 1048576 := by unfold Cfg.Small at hsm; omega
  have HCt : Hid (∀ W, CfgAt W.heap.size c W → Calls Tryz.prog 96 #[.agg #[.int .u64 (c.frame : Int), .slice c.parts.a c.parts.l.length c.parts.c, .slice c.wins.a c.wins.l.length c.wins.c, .slice c.regs.a c.regs.l.length c.regs.c, .slice c.ports.a c.ports.l.length c.ports.c, .slice c.chans.a c.chans.l.length c.chans.c]] W fun e w' => e = .returned (.agg #[.int .i64 0, .int .i64 (c.parts.l.length : Int), .int .i64 (c.wins.l.length : Int), .int .i64 (c.regs.l.length : Int), .int .i64 (c.ports.l.length : Int), .int .i64 (c.chans.l.length : Int), .int .i64 (L : Int)]) ∧ Below W.heap.size W w') := hide (fun W hW => by rw [hL]; exact Counts_calls c W hW hsm)
  have HLL := hide hL
  obtain ⟨i0, hi, hz0, hz1, hz2⟩ := info_parts u16_info
  have HII := hide hi
  have hix := fun a b c d e f w => cnt_ix6 a b c d e f w
  cases hb : isR [59] s with
  | true =>
    obtain ⟨he, hi59⟩ := isR_true hb
    have HL : Hid (Lf (linksT (linksN c.chans.l)) s [] s) := hide (Lf.good he (by unfold linksT; rw [if_pos hi59]) rfl he)
    have hb' : isR (⟨#[59]⟩ : ByteArray).data.toList s = true := hb
    rw [hb'] at HI
    clear h ho hl0 hb hb' hsm hL hi he hi59
    go_enter Tryz.func102, Tryz.ntmps102
    go_wp2_with (go_at_call 57; refine HI.out.mono ?_; rintro e w2 ⟨rfl, hb2⟩; have HB2 := hide hb2; clear hb2)
    go_ret
    exact ⟨(OnlyX.refl X w).below HB2.out, [], none, 0, s, rfl, World.ownsRow_nil _ _ _ _, (by simp), (by simp), HL.out, HST.out.below HB2.out, HOC.out.below HB2.out⟩
  | false =>
    have hb' : isR (⟨#[59]⟩ : ByteArray).data.toList s = false := hb
    rw [hb'] at HI
    have HLT : Hid (∀ ds sE, Lf (destsT s.l.length (linksN c.chans.l)) s ds sE → Lf (linksT (linksN c.chans.l)) s ds sE) := hide (fun ds sE hd => hd.like (fun he => by
      unfold linksT
      have : isT [59] s.l = false := by unfold isR at hb; rw [he] at hb; exact hb
      rw [this]; rfl))
    have hl1 : 1 ≤ s.l.length := by rw [hl0]; simp
    clear h ho hl0 hb hb' hsm hL hi
    go_enter Tryz.func102, Tryz.ntmps102
    go_wp2_with (go_at_call 57; refine HI.out.mono ?_; rintro e w2 ⟨rfl, hb2⟩; have HR0 : Hid (LkS w X s c true [] s s.l.length none 0 0 w2) := hide ⟨rfl, World.ownsRow_nil _ _ _ _, (by simp), HST.out.below hb2, (OnlyX.refl X w).below hb2, (fun _ => ⟨hl1, by omega, fun _ => Nat.le_refl _, fun ns sE hd => hd⟩), (fun e => by cases e)⟩; clear hb2)
    go_loopw [3, 4] (fun v3 v4 wr => ∃ (q : Bool) (k : Nat) (a : Option Addr) (cap : Nat), v4 = .bool q ∧ v3 = .slice a k cap ∧ Hid (∃ out s1 f, LkS w X s c q out s1 f a k cap wr)) (fun v3 v4 _ => lkMeas v3 v4)
    case atStart => exact ⟨true, 0, none, 0, rfl, rfl, hide ⟨[], s, s.l.length, HR0.out⟩⟩
    case round =>
      obtain ⟨q, k, a, cap, rfl, rfl, hrel⟩ := hrel
      obtain ⟨out, s1, f, hR⟩ := hrel.out
      cases q with
      | false =>
        have HR := hide hR
        clear hR hrel
        go_wp2
        go_ret
        obtain ⟨h1, h2⟩ := HR.out.done rfl
        have hk := HR.out.len
        subst hk
        exact ⟨HR.out.only, out, a, cap, s1, rfl, HR.out.own, HR.out.low, h1, HLT.out _ _ h2, HR.out.st, HST.out.own HOC.out HR.out.only⟩
      | true =>
        obtain ⟨t, r, hl⟩ := hR.st.form
        have hP := fun W hW => HP.out s1 t r hl W hW
        have hF := fun s W hW => HF.out s t W hW
        have hk24 := (hR.more rfl).2.1
        have hge := hide (own_base_le hR.own)
        have hsz := hR.only.size
        have HHL := hide hl
        obtain ⟨kind, text, v, li, co⟩ := t
        unfold tokV tokC at hP hF
        simp only at hP hF
        obtain ⟨y, hy⟩ : ∃ y : ByteArray, y = ⟨text.toArray⟩ := ⟨_, rfl⟩
        rw [← hy] at hP hF
        have HP1 := hide hP
        have HF1 := hide hF
        have HR := hide hR
        clear hP hF hR hrel hl hy
        go_wp2_with (first
          | (go_at_call 59; refine (HP1.out _ HR.out.st).mono ?_; rintro e w2 ⟨rfl, hb2⟩; have HB2 := hide hb2; have hz2w := hb2.size; clear hb2)
          | (go_at_call 98; refine (Rid_calls _).mono ?_; rintro e w3 ⟨rfl, rfl⟩))
        go_wp2_with fail
        refine (HN.out _ _ (HR.out.st.below HB2.out |>.alloc _)).mono ?_
        rintro e w4 ⟨ho4, n, s2, rfl, hn, hl4, hs4⟩
        unfold natV
        have wn : IntKind.u16.wrap (n : Int) = (n : Int) := by rw [IntKind.wrap_u16]; omega
        have hz4 : wr.heap.size ≤ w4.heap.size := by have := ho4.size; simp at this; omega
        have HBT := hide (ho4.blk (Blk.new w2 45 #[.int .i64 (kind : Int), .string y, .int .u64 (v : Int), .int .i64 (li : Int), .int .i64 (co : Int)]) (by omega))
        have hX2 : OnlyX X wr w4 := (((OnlyX.refl X wr).below HB2.out).alloc _).trans ho4
        have HX4 := hide (HR.out.only.trans hX2)
        have HOWN := hide (own_but HR.out.own hX2 (fun j hj e => by have := hge.out j hj; omega))
        have HS4 := hide hs4
        have HL4 := hide hl4
        have HN5 := hide hn
        obtain ⟨at_, code, hO⟩ := hs4.opened
        have c2 := hO.c2
        have hXw4 : X < w4.heap.size := hs4.lt
        have HMO := hide (HR.out.more rfl)
        cases he : s2.err with
        | some g =>
          have k2 : ((code : Int) == 0) = false := by have := hO.some_ g he; rw [beq_eq_false_iff_ne]; omega
          have HE := hide he
          obtain ⟨t2, r2, hl2⟩ := hs4.form
          have hIs := fun W hW => HI44.out s2 t2 r2 hl2 W hW
          rw [isR_bad [44] he] at hIs
          have HI7 := hide hIs
          have HFIN : Hid (Lf (destsT s.l.length (linksN c.chans.l)) s (out ++ [n]) s2) := hide (HMO.out.2.2.2 [n] s2 (dests_last hl4 (fun _ => rfl) (fun _ h0 _ => by rw [he] at h0; cases h0) (fun e h => h) (fun h0 => by rw [he] at h0; cases h0) HMO.out.1))
          clear ho4 hl4 hs4 hX2 hO he hn hl2 hIs
          go_wp2_with (first
            | (at_builtin; go_must (refine wpList_append_own_at _ rfl (.tmp 35) (.tmp 38) 135 rfl w.heap.size 40 i0 _ 1 2 Tryz.underlying135 HII.out hz0 hz1 hz2 rfl (by decide) (.slice a k cap) k _ rfl (HOWN.out.alloc _) _ 1 1 [destL n] rfl rfl (cell_one_at _ _ _ _ (by simp)) (one_dest n) (by simp only [maxLen]; omega) (by omega) (by simp; omega) ?_); intro v7 w7 hown7 hg7 hnl7 hat7; obtain ⟨a7, c7, hv7⟩ := own_slice hown7; subst hv7; rw [dest_push] at hown7; have HO7 := hide hown7; have HS7 := hide ((HS4.out.alloc (.cells #[destL n] 40)).grown hg7 (fun r hr => by have := hge.out r hr; omega)); have HX7 := hide ((HX4.out.alloc (.cells #[destL n] 40)).grown hg7 (fun r hr => hge.out r hr)); clear hown7 hg7 hnl7 hat7)
            | (go_at_call 57; refine (HI7.out _ HS7.out).mono ?_; rintro e w8 ⟨rfl, hb8⟩; have HS8 := hide (HS7.out.below hb8); have HX8 := hide (HX7.out.below hb8); have HO8 := hide (own_below HO7.out hb8); clear hb8))
          go_roundw
          case rel => exact ⟨false, k + 1, a7, c7, rfl, rfl, hide ⟨out ++ [n], _, f, (by rw [List.length_append, ← HR.out.len]; rfl), HO8.out, (fun d hd => by
            rcases List.mem_append.1 hd with hd | hd
            · exact HR.out.low d hd
            · rw [List.mem_singleton] at hd; subst hd; have := HN5.out; omega), HS8.out, HX8.out, (fun e => by cases e), (fun _ => ⟨by omega, HFIN.out⟩)⟩⟩
          case measure => simp [lkMeas]; omega
        | none =>
          have h0 := hO.none_ he
          subst h0
          have HE := hide he
          obtain ⟨g8, g9, g10, g11, g12, g13⟩ := hs4.cfg
          have HCA := hide (HST.out.own HOC.out HX4.out).at_
          have hlk : linksN c.chans.l + k = L + k := by rw [HLL.out]
          have HLK := hide hlk
          by_cases hlim : 1024 ≤ L + k
          · have d1 : decide ((1024 : Int) ≤ (L : Int) + (k : Int)) = true := by simp; omega
            have d2 : decide (1024 ≤ L + k) = true := by simpa using hlim
            have he3 := failS_err he 7 (t := ⟨kind, text, v, li, co⟩)
            have HFIN : Hid (Lf (destsT s.l.length (linksN c.chans.l)) s (out ++ [n]) (failS 7 ⟨kind, text, v, li, co⟩ s2)) := hide (HMO.out.2.2.2 [n] _ (dests_last hl4 (fun h0 => by
              rcases h0 with h0 | h0
              · omega
              · exact absurd he h0) (fun _ _ _ => by rw [he3, HHL.out]; rfl) (fun e h => by rw [he] at h; cases h) (fun h0 => by rw [he3] at h0; cases h0) HMO.out.1))
            have HI7 : Hid (∀ W, StAt X (failS 7 ⟨kind, text, v, li, co⟩ s2) c W → Calls Tryz.prog 57 #[.pointer (some ⟨X, 0, none⟩), .string ⟨#[44]⟩] W fun e w' => e = .returned (.bool false) ∧ Below W.heap.size W w') := hide (fun W hW => by
              obtain ⟨t2, r2, hl2⟩ := hW.form
              have := HI44.out _ t2 r2 hl2 W hW
              rw [isR_bad [44] he3] at this
              exact this)
            clear ho4 hl4 hs4 hX2 hO he hn he3 hlk hlim
            go_wp2_with (first
              | (go_at_call 96; refine (HCt.out _ HCA.out).mono ?_; rintro e w5 ⟨rfl, hb5⟩; have HS5 := hide (HS4.out.below hb5); have HX5 := hide (HX4.out.below hb5); have HOWN5 := hide (own_below HOWN.out hb5); have HBT5 := hide (HBT.out.below hb5 HBT.out.lt); have r0 := HBT5.out.cell 0; have r1 := HBT5.out.cell 1; have r2 := HBT5.out.cell 2; have r3 := HBT5.out.cell 3; have r4 := HBT5.out.cell 4; have hz5 := hb5.size; clear hb5)
              | (go_at_call 58; refine (HF1.out s2 _ HS5.out).mono ?_; rintro e w6 ⟨rfl, ho6, hs6⟩; have HS6 := hide hs6; have HX6 := hide (HX5.out.trans ho6); have HOWN6 := hide (own_but HOWN5.out ho6 (fun j hj e => by have := hge.out j hj; omega)); have hz6 := ho6.size; clear ho6 hs6)
              | (at_builtin; go_must (refine wpList_append_own_at _ rfl (.tmp 35) (.tmp 38) 135 rfl w.heap.size 40 i0 _ 1 2 Tryz.underlying135 HII.out hz0 hz1 hz2 rfl (by decide) (.slice a k cap) k _ rfl (HOWN6.out.alloc _) _ 1 1 [destL n] rfl rfl (cell_one_at _ _ _ _ (by simp)) (one_dest n) (by simp only [maxLen]; omega) (by omega) (by simp; omega) ?_); intro v7 w7 hown7 hg7 hnl7 hat7; obtain ⟨a7, c7, hv7⟩ := own_slice hown7; subst hv7; rw [dest_push] at hown7; have HO7 := hide hown7; have HS7 := hide ((HS6.out.alloc (.cells #[destL n] 40)).grown hg7 (fun r hr => by have := hge.out r hr; omega)); have HX7 := hide ((HX6.out.alloc (.cells #[destL n] 40)).grown hg7 (fun r hr => hge.out r hr)); clear hown7 hg7 hnl7 hat7)
              | (go_at_call 57; refine (HI7.out _ HS7.out).mono ?_; rintro e w8 ⟨rfl, hb8⟩; have HS8 := hide (HS7.out.below hb8); have HX8 := hide (HX7.out.below hb8); have HO8 := hide (own_below HO7.out hb8); clear hb8))
            go_roundw
            case rel => exact ⟨false, k + 1, a7, c7, rfl, rfl, hide ⟨out ++ [n], _, f, (by rw [List.length_append, ← HR.out.len]; rfl), HO8.out, (fun d hd => by
              rcases List.mem_append.1 hd with hd | hd
              · exact HR.out.low d hd
              · rw [List.mem_singleton] at hd; subst hd; have := HN5.out; omega), HS8.out, HX8.out, (fun e => by cases e), (fun _ => ⟨by omega, HFIN.out⟩)⟩⟩
            case measure => simp [lkMeas]; omega
          · have d1 : decide ((1024 : Int) ≤ (L : Int) + (k : Int)) = false := by simp; omega
            have d2 : decide (1024 ≤ L + k) = false := by simp; omega
            obtain ⟨t2, r2, hl2⟩ := hs4.form
            have hIs := fun W hW => HI44.out s2 t2 r2 hl2 W hW
            cases hc : isR [44] s2 with
            | false =>
              rw [hc] at hIs
              have HI7 := hide hIs
              have hc2 : isT [44] s2.l = false := by unfold isR at hc; rw [he] at hc; exact hc
              have HFIN : Hid (Lf (destsT s.l.length (linksN c.chans.l)) s (out ++ [n]) s2) := hide (HMO.out.2.2.2 [n] s2 (dests_last hl4 (fun _ => rfl) (fun _ _ h0 => by omega) (fun e h => h) (fun _ => hc2) HMO.out.1))
              clear ho4 hl4 hs4 hX2 hO he hn hlk hlim hl2 hIs hc hc2
              go_wp2_with (first
                | (go_at_call 96; refine (HCt.out _ HCA.out).mono ?_; rintro e w5 ⟨rfl, hb5⟩; have HS5 := hide (HS4.out.below hb5); have HX5 := hide (HX4.out.below hb5); have HOWN5 := hide (own_below HOWN.out hb5); have HBT5 := hide (HBT.out.below hb5 HBT.out.lt); have r0 := HBT5.out.cell 0; have r1 := HBT5.out.cell 1; have r2 := HBT5.out.cell 2; have r3 := HBT5.out.cell 3; have r4 := HBT5.out.cell 4; have hz5 := hb5.size; clear hb5)
                | (at_builtin; go_must (refine wpList_append_own_at _ rfl (.tmp 35) (.tmp 38) 135 rfl w.heap.size 40 i0 _ 1 2 Tryz.underlying135 HII.out hz0 hz1 hz2 rfl (by decide) (.slice a k cap) k _ rfl (HOWN5.out.alloc _) _ 1 1 [destL n] rfl rfl (cell_one_at _ _ _ _ (by simp)) (one_dest n) (by simp only [maxLen]; omega) (by omega) (by simp; omega) ?_); intro v7 w7 hown7 hg7 hnl7 hat7; obtain ⟨a7, c7, hv7⟩ := own_slice hown7; subst hv7; rw [dest_push] at hown7; have HO7 := hide hown7; have HS7 := hide ((HS5.out.alloc (.cells #[destL n] 40)).grown hg7 (fun r hr => by have := hge.out r hr; omega)); have HX7 := hide ((HX5.out.alloc (.cells #[destL n] 40)).grown hg7 (fun r hr => hge.out r hr)); clear hown7 hg7 hnl7 hat7)
                | (go_at_call 57; refine (HI7.out _ HS7.out).mono ?_; rintro e w8 ⟨rfl, hb8⟩; have HS8 := hide (HS7.out.below hb8); have HX8 := hide (HX7.out.below hb8); have HO8 := hide (own_below HO7.out hb8); clear hb8))
              go_roundw
              case rel => exact ⟨false, k + 1, a7, c7, rfl, rfl, hide ⟨out ++ [n], _, f, (by rw [List.length_append, ← HR.out.len]; rfl), HO8.out, (fun d hd => by
                rcases List.mem_append.1 hd with hd | hd
                · exact HR.out.low d hd
                · rw [List.mem_singleton] at hd; subst hd; have := HN5.out; omega), HS8.out, HX8.out, (fun e => by cases e), (fun _ => ⟨by omega, HFIN.out⟩)⟩⟩
              case measure => simp [lkMeas]; omega
            | true =>
              rw [hc] at hIs
              have HI7 := hide hIs
              obtain ⟨_, hc2⟩ := isR_true hc
              have hc3 := hc2
              rw [hl2] at hc3
              have hk2 := isT_kind hc3
              have HT8 := hide (fun W hW => HT.out s2 t2 r2 hl2 W hW)
              have hts := takeS_on he hl2 hk2
              rw [hts] at HT8
              have he1 : s1.err = none := by
                cases h1 : s1.err with
                | none => rfl
                | some e => have := hl4.dead e h1; rw [he] at this; cases this
              have hlen : r2.length + 1 < s1.l.length := by
                cases hnn : numT 65535 s1.l with
                | error e => have := hl4.bad he1 e hnn; rw [he] at this; cases this
                | ok z =>
                  obtain ⟨n0, rr⟩ := z
                  have h5 := (hl4.ok he1 n0 rr hnn).2.1
                  have h6 := num_len hnn
                  rw [← h5, hl2] at h6
                  simpa using h6
              have hfl := HMO.out.2.2.1 he1
              have hlk2 : linksN c.chans.l + k < 1024 := by rw [← HLL.out]; omega
              have HMORE : Hid (∀ W, StAt X ⟨r2, none⟩ c W → (1 ≤ f - 1 ∧ k + 1 ≤ 1024 ∧ r2.length ≤ f - 1 ∧ ∀ ns sE, Lf (destsT (f - 1) (linksN c.chans.l + (k + 1))) ⟨r2, none⟩ ns sE → Lf (destsT s.l.length (linksN c.chans.l)) s ((out ++ [n]) ++ ns) sE)) := hide (fun W hW => by
                obtain ⟨t3, r3, h3⟩ := hW.form
                have h3l : 1 ≤ r2.length := by have h3' : r2 = t3 :: r3 := h3; rw [h3']; simp
                refine ⟨by omega, by omega, by omega, fun ns sE hd => ?_⟩
                rw [List.append_assoc]
                refine HMO.out.2.2.2 ([n] ++ ns) sE ?_
                have := dests_more (f := f - 1) hl4 he hlk2 hc2 (by rw [hl2]; rfl) hd
                rw [show f - 1 + 1 = f by omega] at this
                exact this)
              clear ho4 hl4 hs4 hX2 hO he hn hlk hlim hl2 hIs hc hc2 hc3 hk2 hts he1 hlen hfl hlk2
              go_wp2_with (first
                | (go_at_call 96; refine (HCt.out _ HCA.out).mono ?_; rintro e w5 ⟨rfl, hb5⟩; have HS5 := hide (HS4.out.below hb5); have HX5 := hide (HX4.out.below hb5); have HOWN5 := hide (own_below HOWN.out hb5); have HBT5 := hide (HBT.out.below hb5 HBT.out.lt); have r0 := HBT5.out.cell 0; have r1 := HBT5.out.cell 1; have r2 := HBT5.out.cell 2; have r3 := HBT5.out.cell 3; have r4 := HBT5.out.cell 4; have hz5 := hb5.size; clear hb5)
                | (at_builtin; go_must (refine wpList_append_own_at _ rfl (.tmp 35) (.tmp 38) 135 rfl w.heap.size 40 i0 _ 1 2 Tryz.underlying135 HII.out hz0 hz1 hz2 rfl (by decide) (.slice a k cap) k _ rfl (HOWN5.out.alloc _) _ 1 1 [destL n] rfl rfl (cell_one_at _ _ _ _ (by simp)) (one_dest n) (by simp only [maxLen]; omega) (by omega) (by simp; omega) ?_); intro v7 w7 hown7 hg7 hnl7 hat7; obtain ⟨a7, c7, hv7⟩ := own_slice hown7; subst hv7; rw [dest_push] at hown7; have HO7 := hide hown7; have HS7 := hide ((HS5.out.alloc (.cells #[destL n] 40)).grown hg7 (fun r hr => by have := hge.out r hr; omega)); have HX7 := hide ((HX5.out.alloc (.cells #[destL n] 40)).grown hg7 (fun r hr => hge.out r hr)); clear hown7 hg7 hnl7 hat7)
                | (go_at_call 57; refine (HI7.out _ HS7.out).mono ?_; rintro e w8 ⟨rfl, hb8⟩; have HS8 := hide (HS7.out.below hb8); have HX8 := hide (HX7.out.below hb8); have HO8 := hide (own_below HO7.out hb8); clear hb8)
                | (go_at_call 60; refine (HT8.out _ HS8.out).mono ?_; rintro e w9 ⟨rfl, ho9, hs9⟩; have HS9 := hide hs9; have HX9 := hide (HX8.out.trans ho9); have HO9 := hide (own_but HO8.out ho9 (fun j hj e => by have := own_base_le HO8.out j hj; omega)); clear ho9 hs9))
              go_roundw
              case rel => exact ⟨true, k + 1, a7, c7, rfl, rfl, hide ⟨out ++ [n], _, f - 1, (by rw [List.length_append, ← HR.out.len]; rfl), HO9.out, (fun d hd => by
                rcases List.mem_append.1 hd with hd | hd
                · exact HR.out.low d hd
                · rw [List.mem_singleton] at hd; subst hd; have := HN5.out; omega), HS9.out, HX9.out, (fun _ => ⟨(HMORE.out _ HS9.out).1, (HMORE.out _ HS9.out).2.1, fun _ => (HMORE.out _ HS9.out).2.2.1, (HMORE.out _ HS9.out).2.2.2⟩), (fun e => by cases e)⟩⟩
              case measure => simp [lkMeas]; omega
end Go.Proofs.YtdpieljopelkhaaGreatDoor
