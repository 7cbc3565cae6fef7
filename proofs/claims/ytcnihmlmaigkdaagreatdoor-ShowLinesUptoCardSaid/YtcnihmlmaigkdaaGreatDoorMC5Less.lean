/- The reference's less, text, bit (chapter 05). The reference's text, and the fields of the five kinds of records (chapter 05). The reference's bit, and the fields of the five kinds of records as numbers (chapter 05). The reference's Partition and Port: their fields as numbers (chapter 05). Written by genc5.py. The reference's Channel: its fields as numbers (chapter 05). Rows of rows of numbers, of the call's own (the reference's Keys, chapter 05). The reference's Keys (chapter 05). Written by genc5keys.py. The reference's less (chapter 05). The reference's Same (chapter 05). -/
import Derived.Test.YtcnihmlmaigkdaaGreatDoorMShSpec
import Derived.Test.YtcnihmlmaigkdaaGreatDoorMMem
import Derived.Test.YtcnihmlmaigkdaaGreatDoorProg
import Derived.BigGuardPart
import Derived.BigQuiet
import Derived.WalkKit
import Derived.Deep.RegionHeld3
import Derived.Deep.DeepMust
import Derived.Test.YtcnihmlmaigkdaaGreatDoorMCfD
import Derived.Deep.QuietTactic
namespace Go.Proofs.YtcnihmlmaigkdaaGreatDoor
open Go.RowKit Go.Lib
set_option linter.unusedVariables false

def nV (n : Nat) : Value := .int .u64 (n : Int)
theorem u64_info : (Tryz.prog.info? 22).map (fun i => (i.zero, i.size, i.bytes)) = some (some (.int .u64 0), 1, 8) := by kernel_rfl
theorem nV_one (l : List Nat) : ∀ u ∈ l.map nV, u.oneCell' = true := by intro u hu; obtain ⟨n, _, rfl⟩ := List.mem_map.1 hu; rfl
/-- A new row of numbers. -/
def NumsV (l : List Nat) (w : World) (e : Ending) (w' : World) : Prop :=
  ∃ a k, e = .returned (.slice a l.length k) ∧ w'.ownsRow w.heap.size 22 1 (.slice a l.length k) l.length (l.map nV) ∧ Below w.heap.size w w'
theorem less_drop : ∀ (k : Nat) (l m : List Nat), k ≤ l.length → k ≤ m.length → l.take k = m.take k → lessL l m = lessL (l.drop k) (m.drop k)
  | 0, l, m, _, _, _ => rfl
  | k + 1, [], m, h, _, _ => by simp at h
  | k + 1, a :: l, [], _, h, _ => by simp at h
  | k + 1, a :: l, b :: m, h1, h2, h3 => by
    simp only [List.take_succ_cons, List.cons.injEq] at h3
    obtain ⟨rfl, h3⟩ := h3
    rw [lessL, if_pos rfl]
    exact less_drop k l m (by simpa using h1) (by simpa using h2) h3
theorem ret_b5 {a b : Bool} (h : a = b) : Ending.returned (.bool a) = .returned (.bool b) := by rw [h]
theorem num_at {w : World} {B : Nat} {A : Option Addr} {l : List Nat} (h : Reads w B 1 A l.length (l.map nV)) (k : Nat) (hk : k < l.length) : ∃ b o, A = some ⟨b, o, none⟩ ∧ b < B ∧ w.cell? ⟨b, o + k, none⟩ = some (.int .u64 (l[k] : Int)) := by
  obtain ⟨ad, u, rfl, hb, hx, hc⟩ := h.at_ hk
  have hu : u = .int .u64 (l[k] : Int) := by
    rw [List.getElem?_map, List.getElem?_eq_getElem hk] at hx
    injection hx with hx
    exact hx.symm
  subst hu
  obtain ⟨_, u0, e0, _, _, hc0⟩ := h.at_ (k := 0) (by omega)
  injection e0 with e0
  subst e0
  have hz := addr_of_cell hc0
  obtain ⟨b, o, p⟩ := ad
  have hp : p = none := by
    have := congrArg Addr.spot hz
    simpa [Addr.add] using this
  subst hp
  rw [addr_plain] at hc
  exact ⟨b, o, rfl, hb, hc⟩
set_option maxRecDepth 100000 in
set_option maxHeartbeats 4000000 in
theorem less_calls (l m : List Nat) (A D : Option Addr) (cA cD : Nat) (w : World) (hl : Reads w w.heap.size 1 A l.length (l.map nV)) (hm : Reads w w.heap.size 1 D m.length (m.map nV)) (hcl : l.length ≤ cA) (hcm : m.length ≤ cD) (h1 : l.length ≤ 1000000) (h2 : m.length ≤ 1000000) :
    Calls Tryz.prog 31 #[.slice A l.length cA, .slice D m.length cD] w fun e w' => e = .returned (.bool (lessL l m)) ∧ ∃ q, w' = w.drewN q := by
  have HL := hide hl
  have HM := hide hm
  obtain ⟨R, hR⟩ : ∃ R, R = lessL l m := ⟨_, rfl⟩
  rw [← hR]
  have HR := hide hR
  obtain ⟨n, hn⟩ : ∃ n, n = l.length := ⟨_, rfl⟩
  obtain ⟨p, hp⟩ : ∃ p, p = m.length := ⟨_, rfl⟩
  have HN := hide hn
  have HP := hide hp
  rw [← hn, ← hp]
  rw [← hn] at hcl h1
  rw [← hp] at hcm h2
  have i1 : (n : Int) ≤ 1000000 := by omega
  have i2 : (p : Int) ≤ 1000000 := by omega
  have i3 : (n : Int) ≤ (cA : Int) := by omega
  have i4 : (p : Int) ≤ (cD : Int) := by omega
  clear hl hm hR hn hp hcl hcm h1 h2
  go_enter Tryz.func31, Tryz.ntmps31
  go_wp2
  go_loopw [5] (fun v wr => ∃ k : Nat, k ≤ n ∧ k ≤ p ∧ v = .int .i64 (k : Int) ∧ Hid (l.take k = m.take k) ∧ ∃ q, wr = w.drewN q) (fun v _ => n - (intOf v).toNat)
  case atStart => exact ⟨0, Nat.zero_le _, Nat.zero_le _, rfl, hide rfl, 0, rfl⟩
  case round =>
    obtain ⟨k, hk, hk2, rfl, hrel, q, rfl⟩ := hrel
    by_cases hlt : k < n
    · have d1 : decide ((k : Int) < (n : Int)) = true := by simp; omega
      have d1' : decide (k < n) = true := by simp; omega
      by_cases hlt2 : k < p
      · have d2 : decide ((k : Int) < (p : Int)) = true := by simp; omega
        have d2' : decide (k < p) = true := by simp; omega
        have hkl : k < l.length := by have := HN.out; omega
        have hkm : k < m.length := by have := HP.out; omega
        obtain ⟨b, o, rfl, hb, x0⟩ := num_at HL.out k hkl
        obtain ⟨b', o', rfl, hb', y0⟩ := num_at HM.out k hkm
        have hkI : (0 : Int) ≤ (k : Int) := by omega
        have hkN : (k : Int) < (n : Int) := by omega
        have hkP : (k : Int) < (p : Int) := by omega
        have hdr : lessL (l.drop k) (m.drop k) = if l[k] = m[k] then lessL (l.drop (k + 1)) (m.drop (k + 1)) else decide (l[k] < m[k]) := by
          rw [List.drop_eq_getElem_cons hkl, List.drop_eq_getElem_cons hkm, lessL]
        have hld := less_drop k l m (by omega) (by omega) hrel.out
        by_cases he : l[k] = m[k]
        · have htk : l.take (k + 1) = m.take (k + 1) := by rw [List.take_succ_eq_append_getElem hkl, List.take_succ_eq_append_getElem hkm, hrel.out, he]
          have HT := hide htk
          have e1 : ((l[k] : Int) != (m[k] : Int)) = false := by rw [he]; simp
          generalize l[k] = x at *
          generalize m[k] = y at *
          clear htk hdr hld he
          go_wp2
          go_quiet (fail)
          go_wp2
          go_roundw
          case rel => exact ⟨k + 1, by omega, by omega, by go_num, HT, _, rfl⟩
          case measure => simp [intOf]; omega
        · have e1 : ((l[k] : Int) != (m[k] : Int)) = true := by rw [bne_iff_ne]; intro h; exact he (by exact_mod_cast h)
          have HT : Hid (R = decide (l[k] < m[k])) := hide (by rw [HR.out, hld, hdr, if_neg he])
          generalize l[k] = x at *
          generalize m[k] = y at *
          clear hdr hld he
          go_wp2
          go_quiet (fail)
          go_wp2
          go_quiet (fail)
          go_wp2
          go_ret
          exact ⟨ret_b5 (by rw [HT.out]), _, by rw [World.drewN_drewN, World.drewN_drewN]⟩
      · have d2 : decide ((k : Int) < (p : Int)) = false := by simp; omega
        have d2' : decide (k < p) = false := by simp; omega
        obtain rfl : k = p := by omega
        have HT : Hid (R = decide (n < k)) := hide (by
          have hd := less_drop k l m (by have := HN.out; omega) (by have := HP.out; omega) hrel.out
          rw [HR.out, hd]
          have e : m.drop k = [] := List.drop_eq_nil_of_le (by have := HP.out; omega)
          rw [e]
          have hkl : k < l.length := by have := HN.out; omega
          rw [List.drop_eq_getElem_cons hkl]
          simp [lessL]; omega)
        go_wp2
        go_ret
        exact ⟨ret_b5 (by rw [HT.out]), _, rfl⟩
    · have d1 : decide ((k : Int) < (n : Int)) = false := by simp; omega
      have d1' : decide (k < n) = false := by simp; omega
      obtain rfl : k = n := by omega
      have HT : Hid (R = decide (k < p)) := hide (by
        have hd := less_drop k l m (by have := HN.out; omega) (by have := HP.out; omega) hrel.out
        rw [HR.out, hd]
        have e : l.drop k = [] := List.drop_eq_nil_of_le (by have := HN.out; omega)
        rw [e]
        by_cases hkp : k < p
        · have hkm : k < m.length := by have := HP.out; omega
          rw [List.drop_eq_getElem_cons hkm, decide_eq_true hkp]; rfl
        · have e2 : m.drop k = [] := List.drop_eq_nil_of_le (by have := HP.out; omega)
          rw [e2, decide_eq_false hkp]; rfl)
      go_wp2
      go_ret
      exact ⟨ret_b5 (by rw [HT.out]), _, rfl⟩
end Go.Proofs.YtcnihmlmaigkdaaGreatDoor
namespace Go.Proofs.YtcnihmlmaigkdaaGreatDoor
open Go.RowKit Go.Lib
set_option linter.unusedVariables false

theorem bsz (s : ByteArray) : s.data.toList.length = s.size := by show s.data.toList.length = s.data.size; simp
def upN (u : UInt8) : Nat := u.toNat + 1
theorem own_nums {w : World} {base n : Nat} {v : Value} {xs : List Value} (h : w.ownsRow base 22 1 v n xs) : ∃ a c, v = .slice a n c := own_slice h
/-- In text. -/
def TxS (w : World) (l : List UInt8) (k : Nat) (v : Value) (wr : World) : Prop :=
  wr.ownsRow w.heap.size 22 1 v k (((l.take k).map upN).map nV) ∧ Below w.heap.size w wr
theorem one_num (n : Nat) : ∀ u ∈ [nV n], u.oneCell' = true := by intro u hu; rw [List.mem_singleton] at hu; rw [hu]; rfl
theorem own_ge {w : World} {base size n : Nat} {e : TypeId} {v : Value} {xs : List Value} (h : w.ownsRow base e size v n xs) : ∀ r, v.ownBlock = some r → base ≤ r := by
  intro k hk
  rcases h.2 with ⟨rfl, _⟩ | ⟨g, cap, cur, rfl, hb, _⟩
  · simp [Value.ownBlock] at hk
  · have hk : g = k := by simpa [Value.ownBlock] using hk
    omega
set_option maxRecDepth 100000 in
set_option maxHeartbeats 4000000 in
theorem Rtext_calls (s : ByteArray) (w : World) (hs : s.size ≤ 1000000) :
    Calls Tryz.prog 124 #[.string s] w (NumsV (textN s) w) := by
  obtain ⟨i0, hi, hz0, hz1, hz2⟩ := info_parts u64_info
  obtain ⟨n, hn⟩ : ∃ n, n = s.size := ⟨_, rfl⟩
  have HN := hide hn
  have hnI : (n : Int) ≤ 1000000 := by omega
  have HI := hide hi
  have hT : textN s = s.data.toList.map upN ++ [0] := rfl
  rw [hT]
  have hlen : (s.data.toList.map upN ++ [0]).length = n + 1 := by rw [List.length_append, List.length_map, bsz, hn]; rfl
  have HLN := hide hlen
  have HT0 : Hid (TxS w s.data.toList 0 (.slice none 0 0) w) := hide ⟨World.ownsRow_nil _ _ _ _, Below.refl _ w⟩
  clear hi hT hlen
  go_enter Tryz.func124, Tryz.ntmps124
  go_wp2
  go_loopw [3, 4] (fun o v wr => ∃ (k : Nat) (a : Option Addr) (c : Nat), k ≤ n ∧ v = .int .i64 (k : Int) ∧ o = .slice a k c ∧ Hid (TxS w s.data.toList k (.slice a k c) wr)) (fun _ v _ => n - (intOf v).toNat)
  case atStart => exact ⟨0, none, 0, Nat.zero_le _, rfl, rfl, HT0⟩
  case round =>
    obtain ⟨k, a, c, hk, rfl, rfl, hrel⟩ := hrel
    have hsz := hrel.out.2.size
    have hge := hide (own_ge hrel.out.1)
    by_cases hlt : k < n
    · have hlt2 : (k : Int) < (s.size : Int) := by omega
      have hks : k < s.size := by omega
      have hkl : k < s.data.toList.length := by rw [bsz]; exact hks
      have hu := UInt8.toNat_lt s[k]
      have hps : (((s.data.toList.take k).map upN).map nV) ++ [nV (s[k].toNat + 1)] = (((s.data.toList.take (k + 1)).map upN).map nV) := by
        rw [List.take_succ_eq_append_getElem hkl, List.map_append, List.map_append]
        rfl
      have HPS := hide hps
      have hw1 : IntKind.u64.wrap (((s[k].toNat : Nat) : Int) + 1) = ((s[k].toNat + 1 : Nat) : Int) := by rw [IntKind.wrap_u64]; omega
      clear hps
      go_wp2_with (at_builtin; go_must (refine wpList_append_own_at _ rfl (.tmp 11) (.tmp 17) 63 rfl w.heap.size 22 i0 _ 1 8 Tryz.underlying63 HI.out hz0 hz1 hz2 rfl (by decide) (.slice a k c) k _ rfl (hrel.out.1.alloc _) _ 1 1 [nV (s[k].toNat + 1)] rfl rfl (cell_one_at _ _ _ _ (by simp)) (one_num _) (by simp only [maxLen]; omega) (by omega) (by simp; omega) ?_); intro v4 w4 hown' hg hnl hat; have HO4 := hide hown'; have HB4 := hide ((hrel.out.2.alloc hsz _).grown hg (by simp; omega) (fun r hr => hge.out r hr)); clear hown' hg hnl hat)
      obtain ⟨a4, c4, rfl⟩ := own_nums HO4.out
      have HO5 := HO4.out
      rw [HPS.out] at HO5
      have HR := hide (show TxS w s.data.toList (k + 1) (.slice a4 (k + 1) c4) w4 from ⟨HO5, HB4.out⟩)
      clear HO5
      go_roundw
      case rel => exact ⟨k + 1, a4, c4, by omega, by go_num, rfl, HR⟩
      case measure => simp [intOf]; omega
    · obtain rfl : k = n := by omega
      have hfin := hrel.out
      have hps : (((s.data.toList.take k).map upN).map nV) ++ [nV 0] = (s.data.toList.map upN ++ [0]).map nV := by
        rw [List.take_of_length_le (by rw [HN.out, bsz]; exact Nat.le_refl _), List.map_append]
        rfl
      have HPS := hide hps
      have HF := hide hfin
      clear hps hfin hlt
      go_wp2_with (at_builtin; go_must (refine wpList_append_own_at _ rfl (.tmp 19) (.tmp 20) 63 rfl w.heap.size 22 i0 _ 1 8 Tryz.underlying63 HI.out hz0 hz1 hz2 rfl (by decide) (.slice a k c) k _ rfl (HF.out.1.alloc _) _ 1 1 [nV 0] rfl rfl (cell_one_at _ _ _ _ (by simp)) (one_num _) (by simp only [maxLen]; omega) (by omega) (by simp; omega) ?_); intro v4 w4 hown' hg hnl hat; have HO4 := hide hown'; have HB4 := hide ((HF.out.2.alloc hsz _).grown hg (by simp; omega) (fun r hr => hge.out r hr)); clear hown' hg hnl hat)
      obtain ⟨a4, c4, rfl⟩ := own_nums HO4.out
      have HO5 := HO4.out
      rw [HPS.out] at HO5
      have HO6 := hide HO5
      clear HO5
      unfold NumsV
      rw [HLN.out]
      go_ret
      exact ⟨a4, c4, rfl, HO6.out, HB4.out⟩
end Go.Proofs.YtcnihmlmaigkdaaGreatDoor
namespace Go.Proofs.YtcnihmlmaigkdaaGreatDoor
open Go.RowKit Go.Lib
set_option linter.unusedVariables false

theorem Rbit_calls (q : Bool) (w : World) :
    Calls Tryz.prog 125 #[.bool q] w fun e w' => e = .returned (.int .u64 (bitN q : Int)) ∧ w' = w := by
  cases q
  · go_enter Tryz.func125, Tryz.ntmps125
    go_wp2
    go_ret
    exact ⟨rfl, rfl⟩
  · go_enter Tryz.func125, Tryz.ntmps125
    go_wp2
    go_ret
    exact ⟨rfl, rfl⟩
/-- A row made of a literal. -/
theorem own_litN (w : World) (base g n : Nat) (l : List Nat) (cs : Array Value) (hc : cs = (l.map nV).toArray) (hn : n = l.length) (hg : w.heap.size = g) (hb : base ≤ g) (hl : l.length ≤ 1000000) :
    (w.alloc (.cells cs 22)).ownsRow base 22 1 (.slice (some ⟨g, 0, none⟩) n n) n (l.map nV) := by
  subst hc hg hn
  have := World.ownsRow_lit (base := base) (e := 22) (size := 1) w (l.map nV).toArray l.length hb (by unfold maxLen; omega) (by simp)
  simpa using this
set_option maxRecDepth 100000 in
set_option maxHeartbeats 2000000 in
theorem RKWindow_calls (x : WinR) (hx : x.Ok) (w : World) :
    Calls Tryz.prog 66 #[.agg #[.int .u64 (x.st : Int), .int .u64 (x.len : Int), .int .u16 (x.part : Int)]] w (NumsV (keyW x) w) := by
  obtain ⟨st, len, part⟩ := x
  obtain ⟨h1, h2, h3⟩ := hx
  simp only at h1 h2 h3
  have h3I : (part : Int) ≤ 65535 := by omega
  have HO := hide (own_litN (w.alloc (.cells #[.int .u64 (st : Int), .int .u64 (len : Int), .int .u16 (part : Int)] 69)) w.heap.size (w.heap.size + 1) 3 (keyW ⟨st, len, part⟩) #[.int .u64 (st : Int), .int .u64 (len : Int), .int .u64 (part : Int)] rfl rfl (by simp) (by omega) (by simp [keyW]))
  go_enter Tryz.func66, Tryz.ntmps66
  go_wp2
  go_ret
  refine ⟨_, _, rfl, HO.out, ((Below.refl _ w).alloc (Nat.le_refl _) _).alloc (by simp) _⟩
set_option maxRecDepth 100000 in
set_option maxHeartbeats 2000000 in
theorem RKRegion_calls (x : RegR) (hx : x.Ok) (w : World) :
    Calls Tryz.prog 67 #[.agg #[.int .u64 (x.base : Int), .int .u64 (x.size : Int), .int .u16 (x.part : Int), .int .u8 (x.rights : Int), .bool x.shared]] w (NumsV (keyR x) w) := by
  obtain ⟨ba, sz, part, ri, sh⟩ := x
  obtain ⟨h1, h2, h3, h4⟩ := hx
  simp only at h1 h2 h3 h4
  have h3I : (part : Int) ≤ 65535 := by omega
  have h4I : (ri : Int) ≤ 255 := by omega
  have w1 : IntKind.u64.wrap (part : Int) = (part : Int) := by rw [IntKind.wrap_u64]; omega
  have w2 : IntKind.u64.wrap (ri : Int) = (ri : Int) := by rw [IntKind.wrap_u64]; omega
  have HBt := hide (fun W => Rbit_calls sh W)
  have HO := hide (own_litN (w.alloc (.cells #[.int .u64 (ba : Int), .int .u64 (sz : Int), .int .u16 (part : Int), .int .u8 (ri : Int), .bool sh] 54)) w.heap.size (w.heap.size + 1) 5 (keyR ⟨ba, sz, part, ri, sh⟩) #[.int .u64 (ba : Int), .int .u64 (sz : Int), .int .u64 (part : Int), .int .u64 (ri : Int), .int .u64 ((bitN sh : Nat) : Int)] rfl rfl (by simp) (by omega) (by simp [keyR]))
  have HB1 := hide (Blk.new w 54 #[.int .u64 (ba : Int), .int .u64 (sz : Int), .int .u16 (part : Int), .int .u8 (ri : Int), .bool sh])
  have HSX : Hid (∀ w', Blk w' w.heap.size 54 #[.int .u64 (ba : Int), .int .u64 (sz : Int), .int .u16 (part : Int), .int .u8 (ri : Int), .bool sh] → (w'.cell? ⟨w.heap.size, 0, none⟩ = some (.int .u64 (ba : Int)) ∧ w'.cell? ⟨w.heap.size, 1, none⟩ = some (.int .u64 (sz : Int)) ∧ w'.cell? ⟨w.heap.size, 2, none⟩ = some (.int .u16 (part : Int)) ∧ w'.cell? ⟨w.heap.size, 3, none⟩ = some (.int .u8 (ri : Int)) ∧ w'.cell? ⟨w.heap.size, 4, none⟩ = some (.bool sh))) := hide (fun W hW => ⟨hW.cell 0, hW.cell 1, hW.cell 2, hW.cell 3, hW.cell 4⟩)
  go_enter Tryz.func67, Tryz.ntmps67
  go_wp2
  go_region_held3 (fun w' => (w'.cell? ⟨w.heap.size, 0, none⟩ = some (.int .u64 (ba : Int)) ∧ w'.cell? ⟨w.heap.size, 1, none⟩ = some (.int .u64 (sz : Int)) ∧ w'.cell? ⟨w.heap.size, 2, none⟩ = some (.int .u16 (part : Int)) ∧ w'.cell? ⟨w.heap.size, 3, none⟩ = some (.int .u8 (ri : Int)) ∧ w'.cell? ⟨w.heap.size, 4, none⟩ = some (.bool sh)))
    (first | with_reducible assumption | with_reducible exact HSX.out _ HB1.out.drew | with_reducible exact HSX.out _ (HB1.out.alloc _).drew | fail)
    (first | (go_at_call 125; refine (HBt.out _).mono ?_; rintro e w2 ⟨rfl, rfl⟩) | fail)
  all_goals
    go_wp2
    go_ret
    exact ⟨_, _, rfl, own_below HO.out (Below.drew (Below.refl _ _)), Below.drew (Below.alloc ((Below.refl _ w).alloc (Nat.le_refl _) _) (by simp) _)⟩
end Go.Proofs.YtcnihmlmaigkdaaGreatDoor
namespace Go.Proofs.YtcnihmlmaigkdaaGreatDoor
open Go.RowKit Go.Lib
set_option linter.unusedVariables false

theorem own_blk {W : World} {base g n : Nat} {l : List Nat} {cs : Array Value} (h : Blk W g 22 cs) (hc : cs = (l.map nV).toArray) (hn : n = l.length) (hb : base ≤ g) (hl : n ≤ 1000) :
    W.ownsRow base 22 1 (.slice (some ⟨g, 0, none⟩) n n) n (l.map nV) := by
  subst hc hn
  exact ⟨by simp, .inr ⟨g, l.length, (l.map nV).toArray, rfl, hb, h, Nat.le_refl _, by unfold maxLen; omega, by simp, by simp [List.take_of_length_le]⟩⟩
theorem reads_blk {W : World} {B g n : Nat} {l : List Nat} {cs : Array Value} (h : Blk W g 22 cs) (hc : cs = (l.map nV).toArray) (hn : n = l.length) (hl : n ≤ 1000) (hB : g < B) :
    Reads W B 1 (some ⟨g, 0, none⟩) n (l.map nV) := by
  obtain ⟨h1, h2⟩ := Reads.of_own (own_blk (base := 0) h hc hn (Nat.zero_le _) hl)
  refine ⟨h1, fun h0 => ?_⟩
  obtain ⟨ad, e, _, hx⟩ := h2 h0
  injection e with e
  subst e
  exact ⟨_, rfl, hB, hx⟩
theorem Blk.newAt {w : World} {g : Nat} {t : TypeId} {cs : Array Value} (h : w.heap.size = g) : Blk (w.alloc (.cells cs t)) g t cs := by subst h; exact Blk.new w t cs
theorem ne_blk {g g' n c : Nat} (h : g ≠ g') : some g ≠ (Value.slice (some ⟨g', 0, none⟩) n c).ownBlock := by simp [Value.ownBlock, h]
set_option maxRecDepth 100000 in
set_option maxHeartbeats 8000000 in
theorem RKPartition_calls (x : PartR) (hx : x.Ok) (hnm : x.name.size ≤ 1000) (w : World) :
    Calls Tryz.prog 65 #[.agg #[.int .u16 (x.id : Int), .string x.name, .int .u64 (x.per : Int), .int .u64 (x.dur : Int)]] w (NumsV (keyP x) w) := by
  obtain ⟨i0, hi, hz0, hz1, hz2⟩ := info_parts u64_info
  have HI := hide hi
  obtain ⟨pid, nm, per, dur⟩ := x
  obtain ⟨h1, _, h3, h4⟩ := hx
  simp only at h1 h3 h4 hnm
  obtain ⟨m, hm⟩ : ∃ m, m = (textN nm).length := ⟨_, rfl⟩
  have hmz : m ≤ 1001 := by
    rw [hm]
    simp [textN]
    omega
  have HTX : Hid (∀ W, Calls Tryz.prog 124 #[.string nm] W fun e w' => ∃ a k, e = .returned (.slice a m k) ∧ w'.ownsRow W.heap.size 22 1 (.slice a m k) m ((textN nm).map nV) ∧ Below W.heap.size W w') := hide (fun W => by rw [hm]; exact Rtext_calls nm W (by omega))
  have HKL : Hid ((keyP ⟨pid, nm, per, dur⟩).map nV = [pid].map nV ++ (textN nm).map nV ++ [per, dur].map nV) := hide (by simp [keyP])
  have HLN : Hid ((keyP ⟨pid, nm, per, dur⟩).length = 1 + m + 2) := hide (by rw [hm]; simp [keyP]; omega)
  have wp0 : IntKind.u64.wrap (pid : Int) = (pid : Int) := by rw [IntKind.wrap_u64]; omega
  have wp1 : IntKind.u64.wrap (per : Int) = (per : Int) := by rw [IntKind.wrap_u64]; omega
  have wp2 : IntKind.u64.wrap (dur : Int) = (dur : Int) := by rw [IntKind.wrap_u64]; omega
  have HB1 := hide (Blk.new w 66 #[.int .u16 (pid : Int), .string nm, .int .u64 (per : Int), .int .u64 (dur : Int)])
  have HSX : Hid (∀ w', Blk w' w.heap.size 66 #[.int .u16 (pid : Int), .string nm, .int .u64 (per : Int), .int .u64 (dur : Int)] → (w'.cell? ⟨w.heap.size, 0, none⟩ = some (.int .u16 (pid : Int)) ∧ w'.cell? ⟨w.heap.size, 1, none⟩ = some (.string nm) ∧ w'.cell? ⟨w.heap.size, 2, none⟩ = some (.int .u64 (per : Int)) ∧ w'.cell? ⟨w.heap.size, 3, none⟩ = some (.int .u64 (dur : Int)))) := hide (fun W hW => ⟨hW.cell 0, hW.cell 1, hW.cell 2, hW.cell 3⟩)
  clear hi hm
  go_enter Tryz.func65, Tryz.ntmps65
  go_wp2
  go_region_held3 (fun w' => (w'.cell? ⟨w.heap.size, 0, none⟩ = some (.int .u16 (pid : Int)) ∧ w'.cell? ⟨w.heap.size, 1, none⟩ = some (.string nm) ∧ w'.cell? ⟨w.heap.size, 2, none⟩ = some (.int .u64 (per : Int)) ∧ w'.cell? ⟨w.heap.size, 3, none⟩ = some (.int .u64 (dur : Int))))
    (first | with_reducible assumption | (refine HSX.out _ ?_; (repeat (first | with_reducible exact (Hid.out (by with_reducible assumption)) | with_reducible refine Blk.drew ?_ | with_reducible refine Blk.alloc ?_ _)); done) | fail)
    (first
    | (go_at_call 124; refine (HTX.out _).mono ?_; rintro e w9 ⟨a9, k9, rfl, ho9, hb9⟩; have HT9 := hide ho9; have HB9 := hide hb9; have hz9 := hb9.size; (try simp only [World.size_drew] at hz9); (try simp only [World.size_alloc] at hz9); have HK9 := hide (fun g t cs (h : Blk _ g t cs) => h.below hb9 h.lt); have HX9 : Hid (Blk w9 w.heap.size 66 #[.int .u16 (pid : Int), .string nm, .int .u64 (per : Int), .int .u64 (dur : Int)]) := hide (by refine HK9.out _ _ _ ?_; (repeat (first | with_reducible exact (Hid.out (by with_reducible assumption)) | with_reducible refine Blk.drew ?_ | with_reducible refine Blk.alloc ?_ _))); have HBW9 : Hid (Below w.heap.size w w9) := hide (by refine Below.trans ?_ (hb9.mono (by simp; try omega)); (repeat (first | with_reducible exact (Hid.out (by with_reducible assumption)) | exact Below.refl _ _ | with_reducible refine Below.drew ?_ | refine Below.alloc ?_ (by first | omega | (simp <;> omega)) _))); clear ho9 hb9)
    | (refine step_append_any _ rfl (.tmp 6) (.tmp 9) 63 rfl w.heap.size 22 i0 _ 1 8 Tryz.underlying63 HI.out hz0 hz1 hz2 rfl (by decide) (.slice (some ⟨w.heap.size + 1, 0, none⟩) 1 1) 1 ([pid].map nV) ?_ ?_ w9.heap.size a9 m k9 (textN nm |>.map nV) ?_ ?_ (nV_one _) ?_ ?_ ?_ ?_; (next => (simp [Act.eval])); (next => (refine own_blk (cs := #[.int .u64 (pid : Int)]) ?_ rfl rfl (by omega) (by omega); (repeat (first | with_reducible exact (Hid.out (by with_reducible assumption)) | exact Blk.newAt (by simp) | with_reducible refine Blk.drew ?_ | with_reducible refine Blk.alloc ?_ _ | with_reducible refine HK9.out _ _ _ ?_ | with_reducible refine HK10.out _ _ _ ?_ (ne_blk (by first | omega | (simp <;> omega))))))); (next => (simp [Act.eval])); (next => (refine Reads.below (Reads.of_own HT9.out) ?_; (repeat (first | exact Below.refl _ _ | with_reducible refine Below.drew ?_ | refine Below.alloc ?_ (by first | omega | (simp <;> omega)) _)))); (next => (simp only [maxLen]; omega)); (next => omega); (next => (first | omega | (simp <;> omega))); intro v10 w10 ho10 hg10 hat10; obtain ⟨a10, k10, hv10⟩ := own_slice ho10; subst hv10; have HO10 := hide ho10; have HK10 := hide (fun g t cs (h : Blk _ g t cs) (hne : some g ≠ _) => h.grown hg10 hne); have hz10 := hg10.size; (try simp only [World.size_drew] at hz10); (try simp only [World.size_alloc] at hz10); have HX10 : Hid (Blk w10 w.heap.size 66 #[.int .u16 (pid : Int), .string nm, .int .u64 (per : Int), .int .u64 (dur : Int)]) := hide (by refine HK10.out _ _ _ ?_ (ne_blk (by first | omega | (simp <;> omega))); (repeat (first | with_reducible exact (Hid.out (by with_reducible assumption)) | with_reducible refine Blk.drew ?_ | with_reducible refine Blk.alloc ?_ _))); have HBW10 : Hid (Below w.heap.size w w10) := hide (by refine Below.grown ?_ hg10 (by first | omega | (simp <;> omega)) (fun r hr => by simp [Value.ownBlock] at hr; omega); (repeat (first | with_reducible exact (Hid.out (by with_reducible assumption)) | exact Below.refl _ _ | with_reducible refine Below.drew ?_ | refine Below.alloc ?_ (by first | omega | (simp <;> omega)) _))); clear ho10 hg10 hat10)
    | (refine step_append_any _ rfl (.tmp 6) (.tmp 9) 63 rfl w.heap.size 22 i0 _ 1 8 Tryz.underlying63 HI.out hz0 hz1 hz2 rfl (by decide) (.slice (some ⟨w.heap.size + 1 + 1, 0, none⟩) 1 1) 1 ([pid].map nV) ?_ ?_ w9.heap.size a9 m k9 (textN nm |>.map nV) ?_ ?_ (nV_one _) ?_ ?_ ?_ ?_; (next => (simp [Act.eval])); (next => (refine own_blk (cs := #[.int .u64 (pid : Int)]) ?_ rfl rfl (by omega) (by omega); (repeat (first | with_reducible exact (Hid.out (by with_reducible assumption)) | exact Blk.newAt (by simp) | with_reducible refine Blk.drew ?_ | with_reducible refine Blk.alloc ?_ _ | with_reducible refine HK9.out _ _ _ ?_ | with_reducible refine HK10.out _ _ _ ?_ (ne_blk (by first | omega | (simp <;> omega))))))); (next => (simp [Act.eval])); (next => (refine Reads.below (Reads.of_own HT9.out) ?_; (repeat (first | exact Below.refl _ _ | with_reducible refine Below.drew ?_ | refine Below.alloc ?_ (by first | omega | (simp <;> omega)) _)))); (next => (simp only [maxLen]; omega)); (next => omega); (next => (first | omega | (simp <;> omega))); intro v10 w10 ho10 hg10 hat10; obtain ⟨a10, k10, hv10⟩ := own_slice ho10; subst hv10; have HO10 := hide ho10; have HK10 := hide (fun g t cs (h : Blk _ g t cs) (hne : some g ≠ _) => h.grown hg10 hne); have hz10 := hg10.size; (try simp only [World.size_drew] at hz10); (try simp only [World.size_alloc] at hz10); have HX10 : Hid (Blk w10 w.heap.size 66 #[.int .u16 (pid : Int), .string nm, .int .u64 (per : Int), .int .u64 (dur : Int)]) := hide (by refine HK10.out _ _ _ ?_ (ne_blk (by first | omega | (simp <;> omega))); (repeat (first | with_reducible exact (Hid.out (by with_reducible assumption)) | with_reducible refine Blk.drew ?_ | with_reducible refine Blk.alloc ?_ _))); have HBW10 : Hid (Below w.heap.size w w10) := hide (by refine Below.grown ?_ hg10 (by first | omega | (simp <;> omega)) (fun r hr => by simp [Value.ownBlock] at hr; omega); (repeat (first | with_reducible exact (Hid.out (by with_reducible assumption)) | exact Below.refl _ _ | with_reducible refine Below.drew ?_ | refine Below.alloc ?_ (by first | omega | (simp <;> omega)) _))); clear ho10 hg10 hat10)
    | (refine step_append_any _ rfl (.tmp 6) (.tmp 9) 63 rfl w.heap.size 22 i0 _ 1 8 Tryz.underlying63 HI.out hz0 hz1 hz2 rfl (by decide) (.slice (some ⟨w9.heap.size, 0, none⟩) 1 1) 1 ([pid].map nV) ?_ ?_ w9.heap.size a9 m k9 (textN nm |>.map nV) ?_ ?_ (nV_one _) ?_ ?_ ?_ ?_; (next => (simp [Act.eval])); (next => (refine own_blk (cs := #[.int .u64 (pid : Int)]) ?_ rfl rfl (by omega) (by omega); (repeat (first | with_reducible exact (Hid.out (by with_reducible assumption)) | exact Blk.newAt (by simp) | with_reducible refine Blk.drew ?_ | with_reducible refine Blk.alloc ?_ _ | with_reducible refine HK9.out _ _ _ ?_ | with_reducible refine HK10.out _ _ _ ?_ (ne_blk (by first | omega | (simp <;> omega))))))); (next => (simp [Act.eval])); (next => (refine Reads.below (Reads.of_own HT9.out) ?_; (repeat (first | exact Below.refl _ _ | with_reducible refine Below.drew ?_ | refine Below.alloc ?_ (by first | omega | (simp <;> omega)) _)))); (next => (simp only [maxLen]; omega)); (next => omega); (next => (first | omega | (simp <;> omega))); intro v10 w10 ho10 hg10 hat10; obtain ⟨a10, k10, hv10⟩ := own_slice ho10; subst hv10; have HO10 := hide ho10; have HK10 := hide (fun g t cs (h : Blk _ g t cs) (hne : some g ≠ _) => h.grown hg10 hne); have hz10 := hg10.size; (try simp only [World.size_drew] at hz10); (try simp only [World.size_alloc] at hz10); have HX10 : Hid (Blk w10 w.heap.size 66 #[.int .u16 (pid : Int), .string nm, .int .u64 (per : Int), .int .u64 (dur : Int)]) := hide (by refine HK10.out _ _ _ ?_ (ne_blk (by first | omega | (simp <;> omega))); (repeat (first | with_reducible exact (Hid.out (by with_reducible assumption)) | with_reducible refine Blk.drew ?_ | with_reducible refine Blk.alloc ?_ _))); have HBW10 : Hid (Below w.heap.size w w10) := hide (by refine Below.grown ?_ hg10 (by first | omega | (simp <;> omega)) (fun r hr => by simp [Value.ownBlock] at hr; omega); (repeat (first | with_reducible exact (Hid.out (by with_reducible assumption)) | exact Below.refl _ _ | with_reducible refine Below.drew ?_ | refine Below.alloc ?_ (by first | omega | (simp <;> omega)) _))); clear ho10 hg10 hat10)
    | (refine step_append_any _ rfl (.tmp 6) (.tmp 9) 63 rfl w.heap.size 22 i0 _ 1 8 Tryz.underlying63 HI.out hz0 hz1 hz2 rfl (by decide) (.slice (some ⟨w9.heap.size + 1, 0, none⟩) 1 1) 1 ([pid].map nV) ?_ ?_ w9.heap.size a9 m k9 (textN nm |>.map nV) ?_ ?_ (nV_one _) ?_ ?_ ?_ ?_; (next => (simp [Act.eval])); (next => (refine own_blk (cs := #[.int .u64 (pid : Int)]) ?_ rfl rfl (by omega) (by omega); (repeat (first | with_reducible exact (Hid.out (by with_reducible assumption)) | exact Blk.newAt (by simp) | with_reducible refine Blk.drew ?_ | with_reducible refine Blk.alloc ?_ _ | with_reducible refine HK9.out _ _ _ ?_ | with_reducible refine HK10.out _ _ _ ?_ (ne_blk (by first | omega | (simp <;> omega))))))); (next => (simp [Act.eval])); (next => (refine Reads.below (Reads.of_own HT9.out) ?_; (repeat (first | exact Below.refl _ _ | with_reducible refine Below.drew ?_ | refine Below.alloc ?_ (by first | omega | (simp <;> omega)) _)))); (next => (simp only [maxLen]; omega)); (next => omega); (next => (first | omega | (simp <;> omega))); intro v10 w10 ho10 hg10 hat10; obtain ⟨a10, k10, hv10⟩ := own_slice ho10; subst hv10; have HO10 := hide ho10; have HK10 := hide (fun g t cs (h : Blk _ g t cs) (hne : some g ≠ _) => h.grown hg10 hne); have hz10 := hg10.size; (try simp only [World.size_drew] at hz10); (try simp only [World.size_alloc] at hz10); have HX10 : Hid (Blk w10 w.heap.size 66 #[.int .u16 (pid : Int), .string nm, .int .u64 (per : Int), .int .u64 (dur : Int)]) := hide (by refine HK10.out _ _ _ ?_ (ne_blk (by first | omega | (simp <;> omega))); (repeat (first | with_reducible exact (Hid.out (by with_reducible assumption)) | with_reducible refine Blk.drew ?_ | with_reducible refine Blk.alloc ?_ _))); have HBW10 : Hid (Below w.heap.size w w10) := hide (by refine Below.grown ?_ hg10 (by first | omega | (simp <;> omega)) (fun r hr => by simp [Value.ownBlock] at hr; omega); (repeat (first | with_reducible exact (Hid.out (by with_reducible assumption)) | exact Below.refl _ _ | with_reducible refine Below.drew ?_ | refine Below.alloc ?_ (by first | omega | (simp <;> omega)) _))); clear ho10 hg10 hat10)
    | (refine step_append_any _ rfl (.tmp 10) (.tmp 15) 63 rfl w.heap.size 22 i0 _ 1 8 Tryz.underlying63 HI.out hz0 hz1 hz2 rfl (by decide) (.slice a10 (1 + m) k10) (1 + m) ([pid].map nV ++ (textN nm).map nV) ?_ ?_ (w10.heap.size + 1) (some ⟨w.heap.size + 1, 0, none⟩) 2 2 ([per, dur].map nV) ?_ ?_ (nV_one _) ?_ ?_ ?_ ?_; (next => (simp [Act.eval])); (next => (first | exact HO10.out | exact own_below HO10.out ((Below.refl _ _).alloc (Nat.le_refl _) _))); (next => (simp [Act.eval])); (next => (refine reads_blk (cs := #[.int .u64 (per : Int), .int .u64 (dur : Int)]) ?_ rfl rfl (by omega) (by omega); (repeat (first | with_reducible exact (Hid.out (by with_reducible assumption)) | exact Blk.newAt (by simp) | with_reducible refine Blk.drew ?_ | with_reducible refine Blk.alloc ?_ _ | with_reducible refine HK9.out _ _ _ ?_ | with_reducible refine HK10.out _ _ _ ?_ (ne_blk (by first | omega | (simp <;> omega))))))); (next => (simp only [maxLen]; omega)); (next => omega); (next => (first | omega | (simp <;> omega))); intro v11 w11 ho11 hg11 hat11; obtain ⟨a11, k11, hv11⟩ := own_slice ho11; subst hv11; have HO11 := hide ho11; have HX11 : Hid (Blk w11 w.heap.size 66 #[.int .u16 (pid : Int), .string nm, .int .u64 (per : Int), .int .u64 (dur : Int)]) := hide (by first | exact Blk.grown HX10.out hg11 (Ne.symm (own_blk_ne HO10.out HX10.out (by decide))) | exact Blk.grown (HX10.out.alloc _) hg11 (Ne.symm (own_blk_ne HO10.out HX10.out (by decide)))); have HBW11 : Hid (Below w.heap.size w w11) := hide (by refine Below.grown ?_ hg11 (by first | omega | (simp <;> omega)) (fun r hr => own_ge HO10.out r hr); (repeat (first | with_reducible exact (Hid.out (by with_reducible assumption)) | exact Below.refl _ _ | with_reducible refine Below.drew ?_ | refine Below.alloc ?_ (by first | omega | (simp <;> omega)) _))); clear ho11 hg11 hat11)
    | (refine step_append_any _ rfl (.tmp 10) (.tmp 15) 63 rfl w.heap.size 22 i0 _ 1 8 Tryz.underlying63 HI.out hz0 hz1 hz2 rfl (by decide) (.slice a10 (1 + m) k10) (1 + m) ([pid].map nV ++ (textN nm).map nV) ?_ ?_ (w10.heap.size + 1) (some ⟨w.heap.size + 1 + 1, 0, none⟩) 2 2 ([per, dur].map nV) ?_ ?_ (nV_one _) ?_ ?_ ?_ ?_; (next => (simp [Act.eval])); (next => (first | exact HO10.out | exact own_below HO10.out ((Below.refl _ _).alloc (Nat.le_refl _) _))); (next => (simp [Act.eval])); (next => (refine reads_blk (cs := #[.int .u64 (per : Int), .int .u64 (dur : Int)]) ?_ rfl rfl (by omega) (by omega); (repeat (first | with_reducible exact (Hid.out (by with_reducible assumption)) | exact Blk.newAt (by simp) | with_reducible refine Blk.drew ?_ | with_reducible refine Blk.alloc ?_ _ | with_reducible refine HK9.out _ _ _ ?_ | with_reducible refine HK10.out _ _ _ ?_ (ne_blk (by first | omega | (simp <;> omega))))))); (next => (simp only [maxLen]; omega)); (next => omega); (next => (first | omega | (simp <;> omega))); intro v11 w11 ho11 hg11 hat11; obtain ⟨a11, k11, hv11⟩ := own_slice ho11; subst hv11; have HO11 := hide ho11; have HX11 : Hid (Blk w11 w.heap.size 66 #[.int .u16 (pid : Int), .string nm, .int .u64 (per : Int), .int .u64 (dur : Int)]) := hide (by first | exact Blk.grown HX10.out hg11 (Ne.symm (own_blk_ne HO10.out HX10.out (by decide))) | exact Blk.grown (HX10.out.alloc _) hg11 (Ne.symm (own_blk_ne HO10.out HX10.out (by decide)))); have HBW11 : Hid (Below w.heap.size w w11) := hide (by refine Below.grown ?_ hg11 (by first | omega | (simp <;> omega)) (fun r hr => own_ge HO10.out r hr); (repeat (first | with_reducible exact (Hid.out (by with_reducible assumption)) | exact Below.refl _ _ | with_reducible refine Below.drew ?_ | refine Below.alloc ?_ (by first | omega | (simp <;> omega)) _))); clear ho11 hg11 hat11)
    | (refine step_append_any _ rfl (.tmp 10) (.tmp 15) 63 rfl w.heap.size 22 i0 _ 1 8 Tryz.underlying63 HI.out hz0 hz1 hz2 rfl (by decide) (.slice a10 (1 + m) k10) (1 + m) ([pid].map nV ++ (textN nm).map nV) ?_ ?_ (w10.heap.size + 1) (some ⟨w9.heap.size, 0, none⟩) 2 2 ([per, dur].map nV) ?_ ?_ (nV_one _) ?_ ?_ ?_ ?_; (next => (simp [Act.eval])); (next => (first | exact HO10.out | exact own_below HO10.out ((Below.refl _ _).alloc (Nat.le_refl _) _))); (next => (simp [Act.eval])); (next => (refine reads_blk (cs := #[.int .u64 (per : Int), .int .u64 (dur : Int)]) ?_ rfl rfl (by omega) (by omega); (repeat (first | with_reducible exact (Hid.out (by with_reducible assumption)) | exact Blk.newAt (by simp) | with_reducible refine Blk.drew ?_ | with_reducible refine Blk.alloc ?_ _ | with_reducible refine HK9.out _ _ _ ?_ | with_reducible refine HK10.out _ _ _ ?_ (ne_blk (by first | omega | (simp <;> omega))))))); (next => (simp only [maxLen]; omega)); (next => omega); (next => (first | omega | (simp <;> omega))); intro v11 w11 ho11 hg11 hat11; obtain ⟨a11, k11, hv11⟩ := own_slice ho11; subst hv11; have HO11 := hide ho11; have HX11 : Hid (Blk w11 w.heap.size 66 #[.int .u16 (pid : Int), .string nm, .int .u64 (per : Int), .int .u64 (dur : Int)]) := hide (by first | exact Blk.grown HX10.out hg11 (Ne.symm (own_blk_ne HO10.out HX10.out (by decide))) | exact Blk.grown (HX10.out.alloc _) hg11 (Ne.symm (own_blk_ne HO10.out HX10.out (by decide)))); have HBW11 : Hid (Below w.heap.size w w11) := hide (by refine Below.grown ?_ hg11 (by first | omega | (simp <;> omega)) (fun r hr => own_ge HO10.out r hr); (repeat (first | with_reducible exact (Hid.out (by with_reducible assumption)) | exact Below.refl _ _ | with_reducible refine Below.drew ?_ | refine Below.alloc ?_ (by first | omega | (simp <;> omega)) _))); clear ho11 hg11 hat11)
    | (refine step_append_any _ rfl (.tmp 10) (.tmp 15) 63 rfl w.heap.size 22 i0 _ 1 8 Tryz.underlying63 HI.out hz0 hz1 hz2 rfl (by decide) (.slice a10 (1 + m) k10) (1 + m) ([pid].map nV ++ (textN nm).map nV) ?_ ?_ (w10.heap.size + 1) (some ⟨w9.heap.size + 1, 0, none⟩) 2 2 ([per, dur].map nV) ?_ ?_ (nV_one _) ?_ ?_ ?_ ?_; (next => (simp [Act.eval])); (next => (first | exact HO10.out | exact own_below HO10.out ((Below.refl _ _).alloc (Nat.le_refl _) _))); (next => (simp [Act.eval])); (next => (refine reads_blk (cs := #[.int .u64 (per : Int), .int .u64 (dur : Int)]) ?_ rfl rfl (by omega) (by omega); (repeat (first | with_reducible exact (Hid.out (by with_reducible assumption)) | exact Blk.newAt (by simp) | with_reducible refine Blk.drew ?_ | with_reducible refine Blk.alloc ?_ _ | with_reducible refine HK9.out _ _ _ ?_ | with_reducible refine HK10.out _ _ _ ?_ (ne_blk (by first | omega | (simp <;> omega))))))); (next => (simp only [maxLen]; omega)); (next => omega); (next => (first | omega | (simp <;> omega))); intro v11 w11 ho11 hg11 hat11; obtain ⟨a11, k11, hv11⟩ := own_slice ho11; subst hv11; have HO11 := hide ho11; have HX11 : Hid (Blk w11 w.heap.size 66 #[.int .u16 (pid : Int), .string nm, .int .u64 (per : Int), .int .u64 (dur : Int)]) := hide (by first | exact Blk.grown HX10.out hg11 (Ne.symm (own_blk_ne HO10.out HX10.out (by decide))) | exact Blk.grown (HX10.out.alloc _) hg11 (Ne.symm (own_blk_ne HO10.out HX10.out (by decide)))); have HBW11 : Hid (Below w.heap.size w w11) := hide (by refine Below.grown ?_ hg11 (by first | omega | (simp <;> omega)) (fun r hr => own_ge HO10.out r hr); (repeat (first | with_reducible exact (Hid.out (by with_reducible assumption)) | exact Below.refl _ _ | with_reducible refine Below.drew ?_ | refine Below.alloc ?_ (by first | omega | (simp <;> omega)) _))); clear ho11 hg11 hat11)
    | (refine step_append_any _ rfl (.tmp 10) (.tmp 15) 63 rfl w.heap.size 22 i0 _ 1 8 Tryz.underlying63 HI.out hz0 hz1 hz2 rfl (by decide) (.slice a10 (1 + m) k10) (1 + m) ([pid].map nV ++ (textN nm).map nV) ?_ ?_ (w10.heap.size + 1) (some ⟨w10.heap.size, 0, none⟩) 2 2 ([per, dur].map nV) ?_ ?_ (nV_one _) ?_ ?_ ?_ ?_; (next => (simp [Act.eval])); (next => (first | exact HO10.out | exact own_below HO10.out ((Below.refl _ _).alloc (Nat.le_refl _) _))); (next => (simp [Act.eval])); (next => (refine reads_blk (cs := #[.int .u64 (per : Int), .int .u64 (dur : Int)]) ?_ rfl rfl (by omega) (by omega); (repeat (first | with_reducible exact (Hid.out (by with_reducible assumption)) | exact Blk.newAt (by simp) | with_reducible refine Blk.drew ?_ | with_reducible refine Blk.alloc ?_ _ | with_reducible refine HK9.out _ _ _ ?_ | with_reducible refine HK10.out _ _ _ ?_ (ne_blk (by first | omega | (simp <;> omega))))))); (next => (simp only [maxLen]; omega)); (next => omega); (next => (first | omega | (simp <;> omega))); intro v11 w11 ho11 hg11 hat11; obtain ⟨a11, k11, hv11⟩ := own_slice ho11; subst hv11; have HO11 := hide ho11; have HX11 : Hid (Blk w11 w.heap.size 66 #[.int .u16 (pid : Int), .string nm, .int .u64 (per : Int), .int .u64 (dur : Int)]) := hide (by first | exact Blk.grown HX10.out hg11 (Ne.symm (own_blk_ne HO10.out HX10.out (by decide))) | exact Blk.grown (HX10.out.alloc _) hg11 (Ne.symm (own_blk_ne HO10.out HX10.out (by decide)))); have HBW11 : Hid (Below w.heap.size w w11) := hide (by refine Below.grown ?_ hg11 (by first | omega | (simp <;> omega)) (fun r hr => own_ge HO10.out r hr); (repeat (first | with_reducible exact (Hid.out (by with_reducible assumption)) | exact Below.refl _ _ | with_reducible refine Below.drew ?_ | refine Below.alloc ?_ (by first | omega | (simp <;> omega)) _))); clear ho11 hg11 hat11))
  all_goals
    go_wp2
    go_ret
    exact ⟨a11, k11, by rw [HLN.out]; rfl, by rw [HLN.out, HKL.out]; exact HO11.out, HBW11.out⟩
set_option maxRecDepth 100000 in
set_option maxHeartbeats 8000000 in
theorem RKPort_calls (x : PortR) (hx : x.Ok) (hnm : x.name.size ≤ 1000) (w : World) :
    Calls Tryz.prog 68 #[.agg #[.int .u16 (x.id : Int), .int .u16 (x.part : Int), .string x.name, .bool x.out, .bool x.que, .int .u32 (x.size : Int)]] w (NumsV (keyQ x) w) := by
  obtain ⟨i0, hi, hz0, hz1, hz2⟩ := info_parts u64_info
  have HI := hide hi
  obtain ⟨pid, ppt, nm, o, q, sz⟩ := x
  obtain ⟨h1, h3, _, h4⟩ := hx
  simp only at h1 h3 h4 hnm
  obtain ⟨m, hm⟩ : ∃ m, m = (textN nm).length := ⟨_, rfl⟩
  have hmz : m ≤ 1001 := by
    rw [hm]
    simp [textN]
    omega
  have HTX : Hid (∀ W, Calls Tryz.prog 124 #[.string nm] W fun e w' => ∃ a k, e = .returned (.slice a m k) ∧ w'.ownsRow W.heap.size 22 1 (.slice a m k) m ((textN nm).map nV) ∧ Below W.heap.size W w') := hide (fun W => by rw [hm]; exact Rtext_calls nm W (by omega))
  have HKL : Hid ((keyQ ⟨pid, ppt, nm, o, q, sz⟩).map nV = [pid, ppt].map nV ++ (textN nm).map nV ++ [bitN o, bitN q, sz].map nV) := hide (by simp [keyQ])
  have HLN : Hid ((keyQ ⟨pid, ppt, nm, o, q, sz⟩).length = 2 + m + 3) := hide (by rw [hm]; simp [keyQ]; omega)
  have wp0 : IntKind.u64.wrap (pid : Int) = (pid : Int) := by rw [IntKind.wrap_u64]; omega
  have wp1 : IntKind.u64.wrap (ppt : Int) = (ppt : Int) := by rw [IntKind.wrap_u64]; omega
  have wp2 : IntKind.u64.wrap (sz : Int) = (sz : Int) := by rw [IntKind.wrap_u64]; omega
  have HBo := hide (fun W => Rbit_calls o W)
  have HBq := hide (fun W => Rbit_calls q W)
  have HB1 := hide (Blk.new w 74 #[.int .u16 (pid : Int), .int .u16 (ppt : Int), .string nm, .bool o, .bool q, .int .u32 (sz : Int)])
  have HSX : Hid (∀ w', Blk w' w.heap.size 74 #[.int .u16 (pid : Int), .int .u16 (ppt : Int), .string nm, .bool o, .bool q, .int .u32 (sz : Int)] → (w'.cell? ⟨w.heap.size, 0, none⟩ = some (.int .u16 (pid : Int)) ∧ w'.cell? ⟨w.heap.size, 1, none⟩ = some (.int .u16 (ppt : Int)) ∧ w'.cell? ⟨w.heap.size, 2, none⟩ = some (.string nm) ∧ w'.cell? ⟨w.heap.size, 3, none⟩ = some (.bool o) ∧ w'.cell? ⟨w.heap.size, 4, none⟩ = some (.bool q) ∧ w'.cell? ⟨w.heap.size, 5, none⟩ = some (.int .u32 (sz : Int)))) := hide (fun W hW => ⟨hW.cell 0, hW.cell 1, hW.cell 2, hW.cell 3, hW.cell 4, hW.cell 5⟩)
  clear hi hm
  go_enter Tryz.func68, Tryz.ntmps68
  go_wp2
  go_region_held3 (fun w' => (w'.cell? ⟨w.heap.size, 0, none⟩ = some (.int .u16 (pid : Int)) ∧ w'.cell? ⟨w.heap.size, 1, none⟩ = some (.int .u16 (ppt : Int)) ∧ w'.cell? ⟨w.heap.size, 2, none⟩ = some (.string nm) ∧ w'.cell? ⟨w.heap.size, 3, none⟩ = some (.bool o) ∧ w'.cell? ⟨w.heap.size, 4, none⟩ = some (.bool q) ∧ w'.cell? ⟨w.heap.size, 5, none⟩ = some (.int .u32 (sz : Int))))
    (first | with_reducible assumption | (refine HSX.out _ ?_; (repeat (first | with_reducible exact (Hid.out (by with_reducible assumption)) | with_reducible refine Blk.drew ?_ | with_reducible refine Blk.alloc ?_ _)); done) | fail)
    (first
    | (go_at_call 124; refine (HTX.out _).mono ?_; rintro e w9 ⟨a9, k9, rfl, ho9, hb9⟩; have HT9 := hide ho9; have HB9 := hide hb9; have hz9 := hb9.size; (try simp only [World.size_drew] at hz9); (try simp only [World.size_alloc] at hz9); have HK9 := hide (fun g t cs (h : Blk _ g t cs) => h.below hb9 h.lt); have HX9 : Hid (Blk w9 w.heap.size 74 #[.int .u16 (pid : Int), .int .u16 (ppt : Int), .string nm, .bool o, .bool q, .int .u32 (sz : Int)]) := hide (by refine HK9.out _ _ _ ?_; (repeat (first | with_reducible exact (Hid.out (by with_reducible assumption)) | with_reducible refine Blk.drew ?_ | with_reducible refine Blk.alloc ?_ _))); have HBW9 : Hid (Below w.heap.size w w9) := hide (by refine Below.trans ?_ (hb9.mono (by simp; try omega)); (repeat (first | with_reducible exact (Hid.out (by with_reducible assumption)) | exact Below.refl _ _ | with_reducible refine Below.drew ?_ | refine Below.alloc ?_ (by first | omega | (simp <;> omega)) _))); clear ho9 hb9)
    | (go_at_call 125; (with_reducible first | refine (HBo.out _).mono ?_ | refine (HBq.out _).mono ?_); rintro e wb ⟨rfl, hwb⟩; have hwb := hwb.symm; subst hwb)
    | (refine step_append_any _ rfl (.tmp 9) (.tmp 12) 63 rfl w.heap.size 22 i0 _ 1 8 Tryz.underlying63 HI.out hz0 hz1 hz2 rfl (by decide) (.slice (some ⟨w.heap.size + 1, 0, none⟩) 2 2) 2 ([pid, ppt].map nV) ?_ ?_ w9.heap.size a9 m k9 (textN nm |>.map nV) ?_ ?_ (nV_one _) ?_ ?_ ?_ ?_; (next => (simp [Act.eval])); (next => (refine own_blk (cs := #[.int .u64 (pid : Int), .int .u64 (ppt : Int)]) ?_ rfl rfl (by omega) (by omega); (repeat (first | with_reducible exact (Hid.out (by with_reducible assumption)) | exact Blk.newAt (by simp) | with_reducible refine Blk.drew ?_ | with_reducible refine Blk.alloc ?_ _ | with_reducible refine HK9.out _ _ _ ?_ | with_reducible refine HK10.out _ _ _ ?_ (ne_blk (by first | omega | (simp <;> omega))))))); (next => (simp [Act.eval])); (next => (refine Reads.below (Reads.of_own HT9.out) ?_; (repeat (first | exact Below.refl _ _ | with_reducible refine Below.drew ?_ | refine Below.alloc ?_ (by first | omega | (simp <;> omega)) _)))); (next => (simp only [maxLen]; omega)); (next => omega); (next => (first | omega | (simp <;> omega))); intro v10 w10 ho10 hg10 hat10; obtain ⟨a10, k10, hv10⟩ := own_slice ho10; subst hv10; have HO10 := hide ho10; have HK10 := hide (fun g t cs (h : Blk _ g t cs) (hne : some g ≠ _) => h.grown hg10 hne); have hz10 := hg10.size; (try simp only [World.size_drew] at hz10); (try simp only [World.size_alloc] at hz10); have HX10 : Hid (Blk w10 w.heap.size 74 #[.int .u16 (pid : Int), .int .u16 (ppt : Int), .string nm, .bool o, .bool q, .int .u32 (sz : Int)]) := hide (by refine HK10.out _ _ _ ?_ (ne_blk (by first | omega | (simp <;> omega))); (repeat (first | with_reducible exact (Hid.out (by with_reducible assumption)) | with_reducible refine Blk.drew ?_ | with_reducible refine Blk.alloc ?_ _))); have HBW10 : Hid (Below w.heap.size w w10) := hide (by refine Below.grown ?_ hg10 (by first | omega | (simp <;> omega)) (fun r hr => by simp [Value.ownBlock] at hr; omega); (repeat (first | with_reducible exact (Hid.out (by with_reducible assumption)) | exact Below.refl _ _ | with_reducible refine Below.drew ?_ | refine Below.alloc ?_ (by first | omega | (simp <;> omega)) _))); clear ho10 hg10 hat10)
    | (refine step_append_any _ rfl (.tmp 9) (.tmp 12) 63 rfl w.heap.size 22 i0 _ 1 8 Tryz.underlying63 HI.out hz0 hz1 hz2 rfl (by decide) (.slice (some ⟨w.heap.size + 1 + 1, 0, none⟩) 2 2) 2 ([pid, ppt].map nV) ?_ ?_ w9.heap.size a9 m k9 (textN nm |>.map nV) ?_ ?_ (nV_one _) ?_ ?_ ?_ ?_; (next => (simp [Act.eval])); (next => (refine own_blk (cs := #[.int .u64 (pid : Int), .int .u64 (ppt : Int)]) ?_ rfl rfl (by omega) (by omega); (repeat (first | with_reducible exact (Hid.out (by with_reducible assumption)) | exact Blk.newAt (by simp) | with_reducible refine Blk.drew ?_ | with_reducible refine Blk.alloc ?_ _ | with_reducible refine HK9.out _ _ _ ?_ | with_reducible refine HK10.out _ _ _ ?_ (ne_blk (by first | omega | (simp <;> omega))))))); (next => (simp [Act.eval])); (next => (refine Reads.below (Reads.of_own HT9.out) ?_; (repeat (first | exact Below.refl _ _ | with_reducible refine Below.drew ?_ | refine Below.alloc ?_ (by first | omega | (simp <;> omega)) _)))); (next => (simp only [maxLen]; omega)); (next => omega); (next => (first | omega | (simp <;> omega))); intro v10 w10 ho10 hg10 hat10; obtain ⟨a10, k10, hv10⟩ := own_slice ho10; subst hv10; have HO10 := hide ho10; have HK10 := hide (fun g t cs (h : Blk _ g t cs) (hne : some g ≠ _) => h.grown hg10 hne); have hz10 := hg10.size; (try simp only [World.size_drew] at hz10); (try simp only [World.size_alloc] at hz10); have HX10 : Hid (Blk w10 w.heap.size 74 #[.int .u16 (pid : Int), .int .u16 (ppt : Int), .string nm, .bool o, .bool q, .int .u32 (sz : Int)]) := hide (by refine HK10.out _ _ _ ?_ (ne_blk (by first | omega | (simp <;> omega))); (repeat (first | with_reducible exact (Hid.out (by with_reducible assumption)) | with_reducible refine Blk.drew ?_ | with_reducible refine Blk.alloc ?_ _))); have HBW10 : Hid (Below w.heap.size w w10) := hide (by refine Below.grown ?_ hg10 (by first | omega | (simp <;> omega)) (fun r hr => by simp [Value.ownBlock] at hr; omega); (repeat (first | with_reducible exact (Hid.out (by with_reducible assumption)) | exact Below.refl _ _ | with_reducible refine Below.drew ?_ | refine Below.alloc ?_ (by first | omega | (simp <;> omega)) _))); clear ho10 hg10 hat10)
    | (refine step_append_any _ rfl (.tmp 9) (.tmp 12) 63 rfl w.heap.size 22 i0 _ 1 8 Tryz.underlying63 HI.out hz0 hz1 hz2 rfl (by decide) (.slice (some ⟨w9.heap.size, 0, none⟩) 2 2) 2 ([pid, ppt].map nV) ?_ ?_ w9.heap.size a9 m k9 (textN nm |>.map nV) ?_ ?_ (nV_one _) ?_ ?_ ?_ ?_; (next => (simp [Act.eval])); (next => (refine own_blk (cs := #[.int .u64 (pid : Int), .int .u64 (ppt : Int)]) ?_ rfl rfl (by omega) (by omega); (repeat (first | with_reducible exact (Hid.out (by with_reducible assumption)) | exact Blk.newAt (by simp) | with_reducible refine Blk.drew ?_ | with_reducible refine Blk.alloc ?_ _ | with_reducible refine HK9.out _ _ _ ?_ | with_reducible refine HK10.out _ _ _ ?_ (ne_blk (by first | omega | (simp <;> omega))))))); (next => (simp [Act.eval])); (next => (refine Reads.below (Reads.of_own HT9.out) ?_; (repeat (first | exact Below.refl _ _ | with_reducible refine Below.drew ?_ | refine Below.alloc ?_ (by first | omega | (simp <;> omega)) _)))); (next => (simp only [maxLen]; omega)); (next => omega); (next => (first | omega | (simp <;> omega))); intro v10 w10 ho10 hg10 hat10; obtain ⟨a10, k10, hv10⟩ := own_slice ho10; subst hv10; have HO10 := hide ho10; have HK10 := hide (fun g t cs (h : Blk _ g t cs) (hne : some g ≠ _) => h.grown hg10 hne); have hz10 := hg10.size; (try simp only [World.size_drew] at hz10); (try simp only [World.size_alloc] at hz10); have HX10 : Hid (Blk w10 w.heap.size 74 #[.int .u16 (pid : Int), .int .u16 (ppt : Int), .string nm, .bool o, .bool q, .int .u32 (sz : Int)]) := hide (by refine HK10.out _ _ _ ?_ (ne_blk (by first | omega | (simp <;> omega))); (repeat (first | with_reducible exact (Hid.out (by with_reducible assumption)) | with_reducible refine Blk.drew ?_ | with_reducible refine Blk.alloc ?_ _))); have HBW10 : Hid (Below w.heap.size w w10) := hide (by refine Below.grown ?_ hg10 (by first | omega | (simp <;> omega)) (fun r hr => by simp [Value.ownBlock] at hr; omega); (repeat (first | with_reducible exact (Hid.out (by with_reducible assumption)) | exact Below.refl _ _ | with_reducible refine Below.drew ?_ | refine Below.alloc ?_ (by first | omega | (simp <;> omega)) _))); clear ho10 hg10 hat10)
    | (refine step_append_any _ rfl (.tmp 9) (.tmp 12) 63 rfl w.heap.size 22 i0 _ 1 8 Tryz.underlying63 HI.out hz0 hz1 hz2 rfl (by decide) (.slice (some ⟨w9.heap.size + 1, 0, none⟩) 2 2) 2 ([pid, ppt].map nV) ?_ ?_ w9.heap.size a9 m k9 (textN nm |>.map nV) ?_ ?_ (nV_one _) ?_ ?_ ?_ ?_; (next => (simp [Act.eval])); (next => (refine own_blk (cs := #[.int .u64 (pid : Int), .int .u64 (ppt : Int)]) ?_ rfl rfl (by omega) (by omega); (repeat (first | with_reducible exact (Hid.out (by with_reducible assumption)) | exact Blk.newAt (by simp) | with_reducible refine Blk.drew ?_ | with_reducible refine Blk.alloc ?_ _ | with_reducible refine HK9.out _ _ _ ?_ | with_reducible refine HK10.out _ _ _ ?_ (ne_blk (by first | omega | (simp <;> omega))))))); (next => (simp [Act.eval])); (next => (refine Reads.below (Reads.of_own HT9.out) ?_; (repeat (first | exact Below.refl _ _ | with_reducible refine Below.drew ?_ | refine Below.alloc ?_ (by first | omega | (simp <;> omega)) _)))); (next => (simp only [maxLen]; omega)); (next => omega); (next => (first | omega | (simp <;> omega))); intro v10 w10 ho10 hg10 hat10; obtain ⟨a10, k10, hv10⟩ := own_slice ho10; subst hv10; have HO10 := hide ho10; have HK10 := hide (fun g t cs (h : Blk _ g t cs) (hne : some g ≠ _) => h.grown hg10 hne); have hz10 := hg10.size; (try simp only [World.size_drew] at hz10); (try simp only [World.size_alloc] at hz10); have HX10 : Hid (Blk w10 w.heap.size 74 #[.int .u16 (pid : Int), .int .u16 (ppt : Int), .string nm, .bool o, .bool q, .int .u32 (sz : Int)]) := hide (by refine HK10.out _ _ _ ?_ (ne_blk (by first | omega | (simp <;> omega))); (repeat (first | with_reducible exact (Hid.out (by with_reducible assumption)) | with_reducible refine Blk.drew ?_ | with_reducible refine Blk.alloc ?_ _))); have HBW10 : Hid (Below w.heap.size w w10) := hide (by refine Below.grown ?_ hg10 (by first | omega | (simp <;> omega)) (fun r hr => by simp [Value.ownBlock] at hr; omega); (repeat (first | with_reducible exact (Hid.out (by with_reducible assumption)) | exact Below.refl _ _ | with_reducible refine Below.drew ?_ | refine Below.alloc ?_ (by first | omega | (simp <;> omega)) _))); clear ho10 hg10 hat10)
    | (refine step_append_any _ rfl (.tmp 13) (.tmp 23) 63 rfl w.heap.size 22 i0 _ 1 8 Tryz.underlying63 HI.out hz0 hz1 hz2 rfl (by decide) (.slice a10 (2 + m) k10) (2 + m) ([pid, ppt].map nV ++ (textN nm).map nV) ?_ ?_ (w10.heap.size + 1) (some ⟨w.heap.size + 1, 0, none⟩) 3 3 ([bitN o, bitN q, sz].map nV) ?_ ?_ (nV_one _) ?_ ?_ ?_ ?_; (next => (simp [Act.eval])); (next => (first | exact HO10.out | exact own_below HO10.out ((Below.refl _ _).alloc (Nat.le_refl _) _))); (next => (simp [Act.eval])); (next => (refine reads_blk (cs := #[.int .u64 ((bitN o : Nat) : Int), .int .u64 ((bitN q : Nat) : Int), .int .u64 (sz : Int)]) ?_ rfl rfl (by omega) (by omega); (repeat (first | with_reducible exact (Hid.out (by with_reducible assumption)) | exact Blk.newAt (by simp) | with_reducible refine Blk.drew ?_ | with_reducible refine Blk.alloc ?_ _ | with_reducible refine HK9.out _ _ _ ?_ | with_reducible refine HK10.out _ _ _ ?_ (ne_blk (by first | omega | (simp <;> omega))))))); (next => (simp only [maxLen]; omega)); (next => omega); (next => (first | omega | (simp <;> omega))); intro v11 w11 ho11 hg11 hat11; obtain ⟨a11, k11, hv11⟩ := own_slice ho11; subst hv11; have HO11 := hide ho11; have HX11 : Hid (Blk w11 w.heap.size 74 #[.int .u16 (pid : Int), .int .u16 (ppt : Int), .string nm, .bool o, .bool q, .int .u32 (sz : Int)]) := hide (by first | exact Blk.grown HX10.out hg11 (Ne.symm (own_blk_ne HO10.out HX10.out (by decide))) | exact Blk.grown (HX10.out.alloc _) hg11 (Ne.symm (own_blk_ne HO10.out HX10.out (by decide)))); have HBW11 : Hid (Below w.heap.size w w11) := hide (by refine Below.grown ?_ hg11 (by first | omega | (simp <;> omega)) (fun r hr => own_ge HO10.out r hr); (repeat (first | with_reducible exact (Hid.out (by with_reducible assumption)) | exact Below.refl _ _ | with_reducible refine Below.drew ?_ | refine Below.alloc ?_ (by first | omega | (simp <;> omega)) _))); clear ho11 hg11 hat11)
    | (refine step_append_any _ rfl (.tmp 13) (.tmp 23) 63 rfl w.heap.size 22 i0 _ 1 8 Tryz.underlying63 HI.out hz0 hz1 hz2 rfl (by decide) (.slice a10 (2 + m) k10) (2 + m) ([pid, ppt].map nV ++ (textN nm).map nV) ?_ ?_ (w10.heap.size + 1) (some ⟨w.heap.size + 1 + 1, 0, none⟩) 3 3 ([bitN o, bitN q, sz].map nV) ?_ ?_ (nV_one _) ?_ ?_ ?_ ?_; (next => (simp [Act.eval])); (next => (first | exact HO10.out | exact own_below HO10.out ((Below.refl _ _).alloc (Nat.le_refl _) _))); (next => (simp [Act.eval])); (next => (refine reads_blk (cs := #[.int .u64 ((bitN o : Nat) : Int), .int .u64 ((bitN q : Nat) : Int), .int .u64 (sz : Int)]) ?_ rfl rfl (by omega) (by omega); (repeat (first | with_reducible exact (Hid.out (by with_reducible assumption)) | exact Blk.newAt (by simp) | with_reducible refine Blk.drew ?_ | with_reducible refine Blk.alloc ?_ _ | with_reducible refine HK9.out _ _ _ ?_ | with_reducible refine HK10.out _ _ _ ?_ (ne_blk (by first | omega | (simp <;> omega))))))); (next => (simp only [maxLen]; omega)); (next => omega); (next => (first | omega | (simp <;> omega))); intro v11 w11 ho11 hg11 hat11; obtain ⟨a11, k11, hv11⟩ := own_slice ho11; subst hv11; have HO11 := hide ho11; have HX11 : Hid (Blk w11 w.heap.size 74 #[.int .u16 (pid : Int), .int .u16 (ppt : Int), .string nm, .bool o, .bool q, .int .u32 (sz : Int)]) := hide (by first | exact Blk.grown HX10.out hg11 (Ne.symm (own_blk_ne HO10.out HX10.out (by decide))) | exact Blk.grown (HX10.out.alloc _) hg11 (Ne.symm (own_blk_ne HO10.out HX10.out (by decide)))); have HBW11 : Hid (Below w.heap.size w w11) := hide (by refine Below.grown ?_ hg11 (by first | omega | (simp <;> omega)) (fun r hr => own_ge HO10.out r hr); (repeat (first | with_reducible exact (Hid.out (by with_reducible assumption)) | exact Below.refl _ _ | with_reducible refine Below.drew ?_ | refine Below.alloc ?_ (by first | omega | (simp <;> omega)) _))); clear ho11 hg11 hat11)
    | (refine step_append_any _ rfl (.tmp 13) (.tmp 23) 63 rfl w.heap.size 22 i0 _ 1 8 Tryz.underlying63 HI.out hz0 hz1 hz2 rfl (by decide) (.slice a10 (2 + m) k10) (2 + m) ([pid, ppt].map nV ++ (textN nm).map nV) ?_ ?_ (w10.heap.size + 1) (some ⟨w9.heap.size, 0, none⟩) 3 3 ([bitN o, bitN q, sz].map nV) ?_ ?_ (nV_one _) ?_ ?_ ?_ ?_; (next => (simp [Act.eval])); (next => (first | exact HO10.out | exact own_below HO10.out ((Below.refl _ _).alloc (Nat.le_refl _) _))); (next => (simp [Act.eval])); (next => (refine reads_blk (cs := #[.int .u64 ((bitN o : Nat) : Int), .int .u64 ((bitN q : Nat) : Int), .int .u64 (sz : Int)]) ?_ rfl rfl (by omega) (by omega); (repeat (first | with_reducible exact (Hid.out (by with_reducible assumption)) | exact Blk.newAt (by simp) | with_reducible refine Blk.drew ?_ | with_reducible refine Blk.alloc ?_ _ | with_reducible refine HK9.out _ _ _ ?_ | with_reducible refine HK10.out _ _ _ ?_ (ne_blk (by first | omega | (simp <;> omega))))))); (next => (simp only [maxLen]; omega)); (next => omega); (next => (first | omega | (simp <;> omega))); intro v11 w11 ho11 hg11 hat11; obtain ⟨a11, k11, hv11⟩ := own_slice ho11; subst hv11; have HO11 := hide ho11; have HX11 : Hid (Blk w11 w.heap.size 74 #[.int .u16 (pid : Int), .int .u16 (ppt : Int), .string nm, .bool o, .bool q, .int .u32 (sz : Int)]) := hide (by first | exact Blk.grown HX10.out hg11 (Ne.symm (own_blk_ne HO10.out HX10.out (by decide))) | exact Blk.grown (HX10.out.alloc _) hg11 (Ne.symm (own_blk_ne HO10.out HX10.out (by decide)))); have HBW11 : Hid (Below w.heap.size w w11) := hide (by refine Below.grown ?_ hg11 (by first | omega | (simp <;> omega)) (fun r hr => own_ge HO10.out r hr); (repeat (first | with_reducible exact (Hid.out (by with_reducible assumption)) | exact Below.refl _ _ | with_reducible refine Below.drew ?_ | refine Below.alloc ?_ (by first | omega | (simp <;> omega)) _))); clear ho11 hg11 hat11)
    | (refine step_append_any _ rfl (.tmp 13) (.tmp 23) 63 rfl w.heap.size 22 i0 _ 1 8 Tryz.underlying63 HI.out hz0 hz1 hz2 rfl (by decide) (.slice a10 (2 + m) k10) (2 + m) ([pid, ppt].map nV ++ (textN nm).map nV) ?_ ?_ (w10.heap.size + 1) (some ⟨w9.heap.size + 1, 0, none⟩) 3 3 ([bitN o, bitN q, sz].map nV) ?_ ?_ (nV_one _) ?_ ?_ ?_ ?_; (next => (simp [Act.eval])); (next => (first | exact HO10.out | exact own_below HO10.out ((Below.refl _ _).alloc (Nat.le_refl _) _))); (next => (simp [Act.eval])); (next => (refine reads_blk (cs := #[.int .u64 ((bitN o : Nat) : Int), .int .u64 ((bitN q : Nat) : Int), .int .u64 (sz : Int)]) ?_ rfl rfl (by omega) (by omega); (repeat (first | with_reducible exact (Hid.out (by with_reducible assumption)) | exact Blk.newAt (by simp) | with_reducible refine Blk.drew ?_ | with_reducible refine Blk.alloc ?_ _ | with_reducible refine HK9.out _ _ _ ?_ | with_reducible refine HK10.out _ _ _ ?_ (ne_blk (by first | omega | (simp <;> omega))))))); (next => (simp only [maxLen]; omega)); (next => omega); (next => (first | omega | (simp <;> omega))); intro v11 w11 ho11 hg11 hat11; obtain ⟨a11, k11, hv11⟩ := own_slice ho11; subst hv11; have HO11 := hide ho11; have HX11 : Hid (Blk w11 w.heap.size 74 #[.int .u16 (pid : Int), .int .u16 (ppt : Int), .string nm, .bool o, .bool q, .int .u32 (sz : Int)]) := hide (by first | exact Blk.grown HX10.out hg11 (Ne.symm (own_blk_ne HO10.out HX10.out (by decide))) | exact Blk.grown (HX10.out.alloc _) hg11 (Ne.symm (own_blk_ne HO10.out HX10.out (by decide)))); have HBW11 : Hid (Below w.heap.size w w11) := hide (by refine Below.grown ?_ hg11 (by first | omega | (simp <;> omega)) (fun r hr => own_ge HO10.out r hr); (repeat (first | with_reducible exact (Hid.out (by with_reducible assumption)) | exact Below.refl _ _ | with_reducible refine Below.drew ?_ | refine Below.alloc ?_ (by first | omega | (simp <;> omega)) _))); clear ho11 hg11 hat11)
    | (refine step_append_any _ rfl (.tmp 13) (.tmp 23) 63 rfl w.heap.size 22 i0 _ 1 8 Tryz.underlying63 HI.out hz0 hz1 hz2 rfl (by decide) (.slice a10 (2 + m) k10) (2 + m) ([pid, ppt].map nV ++ (textN nm).map nV) ?_ ?_ (w10.heap.size + 1) (some ⟨w10.heap.size, 0, none⟩) 3 3 ([bitN o, bitN q, sz].map nV) ?_ ?_ (nV_one _) ?_ ?_ ?_ ?_; (next => (simp [Act.eval])); (next => (first | exact HO10.out | exact own_below HO10.out ((Below.refl _ _).alloc (Nat.le_refl _) _))); (next => (simp [Act.eval])); (next => (refine reads_blk (cs := #[.int .u64 ((bitN o : Nat) : Int), .int .u64 ((bitN q : Nat) : Int), .int .u64 (sz : Int)]) ?_ rfl rfl (by omega) (by omega); (repeat (first | with_reducible exact (Hid.out (by with_reducible assumption)) | exact Blk.newAt (by simp) | with_reducible refine Blk.drew ?_ | with_reducible refine Blk.alloc ?_ _ | with_reducible refine HK9.out _ _ _ ?_ | with_reducible refine HK10.out _ _ _ ?_ (ne_blk (by first | omega | (simp <;> omega))))))); (next => (simp only [maxLen]; omega)); (next => omega); (next => (first | omega | (simp <;> omega))); intro v11 w11 ho11 hg11 hat11; obtain ⟨a11, k11, hv11⟩ := own_slice ho11; subst hv11; have HO11 := hide ho11; have HX11 : Hid (Blk w11 w.heap.size 74 #[.int .u16 (pid : Int), .int .u16 (ppt : Int), .string nm, .bool o, .bool q, .int .u32 (sz : Int)]) := hide (by first | exact Blk.grown HX10.out hg11 (Ne.symm (own_blk_ne HO10.out HX10.out (by decide))) | exact Blk.grown (HX10.out.alloc _) hg11 (Ne.symm (own_blk_ne HO10.out HX10.out (by decide)))); have HBW11 : Hid (Below w.heap.size w w11) := hide (by refine Below.grown ?_ hg11 (by first | omega | (simp <;> omega)) (fun r hr => own_ge HO10.out r hr); (repeat (first | with_reducible exact (Hid.out (by with_reducible assumption)) | exact Below.refl _ _ | with_reducible refine Below.drew ?_ | refine Below.alloc ?_ (by first | omega | (simp <;> omega)) _))); clear ho11 hg11 hat11))
  all_goals
    go_wp2
    go_ret
    exact ⟨a11, k11, by rw [HLN.out]; rfl, by rw [HLN.out, HKL.out]; exact HO11.out, HBW11.out⟩
end Go.Proofs.YtcnihmlmaigkdaaGreatDoor
namespace Go.Proofs.YtcnihmlmaigkdaaGreatDoor
open Go.RowKit Go.Lib
set_option linter.unusedVariables false

theorem dest_cellK {x : ChanR} {B : Nat} {w : World} (h : DestsAt B x w) (k : Nat) (hk : k < x.dests.length) :
    ∃ b o, x.at_ = some ⟨b, o, none⟩ ∧ w.cell? ⟨b, o + k, none⟩ = some (.int .u16 (x.dests[k] : Int)) := by
  have hr : RowAt (fun x => [destL x]) 1 B ⟨x.dests, x.at_, x.cap⟩ w := ⟨by rw [flat_one]; exact h.1, h.2⟩
  obtain ⟨b, o, e, _, hc⟩ := hr.at_ (fun _ => rfl) (by omega) k hk
  have h0 := hc 0 (by omega)
  rw [Nat.mul_one, Nat.add_zero] at h0
  exact ⟨b, o, e, h0⟩
/-- In Channel. -/
def ChS (w : World) (x : ChanR) (k : Nat) (v : Value) (wr : World) : Prop :=
  wr.ownsRow w.heap.size 22 1 v (2 + k) (([x.id, x.src] ++ x.dests.take k).map nV) ∧ Below w.heap.size w wr ∧ Blk wr w.heap.size 57 #[.int .u16 (x.id : Int), .int .u16 (x.src : Int), .slice x.at_ x.dests.length x.cap]
set_option maxRecDepth 100000 in
set_option maxHeartbeats 4000000 in
theorem RKChannel_calls (x : ChanR) (hx : x.Ok) (w : World) (hd : DestsAt w.heap.size x w) (hl : x.dests.length ≤ 100000) :
    Calls Tryz.prog 69 #[.agg #[.int .u16 (x.id : Int), .int .u16 (x.src : Int), .slice x.at_ x.dests.length x.cap]] w (NumsV (keyC x) w) := by
  obtain ⟨i0, hi, hz0, hz1, hz2⟩ := info_parts u64_info
  have HI := hide hi
  have HD := hide hd
  have HX := hide hx
  have hcap := hd.2.1
  have hw0 : IntKind.u64.wrap (x.id : Int) = (x.id : Int) := by have := hx.1; rw [IntKind.wrap_u64]; omega
  have hw1 : IntKind.u64.wrap (x.src : Int) = (x.src : Int) := by have := hx.2.1; rw [IntKind.wrap_u64]; omega
  have HLN : Hid ((keyC x).length = 2 + x.dests.length) := hide (by simp [keyC]; omega)
  have HT0 : Hid (ChS w x 0 (.slice (some ⟨w.heap.size + 1, 0, none⟩) 2 2) ((w.alloc (.cells #[.int .u16 (x.id : Int), .int .u16 (x.src : Int), .slice x.at_ x.dests.length x.cap] 57)).alloc (.cells #[.int .u64 (x.id : Int), .int .u64 (x.src : Int)] 22))) := hide ⟨own_litN _ w.heap.size (w.heap.size + 1) 2 [x.id, x.src] _ rfl rfl (by simp) (by omega) (by simp), ((Below.refl _ w).alloc (Nat.le_refl _) _).alloc (by simp) _, (Blk.new w _ _).alloc _⟩
  obtain ⟨n, hn⟩ : ∃ n, n = x.dests.length := ⟨_, rfl⟩
  have HN := hide hn
  unfold ChS at HT0
  rw [← hn] at hl hcap HLN HT0 ⊢
  obtain ⟨at_, hat⟩ : ∃ a, a = x.at_ := ⟨_, rfl⟩
  have HAT := hide hat
  rw [← hat] at HT0 ⊢
  have hnI : (n : Int) ≤ 100000 := by omega
  have hcI : (n : Int) ≤ (x.cap : Int) := by omega
  obtain ⟨pid, hpid⟩ : ∃ a, a = x.id := ⟨_, rfl⟩
  obtain ⟨psr, hpsr⟩ : ∃ a, a = x.src := ⟨_, rfl⟩
  obtain ⟨pc, hpc⟩ : ∃ a, a = x.cap := ⟨_, rfl⟩
  have HPI := hide hpid
  have HPS := hide hpsr
  have HPC := hide hpc
  rw [← hpid] at hw0 HT0 ⊢
  rw [← hpsr] at hw1 HT0 ⊢
  rw [← hpc] at hcI HT0 ⊢
  clear hi hd hx hn hat hpid hpsr hpc hl hcap
  go_enter Tryz.func69, Tryz.ntmps69
  go_wp2
  go_loopw [3, 4] (fun o v wr => ∃ (k : Nat) (a : Option Addr) (c : Nat), k ≤ n ∧ v = .int .i64 (k : Int) ∧ o = .slice a (2 + k) c ∧ Hid (wr.ownsRow w.heap.size 22 1 (.slice a (2 + k) c) (2 + k) (([pid, psr] ++ x.dests.take k).map nV) ∧ Below w.heap.size w wr ∧ Blk wr w.heap.size 57 #[.int .u16 (pid : Int), .int .u16 (psr : Int), .slice at_ n pc])) (fun _ v _ => n - (intOf v).toNat)
  case atStart => exact ⟨0, _, _, Nat.zero_le _, rfl, rfl, HT0⟩
  case round =>
    obtain ⟨k, a, c, hk, rfl, rfl, hrel⟩ := hrel
    have hsz := hrel.out.2.1.size
    have hge := hide (own_ge hrel.out.1)
    have b2 := hrel.out.2.2.cell 2
    have b2 : wr.cell? ⟨w.heap.size, 2, none⟩ = some (.slice at_ n pc) := by simpa using b2
    by_cases hlt : k < n
    · have hlt2 : (k : Int) < (n : Int) := by omega
      have hkl : k < x.dests.length := by have := HN.out; omega
      obtain ⟨b, o, ha, x0⟩ := dest_cellK (HD.out.below hrel.out.2.1) k hkl
      rw [← HAT.out] at ha
      have hu := HX.out.2.2 _ (List.getElem_mem hkl)
      have hps : (([pid, psr] ++ x.dests.take k).map nV) ++ [nV x.dests[k]] = (([pid, psr] ++ x.dests.take (k + 1)).map nV) := by
        rw [List.take_succ_eq_append_getElem hkl, ← List.append_assoc, List.map_append (l₂ := [x.dests[k]])]
        rfl
      generalize x.dests[k] = d at *
      subst ha
      have HPS := hide hps
      have hw2 : IntKind.u64.wrap (d : Int) = (d : Int) := by rw [IntKind.wrap_u64]; omega
      clear hps
      go_wp2_with (at_builtin; go_must (refine wpList_append_own_at _ rfl (.tmp 19) (.tmp 26) 63 rfl w.heap.size 22 i0 _ 1 8 Tryz.underlying63 HI.out hz0 hz1 hz2 rfl (by decide) (.slice a (2 + k) c) (2 + k) _ rfl (hrel.out.1.alloc _) _ 1 1 [nV d] rfl rfl (cell_one_at _ _ _ _ (by simp)) (one_num _) (by simp only [maxLen]; omega) (by omega) (by simp; omega) ?_); intro v4 w4 hown' hg hnl hat; have HO4 := hide hown'; have HB4 := hide ((hrel.out.2.1.alloc hsz _).grown hg (by simp; omega) (fun r hr => hge.out r hr)); have HX4 := hide (Blk.grown (hrel.out.2.2.alloc _) hg (Ne.symm (own_blk_ne hrel.out.1 hrel.out.2.2 (by decide)))); clear hown' hg hnl hat)
      obtain ⟨a4, c4, rfl⟩ := own_nums HO4.out
      have HO5 := HO4.out
      rw [HPS.out] at HO5
      have e5 : 2 + k + 1 = 2 + (k + 1) := by omega
      rw [e5] at HO5
      have HR := hide (And.intro HO5 (And.intro HB4.out HX4.out))
      clear HO5
      go_roundw
      case rel => exact ⟨k + 1, a4, c4, by omega, by go_num, by rw [e5], HR⟩
      case measure => simp [intOf]; omega
    · obtain rfl : k = n := by omega
      have hfin := hrel.out
      rw [List.take_of_length_le (by rw [HN.out]; exact Nat.le_refl _)] at hfin
      have HF := hide hfin
      have HKC : Hid ((keyC x).map nV = ([pid, psr] ++ x.dests).map nV) := hide (by rw [HPI.out, HPS.out]; rfl)
      clear hfin hlt hrel
      go_wp2
      unfold NumsV
      go_ret
      exact ⟨a, c, by rw [HLN.out]; rfl, by rw [HLN.out, HKC.out]; exact HF.out.1, HF.out.2.1⟩
end Go.Proofs.YtcnihmlmaigkdaaGreatDoor
namespace Go.Proofs.YtcnihmlmaigkdaaGreatDoor
open Go.RowKit Go.Lib
set_option linter.unusedVariables false

def rowV (r : Row Nat) : Value := .slice r.a r.l.length r.c
/-- A row of rows of numbers: all blocks are of B or later. -/
structure KeysAt (B : Nat) (rs : List (Row Nat)) (a : Option Addr) (c : Nat) (w : World) : Prop where
  top : w.ownsRow B 63 1 (.slice a rs.length c) rs.length (rs.map rowV)
  rows : ∀ r ∈ rs, w.ownsRow B 22 1 (rowV r) r.l.length (r.l.map nV)
section
variable {B B' : Nat} {rs : List (Row Nat)} {a : Option Addr} {c : Nat} {w w' W : World}
theorem KeysAt.nil (B : Nat) (w : World) : KeysAt B [] none 0 w := ⟨World.ownsRow_nil _ _ _ _, fun r hr => by cases hr⟩
theorem KeysAt.below (h : KeysAt B rs a c w) (hb : Below w.heap.size w w') : KeysAt B rs a c w' := ⟨own_below h.top hb, fun r hr => own_below (h.rows r hr) hb⟩
theorem KeysAt.base (h : KeysAt B rs a c w) (hB : B' ≤ B) : KeysAt B' rs a c w := ⟨own_base h.top hB, fun r hr => own_base (h.rows r hr) hB⟩
theorem KeysAt.alloc (h : KeysAt B rs a c w) (o : Obj) : KeysAt B rs a c (w.alloc o) := h.below ((Below.refl _ w).alloc (Nat.le_refl _) o)
theorem KeysAt.drew (h : KeysAt B rs a c w) : KeysAt B rs a c w.drew := h.below (Below.drew (Below.refl _ w))
theorem KeysAt.drewN (h : KeysAt B rs a c w) (q : Nat) : KeysAt B rs a c (w.drewN q) := h.below (below_drewN (Below.refl _ w) q)
theorem KeysAt.push {r : Row Nat} {a4 : Option Addr} {c4 : Nat} (h : KeysAt B rs a c w) (hd : w.ownsRow B 22 1 (rowV r) r.l.length (r.l.map nV)) (ho : W.ownsRow B 63 1 (.slice a4 (rs.length + 1) c4) (rs.length + 1) (rs.map rowV ++ [rowV r])) (hg : w.grownBy W (Value.slice a rs.length c).ownBlock) :
    KeysAt B (rs ++ [r]) a4 c4 W :=
  ⟨by simpa using ho, fun y hy => by
    rcases List.mem_append.1 hy with hy | hy
    · exact (h.rows y hy).kept hg (own_types (h.rows y hy) h.top (by decide))
    · rw [List.mem_singleton] at hy
      subst hy
      exact hd.kept hg (own_types hd h.top (by decide))⟩
/-- An element of the row of rows. -/
theorem KeysAt.at_ (h : KeysAt B rs a c w) (k : Nat) (hk : k < rs.length) : ∃ g, a = some ⟨g, 0, none⟩ ∧ w.cell? ⟨g, k, none⟩ = some (rowV rs[k]) ∧ rs.length ≤ c := by
  obtain ⟨g, cap, e, _, _, hc, _, hx, _⟩ := own_form h.top (by omega)
  injection e with e1 e2 e3
  refine ⟨g, e1, hx k _ ?_, by omega⟩
  rw [List.getElem?_map, List.getElem?_eq_getElem hk]; rfl
theorem KeysAt.row (h : KeysAt B rs a c w) (k : Nat) (hk : k < rs.length) : Reads w w.heap.size 1 rs[k].a rs[k].l.length (rs[k].l.map nV) ∧ rs[k].l.length ≤ rs[k].c := by
  have h1 := h.rows rs[k] (List.getElem_mem hk)
  refine ⟨Reads.of_own h1, ?_⟩
  rcases h1.2 with ⟨hv, h0⟩ | ⟨g, cap, cur, hv, _, _, h2, _⟩
  · rw [h0]; exact Nat.zero_le _
  · injection hv with _ _ e; omega
end
/-- What the reference's Keys leaves. -/
def KeysV (ks : List (List Nat)) (w : World) (e : Ending) (w' : World) : Prop :=
  ∃ rs a c, e = .returned (.slice a rs.length c) ∧ rs.map (·.l) = ks ∧ KeysAt w.heap.size rs a c w' ∧ Below w.heap.size w w'
end Go.Proofs.YtcnihmlmaigkdaaGreatDoor
namespace Go.Proofs.YtcnihmlmaigkdaaGreatDoor
open Go.RowKit Go.Lib
set_option linter.unusedVariables false

/-- What a configuration of bounded size is. -/
structure FitC (c : Cfg) : Prop where
  ok : c.Ok
  parts : c.parts.l.length ≤ 100000
  wins : c.wins.l.length ≤ 100000
  regs : c.regs.l.length ≤ 100000
  ports : c.ports.l.length ≤ 100000
  chans : c.chans.l.length ≤ 100000
  pn : ∀ x ∈ c.parts.l, x.name.size ≤ 1000
  qn : ∀ x ∈ c.ports.l, x.name.size ≤ 1000
  dn : ∀ x ∈ c.chans.l, x.dests.length ≤ 100000
theorem nums_info : (Tryz.prog.info? 63).map (fun i => (i.zero, i.size, i.bytes)) = some (some (.slice none 0 0), 1, 24) := by kernel_rfl
/-- The parameter in its box, all else as it was. -/
def BoxK (w : World) (c : Cfg) (W : World) : Prop :=
  Below w.heap.size w W ∧ Blk W w.heap.size 29 #[.int .u64 (c.frame : Int), .slice c.parts.a c.parts.l.length c.parts.c, .slice c.wins.a c.wins.l.length c.wins.c, .slice c.regs.a c.regs.l.length c.regs.c, .slice c.ports.a c.ports.l.length c.ports.c, .slice c.chans.a c.chans.l.length c.chans.c]
theorem BoxK.start (w : World) (c : Cfg) : BoxK w c (w.alloc (.cells #[.int .u64 (c.frame : Int), .slice c.parts.a c.parts.l.length c.parts.c, .slice c.wins.a c.wins.l.length c.wins.c, .slice c.regs.a c.regs.l.length c.regs.c, .slice c.ports.a c.ports.l.length c.ports.c, .slice c.chans.a c.chans.l.length c.chans.c] 29)) := ⟨(Below.refl _ w).alloc (Nat.le_refl _) _, Blk.new w _ _⟩
theorem BoxK.lt {w W : World} {c : Cfg} (h : BoxK w c W) : w.heap.size < W.heap.size := h.2.lt
theorem BoxK.below {w W W' : World} {c : Cfg} (h : BoxK w c W) (hb : Below W.heap.size W W') : BoxK w c W' := ⟨h.1.trans (hb.mono h.1.size), h.2.below hb h.2.lt⟩
theorem BoxK.cfg {w W : World} {c : Cfg} (hc : CfgAt w.heap.size c w) (h : BoxK w c W) : CfgAt w.heap.size c W := hc.below h.1
/-- In Keys: so many rows are made. -/
def KyS (w : World) (c : Cfg) (ks : List (List Nat)) (a : Option Addr) (n cap : Nat) (W : World) : Prop :=
  BoxK w c W ∧ ∃ rs : List (Row Nat), rs.length = n ∧ rs.map (·.l) = ks ∧ KeysAt w.heap.size rs a cap W
theorem KyS.start (w : World) (c : Cfg) (W : World) (h : BoxK w c W) : KyS w c [] none 0 0 W := ⟨h, [], rfl, rfl, KeysAt.nil _ _⟩
/-- A row more is made, not yet appended. -/
def KyP (w : World) (c : Cfg) (ks : List (List Nat)) (k : List Nat) (a : Option Addr) (n cap : Nat) (a2 : Option Addr) (c2 : Nat) (xs : List Value) (W : World) : Prop :=
  BoxK w c W ∧ ∃ rs : List (Row Nat), rs.length = n ∧ rs.map (·.l) = ks ∧ xs = rs.map rowV ∧ KeysAt w.heap.size rs a cap W ∧ W.ownsRow w.heap.size 22 1 (rowV ⟨k, a2, c2⟩) k.length (k.map nV)
theorem KyS.call {w W : World} {c : Cfg} {ks : List (List Nat)} {k : List Nat} {a : Option Addr} {n cap : Nat} (h : KyS w c ks a n cap W) {e : Ending} {W2 : World} (hk : NumsV k W e W2) :
    ∃ a2 c2 xs, e = .returned (.slice a2 k.length c2) ∧ W2.ownsRow w.heap.size 63 1 (.slice a n cap) n xs ∧ KyP w c ks k a n cap a2 c2 xs W2 := by
  obtain ⟨hB, rs, hn, hl, hK⟩ := h
  obtain ⟨a2, c2, rfl, ho, hb⟩ := hk
  have hK2 := hK.below hb
  have hlt := hB.lt
  subst hn
  exact ⟨a2, c2, rs.map rowV, rfl, hK2.top, hB.below hb, rs, rfl, hl, rfl, hK2, own_base ho (Nat.le_of_lt hlt)⟩
theorem KyP.push {w W W4 : World} {c : Cfg} {ks : List (List Nat)} {k : List Nat} {a a2 : Option Addr} {n cap c2 : Nat} {xs : List Value} {v : Value} {o : Obj} (h : KyP w c ks k a n cap a2 c2 xs W)
    (h4 : W4.ownsRow w.heap.size 63 1 v (n + 1) (xs ++ [.slice a2 k.length c2])) (hg : (W.alloc o).grownBy W4 (Value.slice a n cap).ownBlock) : ∃ a4 c4, v = .slice a4 (n + 1) c4 ∧ KyS w c (ks ++ [k]) a4 (n + 1) c4 W4 := by
  obtain ⟨hB, rs, hn, hl, rfl, hK, hd⟩ := h
  subst hn
  obtain ⟨a4, c4, rfl⟩ := own_slice h4
  have hK3 := hK.alloc o
  have hX3 := hB.2.alloc o
  have hd3 := own_below hd ((Below.refl _ W).alloc (Nat.le_refl _) o)
  have hle : w.heap.size ≤ (W.alloc o).heap.size := by have := hB.lt; simp; omega
  refine ⟨a4, c4, rfl, ⟨(hB.1.alloc (Nat.le_of_lt hB.lt) o).grown hg hle (fun r hr => own_ge hK3.top r hr), Blk.grown hX3 hg (Ne.symm (own_blk_ne hK3.top hX3 (by decide)))⟩, rs ++ [⟨k, a2, c2⟩], by simp, by simp [hl], ?_⟩
  exact hK3.push hd3 h4 hg
theorem KyS.fin {w W : World} {c : Cfg} {ks : List (List Nat)} {a : Option Addr} {n cap : Nat} (h : KyS w c ks a n cap W) : KeysV ks w (.returned (.slice a n cap)) W := by
  obtain ⟨hB, rs, hn, hl, hK⟩ := h
  subst hn
  exact ⟨rs, a, cap, rfl, hl, hK, hB.1⟩
theorem take_keys {α : Type} (f : α → List Nat) (l : List α) (k : Nat) (h : k < l.length) : (l.take k).map f ++ [f l[k]] = (l.take (k + 1)).map f := by
  rw [List.take_succ_eq_append_getElem h, List.map_append]; rfl

set_option maxRecDepth 100000 in
set_option maxHeartbeats 4000000 in
theorem RKeys1_calls (c : Cfg) (w : World) (hc : CfgAt w.heap.size c w) (hf : FitC c) :
    Calls Tryz.prog 30 #[cfgV c, .int .i64 1] w (KeysV (c.parts.l.map keyP) w) := by
  have HC := hide hc
  have HF := hide hf
  obtain ⟨i0, hi, hz0, hz1, hz2⟩ := info_parts nums_info
  have HI := hide hi
  obtain ⟨n, hn⟩ : ∃ n, n = c.parts.l.length := ⟨_, rfl⟩
  have HN := hide hn
  have hnI : (n : Int) ≤ 100000 := by have := hf.parts; omega
  have hcI : (n : Int) ≤ (c.parts.c : Int) := by have := hc.parts.2.1; omega
  have HT0 := hide (KyS.start w c _ (BoxK.start w c))
  have HBC : Hid (∀ W, BoxK w c W → W.cell? ⟨w.heap.size, 1, none⟩ = some (.slice c.parts.a n c.parts.c)) := hide (fun W hW => by rw [hn]; simpa using hW.2.cell 1)
  unfold cfgV
  clear hc hf hi
  go_enter Tryz.func30, Tryz.ntmps30
  go_wp2
  generalize w.alloc (.cells #[.int .u64 (c.frame : Int), .slice c.parts.a c.parts.l.length c.parts.c, .slice c.wins.a c.wins.l.length c.wins.c, .slice c.regs.a c.regs.l.length c.regs.c, .slice c.ports.a c.ports.l.length c.ports.c, .slice c.chans.a c.chans.l.length c.chans.c] 29) = W0 at *
  go_loopw [5, 6] (fun o v wr => ∃ (k : Nat) (a : Option Addr) (cap : Nat), k ≤ n ∧ v = .int .i64 (k : Int) ∧ o = .slice a k cap ∧ Hid (KyS w c ((c.parts.l.take k).map keyP) a k cap wr)) (fun _ v _ => n - (intOf v).toNat)
  case atStart => exact ⟨0, _, _, Nat.zero_le _, rfl, rfl, HT0⟩
  case round =>
    obtain ⟨k, a, cap, hk, rfl, rfl, hrel⟩ := hrel
    have b1 := HBC.out wr hrel.out.1
    by_cases hlt : k < n
    · have hlt2 : (k : Int) < (n : Int) := by omega
      have hkl : k < c.parts.l.length := by have := HN.out; omega
      obtain ⟨b, o, ha, hab, x0, x1, x2, x3⟩ := part_at (HC.out.below hrel.out.1.1).parts k hkl
      rw [ha] at b1
      have HTK := hide (take_keys keyP c.parts.l k hkl)
      have HM := hide (List.getElem_mem hkl)
      generalize c.parts.l[k] = x at *
      have HP := hide (RKPartition_calls x (HF.out.ok.parts _ HM.out) (HF.out.pn _ HM.out) wr)
      clear ha hab
      go_wp2_with (first
        | (go_at_call 65; refine HP.out.mono ?_; intro e w2 hP; obtain ⟨a2, c2, xs, rfl, hO2, hP2⟩ := hrel.out.call hP; have HP2 := hide hP2; have HO2 := hide hO2; have hBz := hP2.1.lt; clear hP hP2 hO2)
        | (at_builtin; refine wpList_append_own_at _ rfl (.tmp 21) (.tmp 28) 60 rfl w.heap.size 63 i0 _ 1 24 Tryz.underlying60 HI.out hz0 hz1 hz2 rfl (by decide) (.slice a k cap) k xs rfl (own_below HO2.out ((Below.refl _ _).alloc (Nat.le_refl _) _)) _ 1 1 [.slice a2 (keyP x).length c2] rfl rfl (cell_one_at _ _ _ _ (by simp)) (by intro u hu; rw [List.mem_singleton] at hu; rw [hu]; rfl) (by simp only [maxLen]; omega) (by omega) (by simp; omega) ?_; intro v4 w4 hown' hg hnl hat; obtain ⟨a4, c4, hv4, hS4⟩ := HP2.out.push hown' hg; subst hv4; have HS4 := hide hS4; clear hown' hg hnl hat hS4))
      have HR := HS4.out
      rw [HTK.out] at HR
      have HR2 := hide HR
      clear HR
      go_roundw
      case rel => exact ⟨k + 1, a4, c4, by omega, by go_num, rfl, HR2⟩
      case measure => simp [intOf]; omega
    · obtain rfl : k = n := by omega
      have hfin := hrel.out
      rw [List.take_of_length_le (by rw [HN.out]; exact Nat.le_refl _)] at hfin
      have HF9 := hide hfin
      clear hfin hlt hrel
      go_wp2
      go_ret
      exact HF9.out.fin
set_option maxRecDepth 100000 in
set_option maxHeartbeats 4000000 in
theorem RKeys2_calls (c : Cfg) (w : World) (hc : CfgAt w.heap.size c w) (hf : FitC c) :
    Calls Tryz.prog 30 #[cfgV c, .int .i64 2] w (KeysV (c.wins.l.map keyW) w) := by
  have HC := hide hc
  have HF := hide hf
  obtain ⟨i0, hi, hz0, hz1, hz2⟩ := info_parts nums_info
  have HI := hide hi
  obtain ⟨n, hn⟩ : ∃ n, n = c.wins.l.length := ⟨_, rfl⟩
  have HN := hide hn
  have hnI : (n : Int) ≤ 100000 := by have := hf.wins; omega
  have hcI : (n : Int) ≤ (c.wins.c : Int) := by have := hc.wins.2.1; omega
  have HT0 := hide (KyS.start w c _ (BoxK.start w c))
  have HBC : Hid (∀ W, BoxK w c W → W.cell? ⟨w.heap.size, 2, none⟩ = some (.slice c.wins.a n c.wins.c)) := hide (fun W hW => by rw [hn]; simpa using hW.2.cell 2)
  unfold cfgV
  clear hc hf hi
  go_enter Tryz.func30, Tryz.ntmps30
  go_wp2
  generalize w.alloc (.cells #[.int .u64 (c.frame : Int), .slice c.parts.a c.parts.l.length c.parts.c, .slice c.wins.a c.wins.l.length c.wins.c, .slice c.regs.a c.regs.l.length c.regs.c, .slice c.ports.a c.ports.l.length c.ports.c, .slice c.chans.a c.chans.l.length c.chans.c] 29) = W0 at *
  go_loopw [5, 7] (fun o v wr => ∃ (k : Nat) (a : Option Addr) (cap : Nat), k ≤ n ∧ v = .int .i64 (k : Int) ∧ o = .slice a k cap ∧ Hid (KyS w c ((c.wins.l.take k).map keyW) a k cap wr)) (fun _ v _ => n - (intOf v).toNat)
  case atStart => exact ⟨0, _, _, Nat.zero_le _, rfl, rfl, HT0⟩
  case round =>
    obtain ⟨k, a, cap, hk, rfl, rfl, hrel⟩ := hrel
    have b1 := HBC.out wr hrel.out.1
    by_cases hlt : k < n
    · have hlt2 : (k : Int) < (n : Int) := by omega
      have hkl : k < c.wins.l.length := by have := HN.out; omega
      obtain ⟨b, o, ha, hab, x0, x1, x2⟩ := win_at (HC.out.below hrel.out.1.1).wins k hkl
      rw [ha] at b1
      have HTK := hide (take_keys keyW c.wins.l k hkl)
      have HM := hide (List.getElem_mem hkl)
      generalize c.wins.l[k] = x at *
      have HP := hide (RKWindow_calls x (HF.out.ok.wins _ HM.out) wr)
      clear ha hab
      go_wp2_with (first
        | (go_at_call 66; refine HP.out.mono ?_; intro e w2 hP; obtain ⟨a2, c2, xs, rfl, hO2, hP2⟩ := hrel.out.call hP; have HP2 := hide hP2; have HO2 := hide hO2; have hBz := hP2.1.lt; clear hP hP2 hO2)
        | (at_builtin; refine wpList_append_own_at _ rfl (.tmp 39) (.tmp 46) 60 rfl w.heap.size 63 i0 _ 1 24 Tryz.underlying60 HI.out hz0 hz1 hz2 rfl (by decide) (.slice a k cap) k xs rfl (own_below HO2.out ((Below.refl _ _).alloc (Nat.le_refl _) _)) _ 1 1 [.slice a2 (keyW x).length c2] rfl rfl (cell_one_at _ _ _ _ (by simp)) (by intro u hu; rw [List.mem_singleton] at hu; rw [hu]; rfl) (by simp only [maxLen]; omega) (by omega) (by simp; omega) ?_; intro v4 w4 hown' hg hnl hat; obtain ⟨a4, c4, hv4, hS4⟩ := HP2.out.push hown' hg; subst hv4; have HS4 := hide hS4; clear hown' hg hnl hat hS4))
      have HR := HS4.out
      rw [HTK.out] at HR
      have HR2 := hide HR
      clear HR
      go_roundw
      case rel => exact ⟨k + 1, a4, c4, by omega, by go_num, rfl, HR2⟩
      case measure => simp [intOf]; omega
    · obtain rfl : k = n := by omega
      have hfin := hrel.out
      rw [List.take_of_length_le (by rw [HN.out]; exact Nat.le_refl _)] at hfin
      have HF9 := hide hfin
      clear hfin hlt hrel
      go_wp2
      go_ret
      exact HF9.out.fin
set_option maxRecDepth 100000 in
set_option maxHeartbeats 4000000 in
theorem RKeys3_calls (c : Cfg) (w : World) (hc : CfgAt w.heap.size c w) (hf : FitC c) :
    Calls Tryz.prog 30 #[cfgV c, .int .i64 3] w (KeysV (c.regs.l.map keyR) w) := by
  have HC := hide hc
  have HF := hide hf
  obtain ⟨i0, hi, hz0, hz1, hz2⟩ := info_parts nums_info
  have HI := hide hi
  obtain ⟨n, hn⟩ : ∃ n, n = c.regs.l.length := ⟨_, rfl⟩
  have HN := hide hn
  have hnI : (n : Int) ≤ 100000 := by have := hf.regs; omega
  have hcI : (n : Int) ≤ (c.regs.c : Int) := by have := hc.regs.2.1; omega
  have HT0 := hide (KyS.start w c _ (BoxK.start w c))
  have HBC : Hid (∀ W, BoxK w c W → W.cell? ⟨w.heap.size, 3, none⟩ = some (.slice c.regs.a n c.regs.c)) := hide (fun W hW => by rw [hn]; simpa using hW.2.cell 3)
  unfold cfgV
  clear hc hf hi
  go_enter Tryz.func30, Tryz.ntmps30
  go_wp2
  generalize w.alloc (.cells #[.int .u64 (c.frame : Int), .slice c.parts.a c.parts.l.length c.parts.c, .slice c.wins.a c.wins.l.length c.wins.c, .slice c.regs.a c.regs.l.length c.regs.c, .slice c.ports.a c.ports.l.length c.ports.c, .slice c.chans.a c.chans.l.length c.chans.c] 29) = W0 at *
  go_loopw [5, 8] (fun o v wr => ∃ (k : Nat) (a : Option Addr) (cap : Nat), k ≤ n ∧ v = .int .i64 (k : Int) ∧ o = .slice a k cap ∧ Hid (KyS w c ((c.regs.l.take k).map keyR) a k cap wr)) (fun _ v _ => n - (intOf v).toNat)
  case atStart => exact ⟨0, _, _, Nat.zero_le _, rfl, rfl, HT0⟩
  case round =>
    obtain ⟨k, a, cap, hk, rfl, rfl, hrel⟩ := hrel
    have b1 := HBC.out wr hrel.out.1
    by_cases hlt : k < n
    · have hlt2 : (k : Int) < (n : Int) := by omega
      have hkl : k < c.regs.l.length := by have := HN.out; omega
      obtain ⟨b, o, ha, hab, x0, x1, x2, x3, x4⟩ := reg_at (HC.out.below hrel.out.1.1).regs k hkl
      rw [ha] at b1
      have HTK := hide (take_keys keyR c.regs.l k hkl)
      have HM := hide (List.getElem_mem hkl)
      generalize c.regs.l[k] = x at *
      have HP := hide (RKRegion_calls x (HF.out.ok.regs _ HM.out) wr)
      clear ha hab
      go_wp2_with (first
        | (go_at_call 67; refine HP.out.mono ?_; intro e w2 hP; obtain ⟨a2, c2, xs, rfl, hO2, hP2⟩ := hrel.out.call hP; have HP2 := hide hP2; have HO2 := hide hO2; have hBz := hP2.1.lt; clear hP hP2 hO2)
        | (at_builtin; refine wpList_append_own_at _ rfl (.tmp 57) (.tmp 64) 60 rfl w.heap.size 63 i0 _ 1 24 Tryz.underlying60 HI.out hz0 hz1 hz2 rfl (by decide) (.slice a k cap) k xs rfl (own_below HO2.out ((Below.refl _ _).alloc (Nat.le_refl _) _)) _ 1 1 [.slice a2 (keyR x).length c2] rfl rfl (cell_one_at _ _ _ _ (by simp)) (by intro u hu; rw [List.mem_singleton] at hu; rw [hu]; rfl) (by simp only [maxLen]; omega) (by omega) (by simp; omega) ?_; intro v4 w4 hown' hg hnl hat; obtain ⟨a4, c4, hv4, hS4⟩ := HP2.out.push hown' hg; subst hv4; have HS4 := hide hS4; clear hown' hg hnl hat hS4))
      have HR := HS4.out
      rw [HTK.out] at HR
      have HR2 := hide HR
      clear HR
      go_roundw
      case rel => exact ⟨k + 1, a4, c4, by omega, by go_num, rfl, HR2⟩
      case measure => simp [intOf]; omega
    · obtain rfl : k = n := by omega
      have hfin := hrel.out
      rw [List.take_of_length_le (by rw [HN.out]; exact Nat.le_refl _)] at hfin
      have HF9 := hide hfin
      clear hfin hlt hrel
      go_wp2
      go_ret
      exact HF9.out.fin
set_option maxRecDepth 100000 in
set_option maxHeartbeats 4000000 in
theorem RKeys4_calls (c : Cfg) (w : World) (hc : CfgAt w.heap.size c w) (hf : FitC c) :
    Calls Tryz.prog 30 #[cfgV c, .int .i64 4] w (KeysV (c.ports.l.map keyQ) w) := by
  have HC := hide hc
  have HF := hide hf
  obtain ⟨i0, hi, hz0, hz1, hz2⟩ := info_parts nums_info
  have HI := hide hi
  obtain ⟨n, hn⟩ : ∃ n, n = c.ports.l.length := ⟨_, rfl⟩
  have HN := hide hn
  have hnI : (n : Int) ≤ 100000 := by have := hf.ports; omega
  have hcI : (n : Int) ≤ (c.ports.c : Int) := by have := hc.ports.2.1; omega
  have HT0 := hide (KyS.start w c _ (BoxK.start w c))
  have HBC : Hid (∀ W, BoxK w c W → W.cell? ⟨w.heap.size, 4, none⟩ = some (.slice c.ports.a n c.ports.c)) := hide (fun W hW => by rw [hn]; simpa using hW.2.cell 4)
  unfold cfgV
  clear hc hf hi
  go_enter Tryz.func30, Tryz.ntmps30
  go_wp2
  generalize w.alloc (.cells #[.int .u64 (c.frame : Int), .slice c.parts.a c.parts.l.length c.parts.c, .slice c.wins.a c.wins.l.length c.wins.c, .slice c.regs.a c.regs.l.length c.regs.c, .slice c.ports.a c.ports.l.length c.ports.c, .slice c.chans.a c.chans.l.length c.chans.c] 29) = W0 at *
  go_loopw [5, 9] (fun o v wr => ∃ (k : Nat) (a : Option Addr) (cap : Nat), k ≤ n ∧ v = .int .i64 (k : Int) ∧ o = .slice a k cap ∧ Hid (KyS w c ((c.ports.l.take k).map keyQ) a k cap wr)) (fun _ v _ => n - (intOf v).toNat)
  case atStart => exact ⟨0, _, _, Nat.zero_le _, rfl, rfl, HT0⟩
  case round =>
    obtain ⟨k, a, cap, hk, rfl, rfl, hrel⟩ := hrel
    have b1 := HBC.out wr hrel.out.1
    by_cases hlt : k < n
    · have hlt2 : (k : Int) < (n : Int) := by omega
      have hkl : k < c.ports.l.length := by have := HN.out; omega
      obtain ⟨b, o, ha, hab, x0, x1, x2, x3, x4, x5⟩ := port_at (HC.out.below hrel.out.1.1).ports k hkl
      rw [ha] at b1
      have HTK := hide (take_keys keyQ c.ports.l k hkl)
      have HM := hide (List.getElem_mem hkl)
      generalize c.ports.l[k] = x at *
      have HP := hide (RKPort_calls x (HF.out.ok.ports _ HM.out) (HF.out.qn _ HM.out) wr)
      clear ha hab
      go_wp2_with (first
        | (go_at_call 68; refine HP.out.mono ?_; intro e w2 hP; obtain ⟨a2, c2, xs, rfl, hO2, hP2⟩ := hrel.out.call hP; have HP2 := hide hP2; have HO2 := hide hO2; have hBz := hP2.1.lt; clear hP hP2 hO2)
        | (at_builtin; refine wpList_append_own_at _ rfl (.tmp 75) (.tmp 82) 60 rfl w.heap.size 63 i0 _ 1 24 Tryz.underlying60 HI.out hz0 hz1 hz2 rfl (by decide) (.slice a k cap) k xs rfl (own_below HO2.out ((Below.refl _ _).alloc (Nat.le_refl _) _)) _ 1 1 [.slice a2 (keyQ x).length c2] rfl rfl (cell_one_at _ _ _ _ (by simp)) (by intro u hu; rw [List.mem_singleton] at hu; rw [hu]; rfl) (by simp only [maxLen]; omega) (by omega) (by simp; omega) ?_; intro v4 w4 hown' hg hnl hat; obtain ⟨a4, c4, hv4, hS4⟩ := HP2.out.push hown' hg; subst hv4; have HS4 := hide hS4; clear hown' hg hnl hat hS4))
      have HR := HS4.out
      rw [HTK.out] at HR
      have HR2 := hide HR
      clear HR
      go_roundw
      case rel => exact ⟨k + 1, a4, c4, by omega, by go_num, rfl, HR2⟩
      case measure => simp [intOf]; omega
    · obtain rfl : k = n := by omega
      have hfin := hrel.out
      rw [List.take_of_length_le (by rw [HN.out]; exact Nat.le_refl _)] at hfin
      have HF9 := hide hfin
      clear hfin hlt hrel
      go_wp2
      go_ret
      exact HF9.out.fin
set_option maxRecDepth 100000 in
set_option maxHeartbeats 4000000 in
theorem RKeys5_calls (c : Cfg) (w : World) (hc : CfgAt w.heap.size c w) (hf : FitC c) :
    Calls Tryz.prog 30 #[cfgV c, .int .i64 5] w (KeysV (c.chans.l.map keyC) w) := by
  have HC := hide hc
  have HF := hide hf
  obtain ⟨i0, hi, hz0, hz1, hz2⟩ := info_parts nums_info
  have HI := hide hi
  obtain ⟨n, hn⟩ : ∃ n, n = c.chans.l.length := ⟨_, rfl⟩
  have HN := hide hn
  have hnI : (n : Int) ≤ 100000 := by have := hf.chans; omega
  have hcI : (n : Int) ≤ (c.chans.c : Int) := by have := hc.chans.2.1; omega
  have HT0 := hide (KyS.start w c _ (BoxK.start w c))
  have HBC : Hid (∀ W, BoxK w c W → W.cell? ⟨w.heap.size, 5, none⟩ = some (.slice c.chans.a n c.chans.c)) := hide (fun W hW => by rw [hn]; simpa using hW.2.cell 5)
  unfold cfgV
  clear hc hf hi
  go_enter Tryz.func30, Tryz.ntmps30
  go_wp2
  generalize w.alloc (.cells #[.int .u64 (c.frame : Int), .slice c.parts.a c.parts.l.length c.parts.c, .slice c.wins.a c.wins.l.length c.wins.c, .slice c.regs.a c.regs.l.length c.regs.c, .slice c.ports.a c.ports.l.length c.ports.c, .slice c.chans.a c.chans.l.length c.chans.c] 29) = W0 at *
  go_loopw [5, 10] (fun o v wr => ∃ (k : Nat) (a : Option Addr) (cap : Nat), k ≤ n ∧ v = .int .i64 (k : Int) ∧ o = .slice a k cap ∧ Hid (KyS w c ((c.chans.l.take k).map keyC) a k cap wr)) (fun _ v _ => n - (intOf v).toNat)
  case atStart => exact ⟨0, _, _, Nat.zero_le _, rfl, rfl, HT0⟩
  case round =>
    obtain ⟨k, a, cap, hk, rfl, rfl, hrel⟩ := hrel
    have b1 := HBC.out wr hrel.out.1
    by_cases hlt : k < n
    · have hlt2 : (k : Int) < (n : Int) := by omega
      have hkl : k < c.chans.l.length := by have := HN.out; omega
      obtain ⟨b, o, ha, hab, x0, x1, x2⟩ := chan_at (HC.out.below hrel.out.1.1).chans k hkl
      rw [ha] at b1
      have HTK := hide (take_keys keyC c.chans.l k hkl)
      have HM := hide (List.getElem_mem hkl)
      generalize c.chans.l[k] = x at *
      have HP := hide (RKChannel_calls x (HF.out.ok.chans _ HM.out) wr (DestsAt.more (DestsAt.below ((HC.out).dests _ HM.out) (Below.mono hrel.out.1.1 (Nat.le_refl _))) (Nat.le_of_lt hrel.out.1.lt)) (HF.out.dn _ HM.out))
      clear ha hab
      go_wp2_with (first
        | (go_at_call 69; refine HP.out.mono ?_; intro e w2 hP; obtain ⟨a2, c2, xs, rfl, hO2, hP2⟩ := hrel.out.call hP; have HP2 := hide hP2; have HO2 := hide hO2; have hBz := hP2.1.lt; clear hP hP2 hO2)
        | (at_builtin; refine wpList_append_own_at _ rfl (.tmp 93) (.tmp 100) 60 rfl w.heap.size 63 i0 _ 1 24 Tryz.underlying60 HI.out hz0 hz1 hz2 rfl (by decide) (.slice a k cap) k xs rfl (own_below HO2.out ((Below.refl _ _).alloc (Nat.le_refl _) _)) _ 1 1 [.slice a2 (keyC x).length c2] rfl rfl (cell_one_at _ _ _ _ (by simp)) (by intro u hu; rw [List.mem_singleton] at hu; rw [hu]; rfl) (by simp only [maxLen]; omega) (by omega) (by simp; omega) ?_; intro v4 w4 hown' hg hnl hat; obtain ⟨a4, c4, hv4, hS4⟩ := HP2.out.push hown' hg; subst hv4; have HS4 := hide hS4; clear hown' hg hnl hat hS4))
      have HR := HS4.out
      rw [HTK.out] at HR
      have HR2 := hide HR
      clear HR
      go_roundw
      case rel => exact ⟨k + 1, a4, c4, by omega, by go_num, rfl, HR2⟩
      case measure => simp [intOf]; omega
    · obtain rfl : k = n := by omega
      have hfin := hrel.out
      rw [List.take_of_length_le (by rw [HN.out]; exact Nat.le_refl _)] at hfin
      have HF9 := hide hfin
      clear hfin hlt hrel
      go_wp2
      go_ret
      exact HF9.out.fin
end Go.Proofs.YtcnihmlmaigkdaaGreatDoor
namespace Go.Proofs.YtcnihmlmaigkdaaGreatDoor
open Go.RowKit Go.Lib
set_option linter.unusedVariables false

def lessLK : List Nat → List Nat → Bool
  | [], [] => false
  | [], _ :: _ => true
  | _ :: _, [] => false
  | a :: l, b :: m => if a = b then lessLK l m else decide (a < b)
theorem less_selfK : ∀ l : List Nat, lessLK l l = false
  | [] => rfl
  | a :: l => by rw [lessLK, if_pos rfl]; exact less_selfK l
theorem less_eqK : ∀ {l m : List Nat}, lessLK l m = false → lessLK m l = false → l = m
  | [], [], _, _ => rfl
  | [], b :: m, h, _ => by cases h
  | a :: l, [], _, h => by cases h
  | a :: l, b :: m, h, k => by
    rw [lessLK] at h k
    by_cases e : a = b
    · subst e
      rw [if_pos rfl] at h k
      rw [less_eqK h k]
    · rw [if_neg e] at h
      rw [if_neg (fun x => e x.symm)] at k
      rw [decide_eq_false_iff_not] at h k
      omega
theorem less_orK (l m : List Nat) : (lessLK l m || lessLK m l) = !decide (l = m) := by
  by_cases e : l = m
  · subst e; rw [less_selfK]; simp
  · rw [decide_eq_false e]
    cases h : lessLK l m with
    | true => rfl
    | false =>
      cases k : lessLK m l with
      | true => rfl
      | false => exact absurd (less_eqK h k) e
theorem less_dropK : ∀ (k : Nat) (l m : List Nat), k ≤ l.length → k ≤ m.length → l.take k = m.take k → lessLK l m = lessLK (l.drop k) (m.drop k)
  | 0, l, m, _, _, _ => rfl
  | k + 1, [], m, h, _, _ => by simp at h
  | k + 1, a :: l, [], _, h, _ => by simp at h
  | k + 1, a :: l, b :: m, h1, h2, h3 => by
    simp only [List.take_succ_cons, List.cons.injEq] at h3
    obtain ⟨rfl, h3⟩ := h3
    rw [lessLK, if_pos rfl]
    exact less_dropK k l m (by simpa using h1) (by simpa using h2) h3
theorem ret_bK {a b : Bool} (h : a = b) : Ending.returned (.bool a) = .returned (.bool b) := by rw [h]
theorem num_atK {w : World} {B : Nat} {A : Option Addr} {l : List Nat} (h : Reads w B 1 A l.length (l.map nV)) (k : Nat) (hk : k < l.length) : ∃ b o, A = some ⟨b, o, none⟩ ∧ b < B ∧ w.cell? ⟨b, o + k, none⟩ = some (.int .u64 (l[k] : Int)) := by
  obtain ⟨ad, u, rfl, hb, hx, hc⟩ := h.at_ hk
  have hu : u = .int .u64 (l[k] : Int) := by
    rw [List.getElem?_map, List.getElem?_eq_getElem hk] at hx
    injection hx with hx
    exact hx.symm
  subst hu
  obtain ⟨_, u0, e0, _, _, hc0⟩ := h.at_ (k := 0) (by omega)
  injection e0 with e0
  subst e0
  have hz := addr_of_cell hc0
  obtain ⟨b, o, p⟩ := ad
  have hp : p = none := by
    have := congrArg Addr.spot hz
    simpa [Addr.add] using this
  subst hp
  rw [addr_plain] at hc
  exact ⟨b, o, rfl, hb, hc⟩
set_option maxRecDepth 100000 in
set_option maxHeartbeats 4000000 in
theorem less_callsK (l m : List Nat) (A D : Option Addr) (cA cD : Nat) (w : World) (hl : Reads w w.heap.size 1 A l.length (l.map nV)) (hm : Reads w w.heap.size 1 D m.length (m.map nV)) (hcl : l.length ≤ cA) (hcm : m.length ≤ cD) (h1 : l.length ≤ 1000000) (h2 : m.length ≤ 1000000) :
    Calls Tryz.prog 31 #[.slice A l.length cA, .slice D m.length cD] w fun e w' => e = .returned (.bool (lessLK l m)) ∧ ∃ q, w' = w.drewN q := by
  have HL := hide hl
  have HM := hide hm
  obtain ⟨R, hR⟩ : ∃ R, R = lessLK l m := ⟨_, rfl⟩
  rw [← hR]
  have HR := hide hR
  obtain ⟨n, hn⟩ : ∃ n, n = l.length := ⟨_, rfl⟩
  obtain ⟨p, hp⟩ : ∃ p, p = m.length := ⟨_, rfl⟩
  have HN := hide hn
  have HP := hide hp
  rw [← hn, ← hp]
  rw [← hn] at hcl h1
  rw [← hp] at hcm h2
  have i1 : (n : Int) ≤ 1000000 := by omega
  have i2 : (p : Int) ≤ 1000000 := by omega
  have i3 : (n : Int) ≤ (cA : Int) := by omega
  have i4 : (p : Int) ≤ (cD : Int) := by omega
  clear hl hm hR hn hp hcl hcm h1 h2
  go_enter Tryz.func31, Tryz.ntmps31
  go_wp2
  go_loopw [5] (fun v wr => ∃ k : Nat, k ≤ n ∧ k ≤ p ∧ v = .int .i64 (k : Int) ∧ Hid (l.take k = m.take k) ∧ ∃ q, wr = w.drewN q) (fun v _ => n - (intOf v).toNat)
  case atStart => exact ⟨0, Nat.zero_le _, Nat.zero_le _, rfl, hide rfl, 0, rfl⟩
  case round =>
    obtain ⟨k, hk, hk2, rfl, hrel, q, rfl⟩ := hrel
    by_cases hlt : k < n
    · have d1 : decide ((k : Int) < (n : Int)) = true := by simp; omega
      have d1' : decide (k < n) = true := by simp; omega
      by_cases hlt2 : k < p
      · have d2 : decide ((k : Int) < (p : Int)) = true := by simp; omega
        have d2' : decide (k < p) = true := by simp; omega
        have hkl : k < l.length := by have := HN.out; omega
        have hkm : k < m.length := by have := HP.out; omega
        obtain ⟨b, o, rfl, hb, x0⟩ := num_atK HL.out k hkl
        obtain ⟨b', o', rfl, hb', y0⟩ := num_atK HM.out k hkm
        have hkI : (0 : Int) ≤ (k : Int) := by omega
        have hkN : (k : Int) < (n : Int) := by omega
        have hkP : (k : Int) < (p : Int) := by omega
        have hdr : lessLK (l.drop k) (m.drop k) = if l[k] = m[k] then lessLK (l.drop (k + 1)) (m.drop (k + 1)) else decide (l[k] < m[k]) := by
          rw [List.drop_eq_getElem_cons hkl, List.drop_eq_getElem_cons hkm, lessLK]
        have hld := less_dropK k l m (by omega) (by omega) hrel.out
        by_cases he : l[k] = m[k]
        · have htk : l.take (k + 1) = m.take (k + 1) := by rw [List.take_succ_eq_append_getElem hkl, List.take_succ_eq_append_getElem hkm, hrel.out, he]
          have HT := hide htk
          have e1 : ((l[k] : Int) != (m[k] : Int)) = false := by rw [he]; simp
          generalize l[k] = x at *
          generalize m[k] = y at *
          clear htk hdr hld he
          go_wp2
          go_quiet (fail)
          go_wp2
          go_roundw
          case rel => exact ⟨k + 1, by omega, by omega, by go_num, HT, _, rfl⟩
          case measure => simp [intOf]; omega
        · have e1 : ((l[k] : Int) != (m[k] : Int)) = true := by rw [bne_iff_ne]; intro h; exact he (by exact_mod_cast h)
          have HT : Hid (R = decide (l[k] < m[k])) := hide (by rw [HR.out, hld, hdr, if_neg he])
          generalize l[k] = x at *
          generalize m[k] = y at *
          clear hdr hld he
          go_wp2
          go_quiet (fail)
          go_wp2
          go_quiet (fail)
          go_wp2
          go_ret
          exact ⟨ret_bK (by rw [HT.out]), _, by rw [World.drewN_drewN, World.drewN_drewN]⟩
      · have d2 : decide ((k : Int) < (p : Int)) = false := by simp; omega
        have d2' : decide (k < p) = false := by simp; omega
        obtain rfl : k = p := by omega
        have HT : Hid (R = decide (n < k)) := hide (by
          have hd := less_dropK k l m (by have := HN.out; omega) (by have := HP.out; omega) hrel.out
          rw [HR.out, hd]
          have e : m.drop k = [] := List.drop_eq_nil_of_le (by have := HP.out; omega)
          rw [e]
          have hkl : k < l.length := by have := HN.out; omega
          rw [List.drop_eq_getElem_cons hkl]
          simp [lessLK]; omega)
        go_wp2
        go_ret
        exact ⟨ret_bK (by rw [HT.out]), _, rfl⟩
    · have d1 : decide ((k : Int) < (n : Int)) = false := by simp; omega
      have d1' : decide (k < n) = false := by simp; omega
      obtain rfl : k = n := by omega
      have HT : Hid (R = decide (k < p)) := hide (by
        have hd := less_dropK k l m (by have := HN.out; omega) (by have := HP.out; omega) hrel.out
        rw [HR.out, hd]
        have e : l.drop k = [] := List.drop_eq_nil_of_le (by have := HN.out; omega)
        rw [e]
        by_cases hkp : k < p
        · have hkm : k < m.length := by have := HP.out; omega
          rw [List.drop_eq_getElem_cons hkm, decide_eq_true hkp]; rfl
        · have e2 : m.drop k = [] := List.drop_eq_nil_of_le (by have := HP.out; omega)
          rw [e2, decide_eq_false hkp]; rfl)
      go_wp2
      go_ret
      exact ⟨ret_bK (by rw [HT.out]), _, rfl⟩
end Go.Proofs.YtcnihmlmaigkdaaGreatDoor
namespace Go.Proofs.YtcnihmlmaigkdaaGreatDoor
open Go.RowKit Go.Lib
set_option linter.unusedVariables false

/-- The rows of numbers of a section (XShSame's keysOf). -/
def kysOf (c : Cfg) : Nat → List (List Nat)
  | 1 => c.parts.l.map keyP
  | 2 => c.wins.l.map keyW
  | 3 => c.regs.l.map keyR
  | 4 => c.ports.l.map keyQ
  | 5 => c.chans.l.map keyC
  | _ => []
/-- What Same answers (XShSame's sameB). -/
def sameK (a b : Cfg) : Bool := decide (a.frame = b.frame) && (List.range 5).all fun s => decide (kysOf a (s + 1) = kysOf b (s + 1))
theorem RKeys_calls (c : Cfg) (s : Nat) (h1 : 1 ≤ s) (h5 : s ≤ 5) (w : World) (hc : CfgAt w.heap.size c w) (hf : FitC c) :
    Calls Tryz.prog 30 #[cfgV c, .int .i64 (s : Int)] w (KeysV (kysOf c s) w) := by
  have h : s = 1 ∨ s = 2 ∨ s = 3 ∨ s = 4 ∨ s = 5 := by omega
  rcases h with rfl | rfl | rfl | rfl | rfl
  · exact RKeys1_calls c w hc hf
  · exact RKeys2_calls c w hc hf
  · exact RKeys3_calls c w hc hf
  · exact RKeys4_calls c w hc hf
  · exact RKeys5_calls c w hc hf
/-- Both parameters in their boxes. -/
def Box2 (w : World) (a b : Cfg) (W : World) : Prop :=
  Below w.heap.size w W ∧ Blk W w.heap.size 29 #[.int .u64 (a.frame : Int), .slice a.parts.a a.parts.l.length a.parts.c, .slice a.wins.a a.wins.l.length a.wins.c, .slice a.regs.a a.regs.l.length a.regs.c, .slice a.ports.a a.ports.l.length a.ports.c, .slice a.chans.a a.chans.l.length a.chans.c] ∧ Blk W (w.heap.size + 1) 29 #[.int .u64 (b.frame : Int), .slice b.parts.a b.parts.l.length b.parts.c, .slice b.wins.a b.wins.l.length b.wins.c, .slice b.regs.a b.regs.l.length b.regs.c, .slice b.ports.a b.ports.l.length b.ports.c, .slice b.chans.a b.chans.l.length b.chans.c]
section
variable {w W W' : World} {a b : Cfg}
theorem Box2.lt (h : Box2 w a b W) : w.heap.size + 1 < W.heap.size := h.2.2.lt
theorem Box2.below (h : Box2 w a b W) (hb : Below W.heap.size W W') : Box2 w a b W' := ⟨h.1.trans (hb.mono h.1.size), h.2.1.below hb h.2.1.lt, h.2.2.below hb h.2.2.lt⟩
theorem Box2.ca (h : Box2 w a b W) : W.cell? ⟨w.heap.size, 0, none⟩ = some (.int .u64 (a.frame : Int)) ∧ W.cell? ⟨w.heap.size, 1, none⟩ = some (.slice a.parts.a a.parts.l.length a.parts.c) ∧ W.cell? ⟨w.heap.size, 2, none⟩ = some (.slice a.wins.a a.wins.l.length a.wins.c) ∧ W.cell? ⟨w.heap.size, 3, none⟩ = some (.slice a.regs.a a.regs.l.length a.regs.c) ∧ W.cell? ⟨w.heap.size, 4, none⟩ = some (.slice a.ports.a a.ports.l.length a.ports.c) ∧ W.cell? ⟨w.heap.size, 5, none⟩ = some (.slice a.chans.a a.chans.l.length a.chans.c) :=
  ⟨h.2.1.cell 0, h.2.1.cell 1, h.2.1.cell 2, h.2.1.cell 3, h.2.1.cell 4, h.2.1.cell 5⟩
theorem Box2.cb (h : Box2 w a b W) : W.cell? ⟨w.heap.size + 1, 0, none⟩ = some (.int .u64 (b.frame : Int)) ∧ W.cell? ⟨w.heap.size + 1, 1, none⟩ = some (.slice b.parts.a b.parts.l.length b.parts.c) ∧ W.cell? ⟨w.heap.size + 1, 2, none⟩ = some (.slice b.wins.a b.wins.l.length b.wins.c) ∧ W.cell? ⟨w.heap.size + 1, 3, none⟩ = some (.slice b.regs.a b.regs.l.length b.regs.c) ∧ W.cell? ⟨w.heap.size + 1, 4, none⟩ = some (.slice b.ports.a b.ports.l.length b.ports.c) ∧ W.cell? ⟨w.heap.size + 1, 5, none⟩ = some (.slice b.chans.a b.chans.l.length b.chans.c) :=
  ⟨h.2.2.cell 0, h.2.2.cell 1, h.2.2.cell 2, h.2.2.cell 3, h.2.2.cell 4, h.2.2.cell 5⟩
end
theorem same_false_frame {a b : Cfg} (h : a.frame ≠ b.frame) : sameK a b = false := by
  unfold sameK; rw [decide_eq_false h]; rfl
theorem same_false_keys {a b : Cfg} (s : Nat) (h1 : 1 ≤ s) (h5 : s ≤ 5) (h : kysOf a s ≠ kysOf b s) : sameK a b = false := by
  cases hs : sameK a b with
  | false => rfl
  | true =>
    exfalso
    unfold sameK at hs
    rw [Bool.and_eq_true, List.all_eq_true] at hs
    have := hs.2 (s - 1) (List.mem_range.2 (by omega))
    rw [decide_eq_true_eq, show s - 1 + 1 = s by omega] at this
    exact h this
theorem same_true {a b : Cfg} (hf : a.frame = b.frame) (h : ∀ s, 1 ≤ s → s < 6 → kysOf a s = kysOf b s) : sameK a b = true := by
  unfold sameK
  rw [Bool.and_eq_true, List.all_eq_true]
  refine ⟨by rw [decide_eq_true_eq]; exact hf, fun s hs => ?_⟩
  rw [decide_eq_true_eq]
  exact h (s + 1) (by omega) (by have := List.mem_range.1 hs; omega)
theorem take_all_eq {α : Type} {l m : List α} {n : Nat} (hl : l.length = n) (hm : m.length = n) (h : l.take n = m.take n) : l = m := by
  rwa [List.take_of_length_le (by omega), List.take_of_length_le (by omega)] at h
theorem textN_len (s : ByteArray) : (textN s).length = s.size + 1 := by simp [textN]
theorem keys_fit (c : Cfg) (h : FitC c) (s : Nat) (h1 : 1 ≤ s) (h5 : s ≤ 5) : (kysOf c s).length ≤ 100000 ∧ ∀ k ∈ kysOf c s, k.length ≤ 1000000 := by
  have hs : s = 1 ∨ s = 2 ∨ s = 3 ∨ s = 4 ∨ s = 5 := by omega
  rcases hs with rfl | rfl | rfl | rfl | rfl
  · refine ⟨by simpa [kysOf] using h.parts, fun k hk => ?_⟩
    obtain ⟨x, hx, rfl⟩ := List.mem_map.1 (show k ∈ c.parts.l.map keyP from hk)
    have := h.pn x hx
    simp [keyP, textN_len]; omega
  · refine ⟨by simpa [kysOf] using h.wins, fun k hk => ?_⟩
    obtain ⟨x, hx, rfl⟩ := List.mem_map.1 (show k ∈ c.wins.l.map keyW from hk)
    simp [keyW]
  · refine ⟨by simpa [kysOf] using h.regs, fun k hk => ?_⟩
    obtain ⟨x, hx, rfl⟩ := List.mem_map.1 (show k ∈ c.regs.l.map keyR from hk)
    simp [keyR]
  · refine ⟨by simpa [kysOf] using h.ports, fun k hk => ?_⟩
    obtain ⟨x, hx, rfl⟩ := List.mem_map.1 (show k ∈ c.ports.l.map keyQ from hk)
    have := h.qn x hx
    simp [keyQ, textN_len]; omega
  · refine ⟨by simpa [kysOf] using h.chans, fun k hk => ?_⟩
    obtain ⟨x, hx, rfl⟩ := List.mem_map.1 (show k ∈ c.chans.l.map keyC from hk)
    have := h.dn x hx
    simp [keyC]; omega
theorem ret_bE {a b : Bool} (h : a = b) : Ending.returned (.bool a) = .returned (.bool b) := by rw [h]
set_option maxRecDepth 100000 in
set_option maxHeartbeats 1000000 in
theorem RSame_calls (a b : Cfg) (w : World) (ha : CfgAt w.heap.size a w) (hb : CfgAt w.heap.size b w) (fa : FitC a) (fb : FitC b) :
    Calls Tryz.prog 14 #[cfgV a, cfgV b] w fun e w' => e = .returned (.bool (sameK a b)) ∧ Below w.heap.size w w' := by
  have HKA : Hid (∀ s : Nat, 1 ≤ s → s ≤ 5 → ∀ W, Box2 w a b W → Calls Tryz.prog 30 #[cfgV a, .int .i64 (s : Int)] W (KeysV (kysOf a s) W)) := hide (fun s h1 h5 W hW => RKeys_calls a s h1 h5 W (CfgAt.more (ha.below hW.1) hW.1.size) fa)
  have HKB : Hid (∀ s : Nat, 1 ≤ s → s ≤ 5 → ∀ W, Box2 w a b W → Calls Tryz.prog 30 #[cfgV b, .int .i64 (s : Int)] W (KeysV (kysOf b s) W)) := hide (fun s h1 h5 W hW => RKeys_calls b s h1 h5 W (CfgAt.more (hb.below hW.1) hW.1.size) fb)
  have HLA : Hid (∀ s : Nat, 1 ≤ s → s ≤ 5 → (kysOf a s).length ≤ 100000 ∧ ∀ k ∈ kysOf a s, k.length ≤ 1000000) := hide (fun s h1 h5 => keys_fit a fa s h1 h5)
  have HLB : Hid (∀ s : Nat, 1 ≤ s → s ≤ 5 → (kysOf b s).length ≤ 100000 ∧ ∀ k ∈ kysOf b s, k.length ≤ 1000000) := hide (fun s h1 h5 => keys_fit b fb s h1 h5)
  obtain ⟨R, hR⟩ : ∃ R, R = sameK a b := ⟨_, rfl⟩
  rw [← hR]
  have HR := hide hR
  have hB0 : Box2 w a b ((w.alloc (.cells #[.int .u64 (a.frame : Int), .slice a.parts.a a.parts.l.length a.parts.c, .slice a.wins.a a.wins.l.length a.wins.c, .slice a.regs.a a.regs.l.length a.regs.c, .slice a.ports.a a.ports.l.length a.ports.c, .slice a.chans.a a.chans.l.length a.chans.c] 29)).alloc (.cells #[.int .u64 (b.frame : Int), .slice b.parts.a b.parts.l.length b.parts.c, .slice b.wins.a b.wins.l.length b.wins.c, .slice b.regs.a b.regs.l.length b.regs.c, .slice b.ports.a b.ports.l.length b.ports.c, .slice b.chans.a b.chans.l.length b.chans.c] 29)) :=
    ⟨((Below.refl _ w).alloc (Nat.le_refl _) _).alloc (by simp) _, (Blk.new w _ _).alloc _, Blk.newAt (by simp)⟩
  have HB0 := hide hB0
  obtain ⟨p0, p1, p2, p3, p4, p5⟩ := hB0.ca
  obtain ⟨q0, q1, q2, q3, q4, q5⟩ := hB0.cb
  unfold cfgV at HKA HKB ⊢
  clear ha hb fa fb hR hB0
  by_cases hfr : a.frame = b.frame
  · have d0 : ((a.frame : Int) != (b.frame : Int)) = false := by rw [hfr]; simp
    have HFR := hide hfr
    clear hfr
    go_enter Tryz.func14, Tryz.ntmps14
    go_wp2
    clear p0 p1 p2 p3 p4 p5 q0 q1 q2 q3 q4 q5
    generalize (w.alloc (.cells #[.int .u64 (a.frame : Int), .slice a.parts.a a.parts.l.length a.parts.c, .slice a.wins.a a.wins.l.length a.wins.c, .slice a.regs.a a.regs.l.length a.regs.c, .slice a.ports.a a.ports.l.length a.ports.c, .slice a.chans.a a.chans.l.length a.chans.c] 29)).alloc (.cells #[.int .u64 (b.frame : Int), .slice b.parts.a b.parts.l.length b.parts.c, .slice b.wins.a b.wins.l.length b.wins.c, .slice b.regs.a b.regs.l.length b.regs.c, .slice b.ports.a b.ports.l.length b.ports.c, .slice b.chans.a b.chans.l.length b.chans.c] 29) = W0 at *
    go_loopw [5] (fun v wr => ∃ s : Nat, 1 ≤ s ∧ s ≤ 6 ∧ v = .int .i64 (s : Int) ∧ Hid (Box2 w a b wr) ∧ Hid (∀ t, 1 ≤ t → t < s → kysOf a t = kysOf b t)) (fun v _ => 6 - (intOf v).toNat)
    case atStart => exact ⟨1, by omega, by omega, rfl, HB0, hide (fun t h1 h2 => by omega)⟩
    case round =>
      obtain ⟨s, h1, h6, rfl, hB, hrel⟩ := hrel
      by_cases h5 : s ≤ 5
      · have h5I : (s : Int) ≤ 5 := by omega
        obtain ⟨p0, p1, p2, p3, p4, p5⟩ := hB.out.ca
        obtain ⟨la, la2⟩ := HLA.out s h1 h5
        obtain ⟨lb, lb2⟩ := HLB.out s h1 h5
        have HCA := hide (HKA.out s h1 h5)
        have HCB := hide (HKB.out s h1 h5)
        have HS1 : Hid (kysOf a s = kysOf b s → ∀ t, 1 ≤ t → t < s + 1 → kysOf a t = kysOf b t) := hide (fun he t k1 k2 => by
          by_cases ht : t = s
          · subst ht; exact he
          · exact hrel.out t k1 (by omega))
        have HS2 : Hid (kysOf a s ≠ kysOf b s → R = false) := hide (fun hne => by rw [HR.out]; exact same_false_keys s h1 h5 hne)
        generalize kysOf a s = ka at *
        generalize kysOf b s = kb at *
        clear hrel
        go_wp2_with fail
        refine (HCA.out _ hB.out).mono ?_
        rintro e w6 ⟨ra, aa, ca, rfl, hra, hka, hb6⟩
        have hB6 := hB.out.below hb6
        have HB6 := hide hB6
        obtain ⟨q0, q1, q2, q3, q4, q5⟩ := hB6.cb
        have HKa := hide hka
        clear p0 p1 p2 p3 p4 p5 hka hb6 hB6
        go_wp2_with fail
        refine (HCB.out _ HB6.out).mono ?_
        rintro e w7 ⟨rb, ab, cb, rfl, hrb, hkb, hb7⟩
        have HB7 := hide (HB6.out.below hb7)
        have HKA := hide (HKa.out.below hb7)
        obtain ⟨wr0, hwr0⟩ : ∃ x : World, x = wr := ⟨_, rfl⟩
        rw [← hwr0] at HKA
        clear hwr0
        have HKB := hide hkb
        clear q0 q1 q2 q3 q4 q5 hkb hb7 HKa HCA HCB
        have lna : ra.length = ka.length := by rw [← hra, List.length_map]
        have lnb : rb.length = kb.length := by rw [← hrb, List.length_map]
        obtain ⟨n, hn⟩ : ∃ n, n = ra.length := ⟨_, rfl⟩
        obtain ⟨m, hm⟩ : ∃ m, m = rb.length := ⟨_, rfl⟩
        have HN := hide hn
        have HM := hide hm
        have HRA := hide hra
        have HRB := hide hrb
        have HLa := hide la2
        have HLb := hide lb2
        have hnI : (n : Int) ≤ 100000 := by omega
        have hmI : (m : Int) ≤ 100000 := by omega
        have hnk : n = ka.length := by omega
        have hmk : m = kb.length := by omega
        rw [← hn, ← hm]
        clear hra hrb la2 lb2 lna lnb la lb hn hm
        by_cases hnm : n = m
        · subst hnm
          have dn : ((n : Int) != (n : Int)) = false := by simp
          go_wp2
          go_loopw [8] (fun v wr => ∃ k : Nat, k ≤ n ∧ v = .int .i64 (k : Int) ∧ Hid (ka.take k = kb.take k) ∧ ∃ q, wr = w7.drewN q) (fun v _ => n - (intOf v).toNat)
          case atStart => exact ⟨0, Nat.zero_le _, rfl, hide rfl, 0, rfl⟩
          case round =>
            obtain ⟨k, hk, rfl, hrel, q, hq⟩ := hrel
            have HQ := hide hq
            have HKAw : Hid (KeysAt wr0.heap.size ra aa ca wr) := hide (by rw [hq]; exact HKA.out.drewN q)
            have HKBw : Hid (KeysAt w6.heap.size rb ab cb wr) := hide (by rw [hq]; exact HKB.out.drewN q)
            clear hq
            by_cases hlt : k < n
            · have hlt2 : (k : Int) < (n : Int) := by omega
              have hk0 : (0 : Int) ≤ (k : Int) := by omega
              have hka : k < ra.length := by have := HN.out; omega
              have hkb : k < rb.length := by have := HM.out; omega
              obtain ⟨ga, ha, xa, hca⟩ := HKAw.out.at_ k hka
              obtain ⟨gb, hb, xb, hcb⟩ := HKBw.out.at_ k hkb
              subst ha hb
              have hcaI : (n : Int) ≤ (ca : Int) := by have := HN.out; omega
              have hcbI : (n : Int) ≤ (cb : Int) := by have := HM.out; omega
              have hkka : k < ka.length := by omega
              have hkkb : k < kb.length := by omega
              have ea : ra[k].l = ka[k] := by have := HRA.out; subst this; simp
              have eb : rb[k].l = kb[k] := by have := HRB.out; subst this; simp
              have za := HLa.out _ (List.getElem_mem hkka)
              have zb := HLb.out _ (List.getElem_mem hkkb)
              rw [← ea] at za
              rw [← eb] at zb
              have HLS : Hid (∀ p, Calls Tryz.prog 31 #[rowV ra[k], rowV rb[k]] (wr.drewN p) fun e w' => e = .returned (.bool (lessLK ra[k].l rb[k].l)) ∧ ∃ m, w' = (wr.drewN p).drewN m) := hide (fun p => by
                have r1 := (HKAw.out.drewN p).row k hka
                have r2 := (HKBw.out.drewN p).row k hkb
                exact less_callsK _ _ _ _ _ _ _ r1.1 r2.1 r1.2 r2.2 za zb)
              have HLT : Hid (∀ p, Calls Tryz.prog 31 #[rowV rb[k], rowV ra[k]] (wr.drewN p) fun e w' => e = .returned (.bool (lessLK rb[k].l ra[k].l)) ∧ ∃ m, w' = (wr.drewN p).drewN m) := hide (fun p => by
                have r1 := (HKAw.out.drewN p).row k hka
                have r2 := (HKBw.out.drewN p).row k hkb
                exact less_callsK _ _ _ _ _ _ _ r2.1 r1.1 r2.2 r1.2 zb za)
              have HNE : Hid (ra[k].l ≠ rb[k].l → R = false) := hide (fun hne => HS2.out (fun e => hne (by rw [ea, eb]; subst e; rfl)))
              have HEQ : Hid (ra[k].l = rb[k].l → ka.take (k + 1) = kb.take (k + 1)) := hide (fun e => by
                rw [List.take_succ_eq_append_getElem hkka, List.take_succ_eq_append_getElem hkkb, hrel.out, ← ea, ← eb, e])
              generalize ra[k] = x at *
              generalize rb[k] = y at *
              unfold rowV at xa xb HLS HLT
              have lo := less_orK x.l y.l
              clear ea eb za zb hrel
              cases h1 : lessLK x.l y.l with
              | true =>
                rw [h1] at HLS lo
                have hne : R = false := HNE.out (fun e => by rw [e, less_selfK] at h1; cases h1)
                clear lo h1 HEQ HNE HLT
                go_wp2
                go_quiet ((go_at_call 31; exact Calls.quiet_of (HLS.out _)))
                go_wp2
                go_ret
                exact ⟨ret_bE hne.symm, by rw [HQ.out]; exact below_drewN (below_drewN HB7.out.1 _) _⟩
              | false =>
                rw [h1] at HLS lo
                cases h2 : lessLK y.l x.l with
                | true =>
                  rw [h2] at HLT
                  have hne : R = false := HNE.out (fun e => by rw [e, less_selfK] at h2; cases h2)
                  clear lo h1 h2 HEQ HNE
                  go_wp2
                  go_quiet ((go_at_call 31; (with_reducible first | exact Calls.quiet_of (HLS.out _) | exact Calls.quiet_of (HLT.out _))))
                  go_wp2
                  go_ret
                  exact ⟨ret_bE hne.symm, by rw [HQ.out]; exact below_drewN (below_drewN HB7.out.1 _) _⟩
                | false =>
                  rw [h2] at HLT
                  have he := HEQ.out (less_eqK h1 h2)
                  have HE := hide he
                  clear lo h1 h2 HEQ HNE he
                  go_wp2
                  go_quiet ((go_at_call 31; (with_reducible first | exact Calls.quiet_of (HLS.out _) | exact Calls.quiet_of (HLT.out _))))
                  go_wp2
                  go_roundw
                  case rel => exact ⟨k + 1, by omega, by go_num, HE, _, by rw [HQ.out, World.drewN_drewN]⟩
                  case measure => simp [intOf]; omega
            · obtain rfl : k = n := by omega
              have he : ka = kb := take_all_eq hnk.symm hmk.symm hrel.out
              have HE := hide (HS1.out he)
              have HB8 := hide (show Box2 w a b wr by rw [HQ.out]; exact HB7.out.below (below_drewN (Below.refl _ _) _))
              go_wp2
              go_roundw
              case rel => exact ⟨s + 1, by omega, by omega, by go_num, HB8, HE⟩
              case measure => simp [intOf]; omega
        · have dn : ((n : Int) != (m : Int)) = true := by rw [bne_iff_ne]; omega
          have hne : R = false := HS2.out (fun e => hnm (by rw [hnk, hmk, e]))
          go_wp2
          go_ret
          exact ⟨ret_bE hne.symm, HB7.out.1⟩
      · obtain rfl : s = 6 := by omega
        have hR : R = true := by rw [HR.out]; exact same_true HFR.out hrel.out
        clear hrel
        go_wp2
        go_ret
        exact ⟨ret_bE hR.symm, hB.out.1⟩
  · have d0 : ((a.frame : Int) != (b.frame : Int)) = true := by rw [bne_iff_ne]; omega
    have hR : R = false := by rw [HR.out]; exact same_false_frame hfr
    go_enter Tryz.func14, Tryz.ntmps14
    go_wp2
    go_ret
    exact ⟨ret_bE hR.symm, HB0.out.1⟩
end Go.Proofs.YtcnihmlmaigkdaaGreatDoor
