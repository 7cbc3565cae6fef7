/- The reference's Lines (chapter 08). Written by genshref.py. -/
import Derived.Test.YtcnihmlmaigkdaaGreatDoorMShRef
import Derived.Test.YtcnihmlmaigkdaaGreatDoorMShWr
import Derived.Deep.RegionHeld3
namespace Go.Proofs.YtcnihmlmaigkdaaGreatDoor
open Go.RowKit Go.Lib Go.Sort
set_option linter.unusedVariables false

/-! ### The list of destinations, grown by one -/
def tailD (l : List Nat) : List UInt8 := if l = [] then [] else 32 :: join (l.map numB) [44, 32]
theorem tailD_snoc (l : List Nat) (d : Nat) : tailD (l ++ [d]) = tailD l ++ (if l = [] then [32] else [44, 32]) ++ numB d := by
  cases l with
  | nil => simp [tailD, join_cons, joinTail]
  | cons x l => simp [tailD, join_cons, joinTail]
theorem toB_tail (d : List Nat) : toB d = [116, 111] ++ tailD d := by
  unfold toB tailD
  split <;> simp
theorem tailD_size : ∀ (n : Nat) (l : List Nat), l.length = n → (∀ d ∈ l, d < 65536) → (tailD l).length ≤ 22 * n
  | 0, l, h, _ => by have := List.length_eq_zero_iff.mp h; subst this; simp [tailD]
  | n + 1, l, h, hd => by
    have hne : l ≠ [] := by intro e; subst e; simp at h
    obtain ⟨l', d, rfl⟩ : ∃ l' d, l = l' ++ [d] := ⟨l.dropLast, l.getLast hne, (List.dropLast_concat_getLast hne).symm⟩
    have hl : l'.length = n := by simpa using h
    have := tailD_size n l' hl (fun x hx => hd x (by simp [hx]))
    have hz : (numB d).length ≤ 20 := num_size (by have := hd d (by simp); omega)
    rw [tailD_snoc]
    simp only [List.length_append]
    have h3 : (if l' = [] then [32] else [44, 32] : List UInt8).length ≤ 2 := by split <;> simp
    omega
theorem dest_cell {x : ChanR} {B : Nat} {w : World} (h : DestsAt B x w) (k : Nat) (hk : k < x.dests.length) :
    ∃ b o, x.at_ = some ⟨b, o, none⟩ ∧ w.cell? ⟨b, o + k, none⟩ = some (.int .u16 (x.dests[k] : Int)) := by
  have hr : RowAt (fun x => [destL x]) 1 B ⟨x.dests, x.at_, x.cap⟩ w := ⟨by rw [flat_one]; exact h.1, h.2⟩
  obtain ⟨b, o, e, _, hc⟩ := hr.at_ (fun _ => rfl) (by omega) k hk
  have h0 := hc 0 (by omega)
  rw [Nat.mul_one, Nat.add_zero] at h0
  exact ⟨b, o, e, h0⟩

set_option maxRecDepth 100000 in
set_option maxHeartbeats 16000000 in
theorem RLines_calls (c : Cfg) (w : World) (h : CfgAt w.heap.size c w) (hok : c.Ok) (hf : FewC c) :
    Calls Tryz.prog 16 #[cfgV c] w (LinesW (linesS c) w) := by
  have HCF := hide (fun W (hW : Boxed1 w c W) => hW.cfg h)
  have HOK := hide hok
  have HF := hide hf
  obtain ⟨i0, hi, hz0, hz1, hz2⟩ := info_parts string_info
  have HI := hide hi
  have mixed := mixed_prog
  have HL0 := hide (LnS.start w c)
  obtain ⟨L0, hL0⟩ : ∃ L : List ByteArray, L = [] := ⟨_, rfl⟩
  rw [← hL0] at HL0
  have HEL0 := hide hL0
  have HLL0 : Hid (L0.length ≤ 0) := hide (by rw [hL0]; simp)
  obtain ⟨n1, hn1⟩ : ∃ n, n = c.parts.l.length := ⟨_, rfl⟩
  have HN1 := hide hn1
  have hnI1 : (n1 : Int) ≤ 1024 := by have := hf.parts; omega
  obtain ⟨n2, hn2⟩ : ∃ n, n = c.wins.l.length := ⟨_, rfl⟩
  have HN2 := hide hn2
  have hnI2 : (n2 : Int) ≤ 1024 := by have := hf.wins; omega
  obtain ⟨n3, hn3⟩ : ∃ n, n = c.regs.l.length := ⟨_, rfl⟩
  have HN3 := hide hn3
  have hnI3 : (n3 : Int) ≤ 1024 := by have := hf.regs; omega
  obtain ⟨n4, hn4⟩ : ∃ n, n = c.ports.l.length := ⟨_, rfl⟩
  have HN4 := hide hn4
  have hnI4 : (n4 : Int) ≤ 1024 := by have := hf.ports; omega
  obtain ⟨n5, hn5⟩ : ∃ n, n = c.chans.l.length := ⟨_, rfl⟩
  have HN5 := hide hn5
  have hnI5 : (n5 : Int) ≤ 1024 := by have := hf.chans; omega
  unfold cfgV
  unfold cfgC at HL0
  rw [← hn1, ← hn2, ← hn3, ← hn4, ← hn5] at HL0 ⊢
  clear h hok hf hi hL0 hn1 hn2 hn3 hn4 hn5
  go_enter Tryz.func16, Tryz.ntmps16
  go_wp2
  generalize w.alloc (.cells #[.int .u64 (c.frame : Int), .slice c.parts.a n1 c.parts.c, .slice c.wins.a n2 c.wins.c, .slice c.regs.a n3 c.regs.c, .slice c.ports.a n4 c.ports.c, .slice c.chans.a n5 c.chans.c] 29) = W0 at *
  go_loopw [3, 4] (fun o v wr => ∃ (k m : Nat) (a : Option Addr) (cap : Nat), k ≤ n1 ∧ v = .int .i64 (k : Int) ∧ o = .slice a m cap ∧ Hid (LnS w c (L0 ++ (c.parts.l.take k).map fun x => ofL (partLn x)) a m cap wr)) (fun _ v _ => n1 - (intOf v).toNat)
  case atStart => exact ⟨0, _, _, _, Nat.zero_le _, rfl, rfl, hide (by simpa using HL0.out)⟩
  case round =>
    obtain ⟨k, m, a, cap, hk, rfl, rfl, hrel⟩ := hrel
    obtain ⟨b0, b1, b2, b3, b4, b5⟩ := hrel.out.1.cells
    rw [← HN1.out] at b1
    by_cases hlt : k < n1
    · have hlt2 : (k : Int) < (n1 : Int) := by omega
      have hkl : k < c.parts.l.length := by have := HN1.out; omega
      obtain ⟨b, o, ha, hab, x0, x1, x2, x3⟩ := part_at (HCF.out wr hrel.out.1).parts k hkl
      rw [ha] at b1
      have hcI : (n1 : Int) ≤ (c.parts.c : Int) := by have := (HCF.out wr hrel.out.1).parts.2.1; have := HN1.out; omega
      have htk := take_map_snoc (fun x => ofL (partLn x)) L0 c.parts.l k hkl
      have hxm := List.getElem_mem hkl
      have hxo := HOK.out.parts _ hxm
      have hml := hrel.out.2.1
      have hm1 : m ≤ 100000 := by rw [hml, List.length_append, List.length_map, List.length_take]; have := HLL0.out; omega
      generalize c.parts.l[k] = x at *
      obtain ⟨P, hP⟩ : ∃ P, P = L0 ++ (c.parts.l.take k).map fun x => ofL (partLn x) := ⟨_, rfl⟩
      rw [← hP] at htk hrel
      obtain ⟨pid, nm, per, dur⟩ := x
      obtain ⟨h1, _, h3, h4⟩ := hxo
      simp only at h1 h3 h4
      have hnm : nm.size ≤ 1000 := HF.out.pnames _ hxm
      simp only at x0 x1 x2 x3
      have HC0 := hide (fun W => RNum_calls pid (by omega) W)
      have wp0 : Hid (IntKind.u64.wrap (pid : Int) = (pid : Int)) := hide (by rw [IntKind.wrap_u64]; omega)
      obtain ⟨s0, hs0⟩ : ∃ s, s = ofL (numB pid) := ⟨_, rfl⟩
      rw [← hs0] at HC0
      have z0 : s0.size ≤ 20 := by rw [hs0, ofL_size]; exact num_size (by omega)
      have HC1 := hide (fun W => RefQuote_calls nm W hnm)
      obtain ⟨s1, hs1⟩ : ∃ s, s = quoteS nm := ⟨_, rfl⟩
      rw [← hs1] at HC1
      have z1 : s1.size ≤ 2002 := by rw [hs1]; have := quote_size nm; omega
      have HC2 := hide (fun W => RNum_calls per h3 W)
      have wp2 : Hid (IntKind.u64.wrap (per : Int) = (per : Int)) := hide (by rw [IntKind.wrap_u64]; omega)
      obtain ⟨s2, hs2⟩ : ∃ s, s = ofL (numB per) := ⟨_, rfl⟩
      rw [← hs2] at HC2
      have z2 : s2.size ≤ 20 := by rw [hs2, ofL_size]; exact num_size (by omega)
      have HC3 := hide (fun W => RNum_calls dur h4 W)
      have wp3 : Hid (IntKind.u64.wrap (dur : Int) = (dur : Int)) := hide (by rw [IntKind.wrap_u64]; omega)
      obtain ⟨s3, hs3⟩ : ∃ s, s = ofL (numB dur) := ⟨_, rfl⟩
      rw [← hs3] at HC3
      have z3 : s3.size ≤ 20 := by rw [hs3, ofL_size]; exact num_size (by omega)
      have HOX : Hid (∀ r, (Value.slice a m cap).ownBlock = some r → r < wr.heap.size) := hide (fun r hr => (own_lt2 hrel.out.2.2 r hr).2)
      have hwz := hrel.out.1.2.lt
      have HRL := hide hrel.out
      have HTK0 := hide htk
      clear htk hrel hP hxm hml ha hab h1 h3 h4 hnm
      have q0 : (9223372036854775807 < 10 + s0.size) = False := by simp; omega
      have q1 : (9223372036854775807 < 10 + s0.size + 1) = False := by simp; omega
      have q2 : (9223372036854775807 < 10 + s0.size + 1 + s1.size) = False := by simp; omega
      have q3 : (9223372036854775807 < 10 + s0.size + 1 + s1.size + 10) = False := by simp; omega
      have q4 : (9223372036854775807 < 10 + s0.size + 1 + s1.size + 10 + s2.size) = False := by simp; omega
      have q5 : (9223372036854775807 < 10 + s0.size + 1 + s1.size + 10 + s2.size + 11) = False := by simp; omega
      have q6 : (9223372036854775807 < 10 + s0.size + 1 + s1.size + 10 + s2.size + 11 + s3.size) = False := by simp; omega
      have q7 : (9223372036854775807 < 10 + s0.size + 1 + s1.size + 10 + s2.size + 11 + s3.size + 3) = False := by simp; omega
      have HE : (((((((((⟨#[112, 97, 114, 116, 105, 116, 105, 111, 110, 32]⟩ : ByteArray) ++ s0) ++ ⟨#[32]⟩) ++ s1) ++ ⟨#[32, 123, 32, 112, 101, 114, 105, 111, 100, 32]⟩) ++ s2) ++ ⟨#[59, 32, 100, 117, 114, 97, 116, 105, 111, 110, 32]⟩) ++ s3) ++ ⟨#[59, 32, 125]⟩) = ofL (partLn ⟨pid, nm, per, dur⟩) := by
        apply bytes_eq
        simp only [list_append, hs0, hs1, hs2, hs3, ofL_list]
        simp [partLn, lnB, quoteN, join_cons, joinTail]
      have htk := HTK0.out
      rw [← HE] at htk
      have HTK := hide htk
      have HM1 := hide (HRL.out.alloc (.cells #[.int .u16 (pid : Int), .string nm, .int .u64 (per : Int), .int .u64 (dur : Int)] 66)).drew
      have HB1 := hide (Blk.new wr 66 #[.int .u16 (pid : Int), .string nm, .int .u64 (per : Int), .int .u64 (dur : Int)]).drew
      have HSX : Hid (∀ w', Blk w' wr.heap.size 66 #[.int .u16 (pid : Int), .string nm, .int .u64 (per : Int), .int .u64 (dur : Int)] → (w'.cell? ⟨wr.heap.size, 0, none⟩ = some (.int .u16 (pid : Int)) ∧ w'.cell? ⟨wr.heap.size, 1, none⟩ = some (.string nm) ∧ w'.cell? ⟨wr.heap.size, 2, none⟩ = some (.int .u64 (per : Int)) ∧ w'.cell? ⟨wr.heap.size, 3, none⟩ = some (.int .u64 (dur : Int)) ∧ Blk w' wr.heap.size 66 #[.int .u16 (pid : Int), .string nm, .int .u64 (per : Int), .int .u64 (dur : Int)])) := hide (fun W hW => ⟨hW.cell 0, hW.cell 1, hW.cell 2, hW.cell 3, hW⟩)
      clear htk HE HTK0 hs0 hs1 hs2 hs3
      go_wp2
      go_region_held3 (fun w' => (w'.cell? ⟨wr.heap.size, 0, none⟩ = some (.int .u16 (pid : Int)) ∧ w'.cell? ⟨wr.heap.size, 1, none⟩ = some (.string nm) ∧ w'.cell? ⟨wr.heap.size, 2, none⟩ = some (.int .u64 (per : Int)) ∧ w'.cell? ⟨wr.heap.size, 3, none⟩ = some (.int .u64 (dur : Int)) ∧ Blk w' wr.heap.size 66 #[.int .u16 (pid : Int), .string nm, .int .u64 (per : Int), .int .u64 (dur : Int)]))
        (first | with_reducible assumption | with_reducible exact HSX.out _ HB1.out | with_reducible exact HSX.out _ (by with_reducible assumption) | with_reducible exact HSX.out _ (Blk.alloc (And.right (And.right (And.right (And.right (by with_reducible assumption))))) _) | fail)
        (first
        | (go_at_call 29; (try (first | rw [wp0.out] | rw [wp2.out] | rw [wp3.out])); (with_reducible first | refine (HC0.out _).mono ?_ | refine (HC2.out _).mono ?_ | refine (HC3.out _).mono ?_); rintro e w2 ⟨rfl, hb⟩; have HM2 := hide (LnS.below (Hid.out (by with_reducible assumption)) hb); have hx2 := Blk.below (And.right (And.right (And.right (And.right (by with_reducible assumption))))) hb (Blk.lt (And.right (And.right (And.right (And.right (by with_reducible assumption)))))))
        | (go_at_call 33; refine (HC1.out _).mono ?_; rintro e w2 ⟨rfl, rfl⟩)
        | (refine step_append_any _ rfl (.tmp 30) (.tmp 52) 34 rfl (w.heap.size + 1) 9 i0 _ 1 16 Tryz.underlying34 HI.out hz0 hz1 hz2 rfl (by decide) (.slice a m cap) m (strsV P) ?hs30 ?hown30 (w2.heap.size + 1) (some ⟨w2.heap.size, 0, none⟩) 1 1 [.string (((((((((⟨#[112, 97, 114, 116, 105, 116, 105, 111, 110, 32]⟩ : ByteArray) ++ s0) ++ ⟨#[32]⟩) ++ s1) ++ ⟨#[32, 123, 32, 112, 101, 114, 105, 111, 100, 32]⟩) ++ s2) ++ ⟨#[59, 32, 100, 117, 114, 97, 116, 105, 111, 110, 32]⟩) ++ s3) ++ ⟨#[59, 32, 125]⟩)] ?hx30 ?hr30 (strs_one _) ?h6330 ?hby30 ?hbase30 ?hh30; (case hs30 => (simp [Act.eval])); (case hx30 => (simp [Act.eval])); (case hown30 => (exact ((Hid.out (by with_reducible assumption : Hid (LnS w c P a m cap w2))).2.2.alloc _))); (case hr30 => (exact (str_reads w2 _))); (case h6330 => (simp only [maxLen]; omega)); (case hby30 => omega); (case hbase30 => (exact (LnS.base_alloc (Hid.out (by with_reducible assumption : Hid (LnS w c P a m cap w2))) _))); intro v4 w4 ho4 hg4 hat4; obtain ⟨a4, c4, hv4, hm4⟩ := LnS.pushed (Hid.out (by with_reducible assumption : Hid (LnS w c P a m cap w2))) ho4 hg4; subst hv4; have HM4 := hide hm4; have hx4 : Blk w4 wr.heap.size 66 #[.int .u16 (pid : Int), .string nm, .int .u64 (per : Int), .int .u64 (dur : Int)] := (by first | exact Blk.grown (And.right (And.right (And.right (And.right (by with_reducible assumption))))) hg4 (fun e => by have := HOX.out _ e.symm; omega) | exact Blk.grown (Blk.alloc hx2 _) hg4 (fun e => by have := HOX.out _ e.symm; omega)); clear ho4 hg4 hat4 hm4))
      all_goals
        have HR := HM4.out
        rw [← HTK.out] at HR
        have HR2 := hide HR
        clear HR
        go_wp2
        go_roundw
        case rel => exact ⟨k + 1, m + 1, a4, c4, by omega, by go_num, rfl, HR2⟩
        case measure => simp [intOf]; omega
    · obtain rfl : k = n1 := by omega
      have hfin := hrel.out
      rw [List.take_of_length_le (by rw [HN1.out]; exact Nat.le_refl _)] at hfin
      have HL1 := hide hfin
      obtain ⟨L1, hL1⟩ : ∃ L, L = L0 ++ c.parts.l.map fun x => ofL (partLn x) := ⟨_, rfl⟩
      rw [← hL1] at HL1
      have HEL1 := hide hL1
      have HLL1 : Hid (L1.length ≤ 1024) := hide (by rw [hL1, List.length_append, List.length_map]; have := HLL0.out; have := HF.out.parts; omega)
      clear hfin hrel hlt hk hL1
      go_wp2
      go_loopw [3, 6] (fun o v wr => ∃ (k m : Nat) (a : Option Addr) (cap : Nat), k ≤ n2 ∧ v = .int .i64 (k : Int) ∧ o = .slice a m cap ∧ Hid (LnS w c (L1 ++ (c.wins.l.take k).map fun x => ofL (winLn x)) a m cap wr)) (fun _ v _ => n2 - (intOf v).toNat)
      case atStart => exact ⟨0, _, _, _, Nat.zero_le _, rfl, rfl, hide (by simpa using HL1.out)⟩
      case round =>
        obtain ⟨k, m, a, cap, hk, rfl, rfl, hrel⟩ := hrel
        obtain ⟨b0, b1, b2, b3, b4, b5⟩ := hrel.out.1.cells
        rw [← HN2.out] at b2
        by_cases hlt : k < n2
        · have hlt2 : (k : Int) < (n2 : Int) := by omega
          have hkl : k < c.wins.l.length := by have := HN2.out; omega
          obtain ⟨b, o, ha, hab, x0, x1, x2⟩ := win_at (HCF.out wr hrel.out.1).wins k hkl
          rw [ha] at b2
          have hcI : (n2 : Int) ≤ (c.wins.c : Int) := by have := (HCF.out wr hrel.out.1).wins.2.1; have := HN2.out; omega
          have htk := take_map_snoc (fun x => ofL (winLn x)) L1 c.wins.l k hkl
          have hxm := List.getElem_mem hkl
          have hxo := HOK.out.wins _ hxm
          have hml := hrel.out.2.1
          have hm1 : m ≤ 100000 := by rw [hml, List.length_append, List.length_map, List.length_take]; have := HLL1.out; omega
          generalize c.wins.l[k] = x at *
          obtain ⟨P, hP⟩ : ∃ P, P = L1 ++ (c.wins.l.take k).map fun x => ofL (winLn x) := ⟨_, rfl⟩
          rw [← hP] at htk hrel
          obtain ⟨st, len, part⟩ := x
          obtain ⟨h1, h2, h3⟩ := hxo
          simp only at h1 h2 h3
          simp only at x0 x1 x2
          have HC0 := hide (fun W => RNum_calls part (by omega) W)
          have wp0 : Hid (IntKind.u64.wrap (part : Int) = (part : Int)) := hide (by rw [IntKind.wrap_u64]; omega)
          obtain ⟨s0, hs0⟩ : ∃ s, s = ofL (numB part) := ⟨_, rfl⟩
          rw [← hs0] at HC0
          have z0 : s0.size ≤ 20 := by rw [hs0, ofL_size]; exact num_size (by omega)
          have HC1 := hide (fun W => RNum_calls st h1 W)
          have wp1 : Hid (IntKind.u64.wrap (st : Int) = (st : Int)) := hide (by rw [IntKind.wrap_u64]; omega)
          obtain ⟨s1, hs1⟩ : ∃ s, s = ofL (numB st) := ⟨_, rfl⟩
          rw [← hs1] at HC1
          have z1 : s1.size ≤ 20 := by rw [hs1, ofL_size]; exact num_size (by omega)
          have HC2 := hide (fun W => RNum_calls len h2 W)
          have wp2 : Hid (IntKind.u64.wrap (len : Int) = (len : Int)) := hide (by rw [IntKind.wrap_u64]; omega)
          obtain ⟨s2, hs2⟩ : ∃ s, s = ofL (numB len) := ⟨_, rfl⟩
          rw [← hs2] at HC2
          have z2 : s2.size ≤ 20 := by rw [hs2, ofL_size]; exact num_size (by omega)
          have HOX : Hid (∀ r, (Value.slice a m cap).ownBlock = some r → r < wr.heap.size) := hide (fun r hr => (own_lt2 hrel.out.2.2 r hr).2)
          have hwz := hrel.out.1.2.lt
          have HRL := hide hrel.out
          have HTK0 := hide htk
          clear htk hrel hP hxm hml ha hab h1 h2 h3
          have q0 : (9223372036854775807 < 7 + s0.size) = False := by simp; omega
          have q1 : (9223372036854775807 < 7 + s0.size + 9) = False := by simp; omega
          have q2 : (9223372036854775807 < 7 + s0.size + 9 + s1.size) = False := by simp; omega
          have q3 : (9223372036854775807 < 7 + s0.size + 9 + s1.size + 9) = False := by simp; omega
          have q4 : (9223372036854775807 < 7 + s0.size + 9 + s1.size + 9 + s2.size) = False := by simp; omega
          have q5 : (9223372036854775807 < 7 + s0.size + 9 + s1.size + 9 + s2.size + 3) = False := by simp; omega
          have HE : (((((((⟨#[119, 105, 110, 100, 111, 119, 32]⟩ : ByteArray) ++ s0) ++ ⟨#[32, 123, 32, 115, 116, 97, 114, 116, 32]⟩) ++ s1) ++ ⟨#[59, 32, 108, 101, 110, 103, 116, 104, 32]⟩) ++ s2) ++ ⟨#[59, 32, 125]⟩) = ofL (winLn ⟨st, len, part⟩) := by
            apply bytes_eq
            simp only [list_append, hs0, hs1, hs2, ofL_list]
            simp [winLn, lnB, join_cons, joinTail]
          have htk := HTK0.out
          rw [← HE] at htk
          have HTK := hide htk
          have HM1 := hide (HRL.out.alloc (.cells #[.int .u64 (st : Int), .int .u64 (len : Int), .int .u16 (part : Int)] 69)).drew
          have HB1 := hide (Blk.new wr 69 #[.int .u64 (st : Int), .int .u64 (len : Int), .int .u16 (part : Int)]).drew
          have HSX : Hid (∀ w', Blk w' wr.heap.size 69 #[.int .u64 (st : Int), .int .u64 (len : Int), .int .u16 (part : Int)] → (w'.cell? ⟨wr.heap.size, 0, none⟩ = some (.int .u64 (st : Int)) ∧ w'.cell? ⟨wr.heap.size, 1, none⟩ = some (.int .u64 (len : Int)) ∧ w'.cell? ⟨wr.heap.size, 2, none⟩ = some (.int .u16 (part : Int)) ∧ Blk w' wr.heap.size 69 #[.int .u64 (st : Int), .int .u64 (len : Int), .int .u16 (part : Int)])) := hide (fun W hW => ⟨hW.cell 0, hW.cell 1, hW.cell 2, hW⟩)
          clear htk HE HTK0 hs0 hs1 hs2
          go_wp2
          go_region_held3 (fun w' => (w'.cell? ⟨wr.heap.size, 0, none⟩ = some (.int .u64 (st : Int)) ∧ w'.cell? ⟨wr.heap.size, 1, none⟩ = some (.int .u64 (len : Int)) ∧ w'.cell? ⟨wr.heap.size, 2, none⟩ = some (.int .u16 (part : Int)) ∧ Blk w' wr.heap.size 69 #[.int .u64 (st : Int), .int .u64 (len : Int), .int .u16 (part : Int)]))
            (first | with_reducible assumption | with_reducible exact HSX.out _ HB1.out | with_reducible exact HSX.out _ (by with_reducible assumption) | with_reducible exact HSX.out _ (Blk.alloc (And.right (And.right (And.right (by with_reducible assumption)))) _) | fail)
            (first
            | (go_at_call 29; (try (first | rw [wp0.out] | rw [wp1.out] | rw [wp2.out])); (with_reducible first | refine (HC0.out _).mono ?_ | refine (HC1.out _).mono ?_ | refine (HC2.out _).mono ?_); rintro e w2 ⟨rfl, hb⟩; have HM2 := hide (LnS.below (Hid.out (by with_reducible assumption)) hb); have hx2 := Blk.below (And.right (And.right (And.right (by with_reducible assumption)))) hb (Blk.lt (And.right (And.right (And.right (by with_reducible assumption))))))
            | (refine step_append_any _ rfl (.tmp 66) (.tmp 83) 34 rfl (w.heap.size + 1) 9 i0 _ 1 16 Tryz.underlying34 HI.out hz0 hz1 hz2 rfl (by decide) (.slice a m cap) m (strsV P) ?hs66 ?hown66 (w2.heap.size + 1) (some ⟨w2.heap.size, 0, none⟩) 1 1 [.string (((((((⟨#[119, 105, 110, 100, 111, 119, 32]⟩ : ByteArray) ++ s0) ++ ⟨#[32, 123, 32, 115, 116, 97, 114, 116, 32]⟩) ++ s1) ++ ⟨#[59, 32, 108, 101, 110, 103, 116, 104, 32]⟩) ++ s2) ++ ⟨#[59, 32, 125]⟩)] ?hx66 ?hr66 (strs_one _) ?h6366 ?hby66 ?hbase66 ?hh66; (case hs66 => (simp [Act.eval])); (case hx66 => (simp [Act.eval])); (case hown66 => (exact ((Hid.out (by with_reducible assumption : Hid (LnS w c P a m cap w2))).2.2.alloc _))); (case hr66 => (exact (str_reads w2 _))); (case h6366 => (simp only [maxLen]; omega)); (case hby66 => omega); (case hbase66 => (exact (LnS.base_alloc (Hid.out (by with_reducible assumption : Hid (LnS w c P a m cap w2))) _))); intro v4 w4 ho4 hg4 hat4; obtain ⟨a4, c4, hv4, hm4⟩ := LnS.pushed (Hid.out (by with_reducible assumption : Hid (LnS w c P a m cap w2))) ho4 hg4; subst hv4; have HM4 := hide hm4; have hx4 : Blk w4 wr.heap.size 69 #[.int .u64 (st : Int), .int .u64 (len : Int), .int .u16 (part : Int)] := (by first | exact Blk.grown (And.right (And.right (And.right (by with_reducible assumption)))) hg4 (fun e => by have := HOX.out _ e.symm; omega) | exact Blk.grown (Blk.alloc hx2 _) hg4 (fun e => by have := HOX.out _ e.symm; omega)); clear ho4 hg4 hat4 hm4))
          all_goals
            have HR := HM4.out
            rw [← HTK.out] at HR
            have HR2 := hide HR
            clear HR
            go_wp2
            go_roundw
            case rel => exact ⟨k + 1, m + 1, a4, c4, by omega, by go_num, rfl, HR2⟩
            case measure => simp [intOf]; omega
        · obtain rfl : k = n2 := by omega
          have hfin := hrel.out
          rw [List.take_of_length_le (by rw [HN2.out]; exact Nat.le_refl _)] at hfin
          have HL2 := hide hfin
          obtain ⟨L2, hL2⟩ : ∃ L, L = L1 ++ c.wins.l.map fun x => ofL (winLn x) := ⟨_, rfl⟩
          rw [← hL2] at HL2
          have HEL2 := hide hL2
          have HLL2 : Hid (L2.length ≤ 2048) := hide (by rw [hL2, List.length_append, List.length_map]; have := HLL1.out; have := HF.out.wins; omega)
          clear hfin hrel hlt hk hL2
          go_wp2
          go_loopw [3, 8] (fun o v wr => ∃ (k m : Nat) (a : Option Addr) (cap : Nat), k ≤ n3 ∧ v = .int .i64 (k : Int) ∧ o = .slice a m cap ∧ Hid (LnS w c (L2 ++ (c.regs.l.take k).map fun x => ofL (regLn x)) a m cap wr)) (fun _ v _ => n3 - (intOf v).toNat)
          case atStart => exact ⟨0, _, _, _, Nat.zero_le _, rfl, rfl, hide (by simpa using HL2.out)⟩
          case round =>
            obtain ⟨k, m, a, cap, hk, rfl, rfl, hrel⟩ := hrel
            obtain ⟨b0, b1, b2, b3, b4, b5⟩ := hrel.out.1.cells
            rw [← HN3.out] at b3
            by_cases hlt : k < n3
            · have hlt2 : (k : Int) < (n3 : Int) := by omega
              have hkl : k < c.regs.l.length := by have := HN3.out; omega
              obtain ⟨b, o, ha, hab, x0, x1, x2, x3, x4⟩ := reg_at (HCF.out wr hrel.out.1).regs k hkl
              rw [ha] at b3
              have hcI : (n3 : Int) ≤ (c.regs.c : Int) := by have := (HCF.out wr hrel.out.1).regs.2.1; have := HN3.out; omega
              have htk := take_map_snoc (fun x => ofL (regLn x)) L2 c.regs.l k hkl
              have hxm := List.getElem_mem hkl
              have hxo := HOK.out.regs _ hxm
              have hml := hrel.out.2.1
              have hm1 : m ≤ 100000 := by rw [hml, List.length_append, List.length_map, List.length_take]; have := HLL2.out; omega
              have hrt := HF.out.rights _ hxm
              generalize c.regs.l[k] = x at *
              obtain ⟨P, hP⟩ : ∃ P, P = L2 ++ (c.regs.l.take k).map fun x => ofL (regLn x) := ⟨_, rfl⟩
              rw [← hP] at htk hrel
              obtain ⟨ba, sz, part, ri, sh⟩ := x
              obtain ⟨h1, h2, h3, h4⟩ := hxo
              simp only at h1 h2 h3 h4
              simp only at hrt
              simp only at x0 x1 x2 x3 x4
              have HC0 := hide (fun W => RNum_calls part (by omega) W)
              have wp0 : Hid (IntKind.u64.wrap (part : Int) = (part : Int)) := hide (by rw [IntKind.wrap_u64]; omega)
              obtain ⟨s0, hs0⟩ : ∃ s, s = ofL (numB part) := ⟨_, rfl⟩
              rw [← hs0] at HC0
              have z0 : s0.size ≤ 20 := by rw [hs0, ofL_size]; exact num_size (by omega)
              have HC1 := hide (fun W => RefHex_calls ba h1 W)
              obtain ⟨s1, hs1⟩ : ∃ s, s = ofL (hexL ba) := ⟨_, rfl⟩
              have e1 : (⟨(hexL ba).toArray⟩ : ByteArray) = s1 := hs1.symm
              rw [e1] at HC1
              have z1 : s1.size ≤ 20 := by rw [hs1, ofL_size]; have := hex_size h1; omega
              have HC2 := hide (fun W => RNum_calls sz h2 W)
              have wp2 : Hid (IntKind.u64.wrap (sz : Int) = (sz : Int)) := hide (by rw [IntKind.wrap_u64]; omega)
              obtain ⟨s2, hs2⟩ : ∃ s, s = ofL (numB sz) := ⟨_, rfl⟩
              rw [← hs2] at HC2
              have z2 : s2.size ≤ 20 := by rw [hs2, ofL_size]; exact num_size (by omega)
              have HC3 := hide (fun W => RRights_calls ri hrt W)
              obtain ⟨s3, hs3⟩ : ∃ s, s = ofL (rightsW ri) := ⟨_, rfl⟩
              rw [← hs3] at HC3
              have z3 : s3.size ≤ 20 := by rw [hs3, ofL_size]; have := word_size hrt; omega
              have HOX : Hid (∀ r, (Value.slice a m cap).ownBlock = some r → r < wr.heap.size) := hide (fun r hr => (own_lt2 hrel.out.2.2 r hr).2)
              have hwz := hrel.out.1.2.lt
              have HRL := hide hrel.out
              have HTK0 := hide htk
              clear htk hrel hP hxm hml ha hab h1 h2 h4 hrt
              cases sh
              · skip
                have q0 : (9223372036854775807 < 7 + s0.size) = False := by simp; omega
                have q1 : (9223372036854775807 < 7 + s0.size + 8) = False := by simp; omega
                have q2 : (9223372036854775807 < 7 + s0.size + 8 + s1.size) = False := by simp; omega
                have q3 : (9223372036854775807 < 7 + s0.size + 8 + s1.size + 7) = False := by simp; omega
                have q4 : (9223372036854775807 < 7 + s0.size + 8 + s1.size + 7 + s2.size) = False := by simp; omega
                have q5 : (9223372036854775807 < 7 + s0.size + 8 + s1.size + 7 + s2.size + 9) = False := by simp; omega
                have q6 : (9223372036854775807 < 7 + s0.size + 8 + s1.size + 7 + s2.size + 9 + s3.size) = False := by simp; omega
                have q7 : (9223372036854775807 < 7 + s0.size + 8 + s1.size + 7 + s2.size + 9 + s3.size + 1) = False := by simp; omega
                obtain ⟨T, hT⟩ : ∃ T, T = (((((((((⟨#[114, 101, 103, 105, 111, 110, 32]⟩ : ByteArray) ++ s0) ++ ⟨#[32, 123, 32, 98, 97, 115, 101, 32]⟩) ++ s1) ++ ⟨#[59, 32, 115, 105, 122, 101, 32]⟩) ++ s2) ++ ⟨#[59, 32, 114, 105, 103, 104, 116, 115, 32]⟩) ++ s3) ++ ⟨#[59]⟩) := ⟨_, rfl⟩
                have zT : T.size ≤ 300 := by rw [hT]; simp only [ByteArray.size_append]; simp only [lit_size, List.length_cons, List.length_nil]; omega
                have HW := hide (fun W => RWord_calls false ⟨#[]⟩ ⟨#[32, 115, 104, 97, 114, 101, 100, 59]⟩ W)
                have u0 : (9223372036854775807 < T.size + 0) = False := by simp; omega
                have u1 : (9223372036854775807 < T.size + 0 + 2) = False := by simp; omega
                have HE : ((T ++ ⟨#[]⟩) ++ ⟨#[32, 125]⟩) = ofL (regLn ⟨ba, sz, part, ri, false⟩) := by
                  apply bytes_eq
                  simp only [hT, list_append, hs0, hs1, hs2, hs3, ofL_list]
                  simp [regLn, regF, lnB, join_cons, joinTail]
                have htk := HTK0.out
                rw [← HE] at htk
                have HTK := hide htk
                have HT := hide hT
                have HM1 := hide (HRL.out.alloc (.cells #[.int .u64 (ba : Int), .int .u64 (sz : Int), .int .u16 (part : Int), .int .u8 (ri : Int), .bool false] 54)).drew
                have HB1 := hide (Blk.new wr 54 #[.int .u64 (ba : Int), .int .u64 (sz : Int), .int .u16 (part : Int), .int .u8 (ri : Int), .bool false]).drew
                have HSX : Hid (∀ w', Blk w' wr.heap.size 54 #[.int .u64 (ba : Int), .int .u64 (sz : Int), .int .u16 (part : Int), .int .u8 (ri : Int), .bool false] → (w'.cell? ⟨wr.heap.size, 0, none⟩ = some (.int .u64 (ba : Int)) ∧ w'.cell? ⟨wr.heap.size, 1, none⟩ = some (.int .u64 (sz : Int)) ∧ w'.cell? ⟨wr.heap.size, 2, none⟩ = some (.int .u16 (part : Int)) ∧ w'.cell? ⟨wr.heap.size, 3, none⟩ = some (.int .u8 (ri : Int)) ∧ w'.cell? ⟨wr.heap.size, 4, none⟩ = some (.bool false) ∧ Blk w' wr.heap.size 54 #[.int .u64 (ba : Int), .int .u64 (sz : Int), .int .u16 (part : Int), .int .u8 (ri : Int), .bool false])) := hide (fun W hW => ⟨hW.cell 0, hW.cell 1, hW.cell 2, hW.cell 3, hW.cell 4, hW⟩)
                clear htk HE HTK0 hT hs0 hs1 hs2 hs3
                go_wp2
                go_region_held3 (fun w' => (w'.cell? ⟨wr.heap.size, 0, none⟩ = some (.int .u64 (ba : Int)) ∧ w'.cell? ⟨wr.heap.size, 1, none⟩ = some (.int .u64 (sz : Int)) ∧ w'.cell? ⟨wr.heap.size, 2, none⟩ = some (.int .u16 (part : Int)) ∧ w'.cell? ⟨wr.heap.size, 3, none⟩ = some (.int .u8 (ri : Int)) ∧ w'.cell? ⟨wr.heap.size, 4, none⟩ = some (.bool false) ∧ Blk w' wr.heap.size 54 #[.int .u64 (ba : Int), .int .u64 (sz : Int), .int .u16 (part : Int), .int .u8 (ri : Int), .bool false]))
                  (first | with_reducible assumption | with_reducible exact HSX.out _ HB1.out | with_reducible exact HSX.out _ (by with_reducible assumption) | with_reducible exact HSX.out _ (Blk.alloc (And.right (And.right (And.right (And.right (And.right (by with_reducible assumption)))))) _) | fail)
                  (first
                  | (go_at_call 29; (try (first | rw [wp0.out] | rw [wp2.out])); (with_reducible first | refine (HC0.out _).mono ?_ | refine (HC2.out _).mono ?_); rintro e w2 ⟨rfl, hb⟩; have HM2 := hide (LnS.below (Hid.out (by with_reducible assumption)) hb); have hx2 := Blk.below (And.right (And.right (And.right (And.right (And.right (by with_reducible assumption)))))) hb (Blk.lt (And.right (And.right (And.right (And.right (And.right (by with_reducible assumption))))))))
                  | (go_at_call 34; refine (HC1.out _).mono ?_; rintro e w2 ⟨rfl, hb⟩; have HM2 := hide (LnS.below (Hid.out (by with_reducible assumption)) hb); have hx2 := Blk.below (And.right (And.right (And.right (And.right (And.right (by with_reducible assumption)))))) hb (Blk.lt (And.right (And.right (And.right (And.right (And.right (by with_reducible assumption))))))))
                  | (go_at_call 35; refine (HC3.out _).mono ?_; rintro e w2 ⟨rfl, rfl⟩))
                all_goals
                  rw [← HT.out]
                  obtain ⟨WF, hWF⟩ : ∃ W, W = w2 := ⟨_, rfl⟩
                  have HMF := hide (Hid.out (by with_reducible assumption : Hid (LnS w c P a m cap w2)))
                  rw [← hWF] at HMF
                  subst hWF
                  have y4 : WF.cell? ⟨wr.heap.size, 4, none⟩ = some (.bool false) := hx2.cell 4
                  go_wp2_with (first
                    | (go_at_call 36; refine (HW.out _).mono ?_; rintro e w3 ⟨rfl, rfl⟩)
                    | (at_builtin; go_must (refine wpList_append_any _ rfl (.tmp 118) (.tmp 125) 34 rfl (w.heap.size + 1) 9 i0 _ 1 16 Tryz.underlying34 HI.out hz0 hz1 hz2 rfl (by decide) (.slice a m cap) m (strsV P) rfl (HMF.out.2.2.alloc _) (WF.heap.size + 1) (some ⟨WF.heap.size, 0, none⟩) 1 1 [.string ((T ++ ⟨#[]⟩) ++ ⟨#[32, 125]⟩)] rfl (str_reads WF _) (strs_one _) (by simp only [maxLen]; omega) (by omega) (LnS.base_alloc HMF.out _) ?_); intro v4 w4 ho4 hg4 hat4; obtain ⟨a4, c4, hv4, hm4⟩ := LnS.pushed HMF.out ho4 hg4; subst hv4; have HM4 := hide hm4; clear ho4 hg4 hat4 hm4))
                  have HR := HM4.out
                  rw [← HTK.out] at HR
                  have HR2 := hide HR
                  clear HR
                  go_wp2
                  go_roundw
                  case rel => exact ⟨k + 1, m + 1, a4, c4, by omega, by go_num, rfl, HR2⟩
                  case measure => simp [intOf]; omega
              · skip
                have q0 : (9223372036854775807 < 7 + s0.size) = False := by simp; omega
                have q1 : (9223372036854775807 < 7 + s0.size + 8) = False := by simp; omega
                have q2 : (9223372036854775807 < 7 + s0.size + 8 + s1.size) = False := by simp; omega
                have q3 : (9223372036854775807 < 7 + s0.size + 8 + s1.size + 7) = False := by simp; omega
                have q4 : (9223372036854775807 < 7 + s0.size + 8 + s1.size + 7 + s2.size) = False := by simp; omega
                have q5 : (9223372036854775807 < 7 + s0.size + 8 + s1.size + 7 + s2.size + 9) = False := by simp; omega
                have q6 : (9223372036854775807 < 7 + s0.size + 8 + s1.size + 7 + s2.size + 9 + s3.size) = False := by simp; omega
                have q7 : (9223372036854775807 < 7 + s0.size + 8 + s1.size + 7 + s2.size + 9 + s3.size + 1) = False := by simp; omega
                obtain ⟨T, hT⟩ : ∃ T, T = (((((((((⟨#[114, 101, 103, 105, 111, 110, 32]⟩ : ByteArray) ++ s0) ++ ⟨#[32, 123, 32, 98, 97, 115, 101, 32]⟩) ++ s1) ++ ⟨#[59, 32, 115, 105, 122, 101, 32]⟩) ++ s2) ++ ⟨#[59, 32, 114, 105, 103, 104, 116, 115, 32]⟩) ++ s3) ++ ⟨#[59]⟩) := ⟨_, rfl⟩
                have zT : T.size ≤ 300 := by rw [hT]; simp only [ByteArray.size_append]; simp only [lit_size, List.length_cons, List.length_nil]; omega
                have HW := hide (fun W => RWord_calls true ⟨#[]⟩ ⟨#[32, 115, 104, 97, 114, 101, 100, 59]⟩ W)
                have u0 : (9223372036854775807 < T.size + 8) = False := by simp; omega
                have u1 : (9223372036854775807 < T.size + 8 + 2) = False := by simp; omega
                have HE : ((T ++ ⟨#[32, 115, 104, 97, 114, 101, 100, 59]⟩) ++ ⟨#[32, 125]⟩) = ofL (regLn ⟨ba, sz, part, ri, true⟩) := by
                  apply bytes_eq
                  simp only [hT, list_append, hs0, hs1, hs2, hs3, ofL_list]
                  simp [regLn, regF, lnB, join_cons, joinTail]
                have htk := HTK0.out
                rw [← HE] at htk
                have HTK := hide htk
                have HT := hide hT
                have HM1 := hide (HRL.out.alloc (.cells #[.int .u64 (ba : Int), .int .u64 (sz : Int), .int .u16 (part : Int), .int .u8 (ri : Int), .bool true] 54)).drew
                have HB1 := hide (Blk.new wr 54 #[.int .u64 (ba : Int), .int .u64 (sz : Int), .int .u16 (part : Int), .int .u8 (ri : Int), .bool true]).drew
                have HSX : Hid (∀ w', Blk w' wr.heap.size 54 #[.int .u64 (ba : Int), .int .u64 (sz : Int), .int .u16 (part : Int), .int .u8 (ri : Int), .bool true] → (w'.cell? ⟨wr.heap.size, 0, none⟩ = some (.int .u64 (ba : Int)) ∧ w'.cell? ⟨wr.heap.size, 1, none⟩ = some (.int .u64 (sz : Int)) ∧ w'.cell? ⟨wr.heap.size, 2, none⟩ = some (.int .u16 (part : Int)) ∧ w'.cell? ⟨wr.heap.size, 3, none⟩ = some (.int .u8 (ri : Int)) ∧ w'.cell? ⟨wr.heap.size, 4, none⟩ = some (.bool true) ∧ Blk w' wr.heap.size 54 #[.int .u64 (ba : Int), .int .u64 (sz : Int), .int .u16 (part : Int), .int .u8 (ri : Int), .bool true])) := hide (fun W hW => ⟨hW.cell 0, hW.cell 1, hW.cell 2, hW.cell 3, hW.cell 4, hW⟩)
                clear htk HE HTK0 hT hs0 hs1 hs2 hs3
                go_wp2
                go_region_held3 (fun w' => (w'.cell? ⟨wr.heap.size, 0, none⟩ = some (.int .u64 (ba : Int)) ∧ w'.cell? ⟨wr.heap.size, 1, none⟩ = some (.int .u64 (sz : Int)) ∧ w'.cell? ⟨wr.heap.size, 2, none⟩ = some (.int .u16 (part : Int)) ∧ w'.cell? ⟨wr.heap.size, 3, none⟩ = some (.int .u8 (ri : Int)) ∧ w'.cell? ⟨wr.heap.size, 4, none⟩ = some (.bool true) ∧ Blk w' wr.heap.size 54 #[.int .u64 (ba : Int), .int .u64 (sz : Int), .int .u16 (part : Int), .int .u8 (ri : Int), .bool true]))
                  (first | with_reducible assumption | with_reducible exact HSX.out _ HB1.out | with_reducible exact HSX.out _ (by with_reducible assumption) | with_reducible exact HSX.out _ (Blk.alloc (And.right (And.right (And.right (And.right (And.right (by with_reducible assumption)))))) _) | fail)
                  (first
                  | (go_at_call 29; (try (first | rw [wp0.out] | rw [wp2.out])); (with_reducible first | refine (HC0.out _).mono ?_ | refine (HC2.out _).mono ?_); rintro e w2 ⟨rfl, hb⟩; have HM2 := hide (LnS.below (Hid.out (by with_reducible assumption)) hb); have hx2 := Blk.below (And.right (And.right (And.right (And.right (And.right (by with_reducible assumption)))))) hb (Blk.lt (And.right (And.right (And.right (And.right (And.right (by with_reducible assumption))))))))
                  | (go_at_call 34; refine (HC1.out _).mono ?_; rintro e w2 ⟨rfl, hb⟩; have HM2 := hide (LnS.below (Hid.out (by with_reducible assumption)) hb); have hx2 := Blk.below (And.right (And.right (And.right (And.right (And.right (by with_reducible assumption)))))) hb (Blk.lt (And.right (And.right (And.right (And.right (And.right (by with_reducible assumption))))))))
                  | (go_at_call 35; refine (HC3.out _).mono ?_; rintro e w2 ⟨rfl, rfl⟩))
                all_goals
                  rw [← HT.out]
                  obtain ⟨WF, hWF⟩ : ∃ W, W = w2 := ⟨_, rfl⟩
                  have HMF := hide (Hid.out (by with_reducible assumption : Hid (LnS w c P a m cap w2)))
                  rw [← hWF] at HMF
                  subst hWF
                  have y4 : WF.cell? ⟨wr.heap.size, 4, none⟩ = some (.bool true) := hx2.cell 4
                  go_wp2_with (first
                    | (go_at_call 36; refine (HW.out _).mono ?_; rintro e w3 ⟨rfl, rfl⟩)
                    | (at_builtin; go_must (refine wpList_append_any _ rfl (.tmp 118) (.tmp 125) 34 rfl (w.heap.size + 1) 9 i0 _ 1 16 Tryz.underlying34 HI.out hz0 hz1 hz2 rfl (by decide) (.slice a m cap) m (strsV P) rfl (HMF.out.2.2.alloc _) (WF.heap.size + 1) (some ⟨WF.heap.size, 0, none⟩) 1 1 [.string ((T ++ ⟨#[32, 115, 104, 97, 114, 101, 100, 59]⟩) ++ ⟨#[32, 125]⟩)] rfl (str_reads WF _) (strs_one _) (by simp only [maxLen]; omega) (by omega) (LnS.base_alloc HMF.out _) ?_); intro v4 w4 ho4 hg4 hat4; obtain ⟨a4, c4, hv4, hm4⟩ := LnS.pushed HMF.out ho4 hg4; subst hv4; have HM4 := hide hm4; clear ho4 hg4 hat4 hm4))
                  have HR := HM4.out
                  rw [← HTK.out] at HR
                  have HR2 := hide HR
                  clear HR
                  go_wp2
                  go_roundw
                  case rel => exact ⟨k + 1, m + 1, a4, c4, by omega, by go_num, rfl, HR2⟩
                  case measure => simp [intOf]; omega
            · obtain rfl : k = n3 := by omega
              have hfin := hrel.out
              rw [List.take_of_length_le (by rw [HN3.out]; exact Nat.le_refl _)] at hfin
              have HL3 := hide hfin
              obtain ⟨L3, hL3⟩ : ∃ L, L = L2 ++ c.regs.l.map fun x => ofL (regLn x) := ⟨_, rfl⟩
              rw [← hL3] at HL3
              have HEL3 := hide hL3
              have HLL3 : Hid (L3.length ≤ 3072) := hide (by rw [hL3, List.length_append, List.length_map]; have := HLL2.out; have := HF.out.regs; omega)
              clear hfin hrel hlt hk hL3
              go_wp2
              go_loopw [3, 11] (fun o v wr => ∃ (k m : Nat) (a : Option Addr) (cap : Nat), k ≤ n4 ∧ v = .int .i64 (k : Int) ∧ o = .slice a m cap ∧ Hid (LnS w c (L3 ++ (c.ports.l.take k).map fun x => ofL (portLn x)) a m cap wr)) (fun _ v _ => n4 - (intOf v).toNat)
              case atStart => exact ⟨0, _, _, _, Nat.zero_le _, rfl, rfl, hide (by simpa using HL3.out)⟩
              case round =>
                obtain ⟨k, m, a, cap, hk, rfl, rfl, hrel⟩ := hrel
                obtain ⟨b0, b1, b2, b3, b4, b5⟩ := hrel.out.1.cells
                rw [← HN4.out] at b4
                by_cases hlt : k < n4
                · have hlt2 : (k : Int) < (n4 : Int) := by omega
                  have hkl : k < c.ports.l.length := by have := HN4.out; omega
                  obtain ⟨b, o, ha, hab, x0, x1, x2, x3, x4, x5⟩ := port_at (HCF.out wr hrel.out.1).ports k hkl
                  rw [ha] at b4
                  have hcI : (n4 : Int) ≤ (c.ports.c : Int) := by have := (HCF.out wr hrel.out.1).ports.2.1; have := HN4.out; omega
                  have htk := take_map_snoc (fun x => ofL (portLn x)) L3 c.ports.l k hkl
                  have hxm := List.getElem_mem hkl
                  have hxo := HOK.out.ports _ hxm
                  have hml := hrel.out.2.1
                  have hm1 : m ≤ 100000 := by rw [hml, List.length_append, List.length_map, List.length_take]; have := HLL3.out; omega
                  have hnm := HF.out.qnames _ hxm
                  generalize c.ports.l[k] = x at *
                  obtain ⟨P, hP⟩ : ∃ P, P = L3 ++ (c.ports.l.take k).map fun x => ofL (portLn x) := ⟨_, rfl⟩
                  rw [← hP] at htk hrel
                  obtain ⟨pid, part, nm, out, que, sz⟩ := x
                  obtain ⟨h1, h2, h3⟩ := hxo
                  simp only at h1 h2 h3
                  simp only at hnm
                  simp only at x0 x1 x2 x3 x4 x5
                  have HC0 := hide (fun W => RNum_calls pid (by omega) W)
                  have wp0 : Hid (IntKind.u64.wrap (pid : Int) = (pid : Int)) := hide (by rw [IntKind.wrap_u64]; omega)
                  obtain ⟨s0, hs0⟩ : ∃ s, s = ofL (numB pid) := ⟨_, rfl⟩
                  rw [← hs0] at HC0
                  have z0 : s0.size ≤ 20 := by rw [hs0, ofL_size]; exact num_size (by omega)
                  have HC1 := hide (fun W => RefQuote_calls nm W hnm)
                  obtain ⟨s1, hs1⟩ : ∃ s, s = quoteS nm := ⟨_, rfl⟩
                  rw [← hs1] at HC1
                  have z1 : s1.size ≤ 2002 := by rw [hs1]; have := quote_size nm; omega
                  have HC2 := hide (fun W => RNum_calls part (by omega) W)
                  have wp2 : Hid (IntKind.u64.wrap (part : Int) = (part : Int)) := hide (by rw [IntKind.wrap_u64]; omega)
                  obtain ⟨s2, hs2⟩ : ∃ s, s = ofL (numB part) := ⟨_, rfl⟩
                  rw [← hs2] at HC2
                  have z2 : s2.size ≤ 20 := by rw [hs2, ofL_size]; exact num_size (by omega)
                  have HOX : Hid (∀ r, (Value.slice a m cap).ownBlock = some r → r < wr.heap.size) := hide (fun r hr => (own_lt2 hrel.out.2.2 r hr).2)
                  have hwz := hrel.out.1.2.lt
                  have HRL := hide hrel.out
                  have HTK0 := hide htk
                  clear htk hrel hP hxm hml ha hab h1 h2 hnm
                  have q0 : (9223372036854775807 < 5 + s0.size) = False := by simp; omega
                  have q1 : (9223372036854775807 < 5 + s0.size + 1) = False := by simp; omega
                  have q2 : (9223372036854775807 < 5 + s0.size + 1 + s1.size) = False := by simp; omega
                  have q3 : (9223372036854775807 < 5 + s0.size + 1 + s1.size + 13) = False := by simp; omega
                  have q4 : (9223372036854775807 < 5 + s0.size + 1 + s1.size + 13 + s2.size) = False := by simp; omega
                  have q5 : (9223372036854775807 < 5 + s0.size + 1 + s1.size + 13 + s2.size + 2) = False := by simp; omega
                  obtain ⟨T, hT⟩ : ∃ T, T = (((((((⟨#[112, 111, 114, 116, 32]⟩ : ByteArray) ++ s0) ++ ⟨#[32]⟩) ++ s1) ++ ⟨#[32, 123, 32, 112, 97, 114, 116, 105, 116, 105, 111, 110, 32]⟩) ++ s2) ++ ⟨#[59, 32]⟩) := ⟨_, rfl⟩
                  have zT : T.size ≤ 3000 := by rw [hT]; simp only [ByteArray.size_append]; simp only [lit_size, List.length_cons, List.length_nil]; omega
                  have HC3 := hide (fun W => RWord_calls out ⟨#[105, 110, 112, 117, 116]⟩ ⟨#[111, 117, 116, 112, 117, 116]⟩ W)
                  obtain ⟨s3, hs3⟩ : ∃ s, s = ofL (dirB out) := ⟨_, rfl⟩
                  have e3 : (if out then (⟨#[111, 117, 116, 112, 117, 116]⟩ : ByteArray) else ⟨#[105, 110, 112, 117, 116]⟩) = s3 := by rw [hs3]; cases out <;> rfl
                  rw [e3] at HC3
                  have z3 : s3.size ≤ 20 := by rw [hs3]; cases out <;> decide
                  have HC4 := hide (fun W => RWord_calls que ⟨#[115, 97, 109, 112, 108, 105, 110, 103]⟩ ⟨#[113, 117, 101, 117, 105, 110, 103]⟩ W)
                  obtain ⟨s4, hs4⟩ : ∃ s, s = ofL (kindB que) := ⟨_, rfl⟩
                  have e4 : (if que then (⟨#[113, 117, 101, 117, 105, 110, 103]⟩ : ByteArray) else ⟨#[115, 97, 109, 112, 108, 105, 110, 103]⟩) = s4 := by rw [hs4]; cases que <;> rfl
                  rw [e4] at HC4
                  have z4 : s4.size ≤ 20 := by rw [hs4]; cases que <;> decide
                  have HC5 := hide (fun W => RNum_calls sz (by omega) W)
                  have wp5 : Hid (IntKind.u64.wrap (sz : Int) = (sz : Int)) := hide (by rw [IntKind.wrap_u64]; omega)
                  obtain ⟨s5, hs5⟩ : ∃ s, s = ofL (numB sz) := ⟨_, rfl⟩
                  rw [← hs5] at HC5
                  have z5 : s5.size ≤ 20 := by rw [hs5, ofL_size]; exact num_size (by omega)
                  have q20 : (9223372036854775807 < T.size + s3.size) = False := by simp; omega
                  have q21 : (9223372036854775807 < T.size + s3.size + 2) = False := by simp; omega
                  have q22 : (9223372036854775807 < T.size + s3.size + 2 + s4.size) = False := by simp; omega
                  have q23 : (9223372036854775807 < T.size + s3.size + 2 + s4.size + 7) = False := by simp; omega
                  have q24 : (9223372036854775807 < T.size + s3.size + 2 + s4.size + 7 + s5.size) = False := by simp; omega
                  have q25 : (9223372036854775807 < T.size + s3.size + 2 + s4.size + 7 + s5.size + 3) = False := by simp; omega
                  have HE : ((((((T ++ s3) ++ ⟨#[59, 32]⟩) ++ s4) ++ ⟨#[59, 32, 115, 105, 122, 101, 32]⟩) ++ s5) ++ ⟨#[59, 32, 125]⟩) = ofL (portLn ⟨pid, part, nm, out, que, sz⟩) := by
                    apply bytes_eq
                    simp only [list_append, hT, hs0, hs1, hs2, hs3, hs4, hs5, ofL_list]
                    simp [portLn, lnB, quoteN, join_cons, joinTail]
                  have htk := HTK0.out
                  rw [← HE] at htk
                  have HTK := hide htk
                  have HT := hide hT
                  have HM1 := hide (HRL.out.alloc (.cells #[.int .u16 (pid : Int), .int .u16 (part : Int), .string nm, .bool out, .bool que, .int .u32 (sz : Int)] 74)).drew
                  have HB1 := hide (Blk.new wr 74 #[.int .u16 (pid : Int), .int .u16 (part : Int), .string nm, .bool out, .bool que, .int .u32 (sz : Int)]).drew
                  have HSX : Hid (∀ w', Blk w' wr.heap.size 74 #[.int .u16 (pid : Int), .int .u16 (part : Int), .string nm, .bool out, .bool que, .int .u32 (sz : Int)] → (w'.cell? ⟨wr.heap.size, 0, none⟩ = some (.int .u16 (pid : Int)) ∧ w'.cell? ⟨wr.heap.size, 1, none⟩ = some (.int .u16 (part : Int)) ∧ w'.cell? ⟨wr.heap.size, 2, none⟩ = some (.string nm) ∧ w'.cell? ⟨wr.heap.size, 3, none⟩ = some (.bool out) ∧ w'.cell? ⟨wr.heap.size, 4, none⟩ = some (.bool que) ∧ w'.cell? ⟨wr.heap.size, 5, none⟩ = some (.int .u32 (sz : Int)) ∧ Blk w' wr.heap.size 74 #[.int .u16 (pid : Int), .int .u16 (part : Int), .string nm, .bool out, .bool que, .int .u32 (sz : Int)])) := hide (fun W hW => ⟨hW.cell 0, hW.cell 1, hW.cell 2, hW.cell 3, hW.cell 4, hW.cell 5, hW⟩)
                  clear htk HE HTK0 hT hs0 hs1 hs2 hs3 hs4 hs5
                  go_wp2
                  go_region_held3 (fun w' => (w'.cell? ⟨wr.heap.size, 0, none⟩ = some (.int .u16 (pid : Int)) ∧ w'.cell? ⟨wr.heap.size, 1, none⟩ = some (.int .u16 (part : Int)) ∧ w'.cell? ⟨wr.heap.size, 2, none⟩ = some (.string nm) ∧ w'.cell? ⟨wr.heap.size, 3, none⟩ = some (.bool out) ∧ w'.cell? ⟨wr.heap.size, 4, none⟩ = some (.bool que) ∧ w'.cell? ⟨wr.heap.size, 5, none⟩ = some (.int .u32 (sz : Int)) ∧ Blk w' wr.heap.size 74 #[.int .u16 (pid : Int), .int .u16 (part : Int), .string nm, .bool out, .bool que, .int .u32 (sz : Int)]))
                    (first | with_reducible assumption | with_reducible exact HSX.out _ HB1.out | with_reducible exact HSX.out _ (by with_reducible assumption) | with_reducible exact HSX.out _ (Blk.alloc (And.right (And.right (And.right (And.right (And.right (And.right (by with_reducible assumption))))))) _) | fail)
                    (first
                    | (go_at_call 29; (try (first | rw [wp0.out] | rw [wp2.out])); (with_reducible first | refine (HC0.out _).mono ?_ | refine (HC2.out _).mono ?_); rintro e w2 ⟨rfl, hb⟩; have HM2 := hide (LnS.below (Hid.out (by with_reducible assumption)) hb); have hx2 := Blk.below (And.right (And.right (And.right (And.right (And.right (And.right (by with_reducible assumption))))))) hb (Blk.lt (And.right (And.right (And.right (And.right (And.right (And.right (by with_reducible assumption)))))))))
                    | (go_at_call 33; refine (HC1.out _).mono ?_; rintro e w2 ⟨rfl, rfl⟩))
                  all_goals
                    rw [← HT.out]
                    have HB9 := hide hx2.drew
                    have HM9 := hide (LnS.drew (Hid.out (by with_reducible assumption : Hid (LnS w c P a m cap w2))))
                    clear hx2
                    go_wp2
                    go_region_held3 (fun w' => (w'.cell? ⟨wr.heap.size, 0, none⟩ = some (.int .u16 (pid : Int)) ∧ w'.cell? ⟨wr.heap.size, 1, none⟩ = some (.int .u16 (part : Int)) ∧ w'.cell? ⟨wr.heap.size, 2, none⟩ = some (.string nm) ∧ w'.cell? ⟨wr.heap.size, 3, none⟩ = some (.bool out) ∧ w'.cell? ⟨wr.heap.size, 4, none⟩ = some (.bool que) ∧ w'.cell? ⟨wr.heap.size, 5, none⟩ = some (.int .u32 (sz : Int)) ∧ Blk w' wr.heap.size 74 #[.int .u16 (pid : Int), .int .u16 (part : Int), .string nm, .bool out, .bool que, .int .u32 (sz : Int)]))
                      (first | with_reducible assumption | with_reducible exact HSX.out _ HB9.out | with_reducible exact HSX.out _ (by with_reducible assumption) | with_reducible exact HSX.out _ (Blk.alloc (And.right (And.right (And.right (And.right (And.right (And.right (by with_reducible assumption))))))) _) | fail)
                      (first
                      | (go_at_call 36; (first | refine (HC3.out _).mono ?_ | refine (HC4.out _).mono ?_); rintro e w2 ⟨rfl, rfl⟩)
                      | (go_at_call 29; (try simp only [wp5.out]); refine (HC5.out _).mono ?_; rintro e w2 ⟨rfl, hb⟩; have HM2 := hide (LnS.below (Hid.out (by with_reducible assumption)) hb); have hx2 := Blk.below (And.right (And.right (And.right (And.right (And.right (And.right (by with_reducible assumption))))))) hb (Blk.lt (And.right (And.right (And.right (And.right (And.right (And.right (by with_reducible assumption)))))))))
                      | (refine step_append_any _ rfl (.tmp 156) (.tmp 174) 34 rfl (w.heap.size + 1) 9 i0 _ 1 16 Tryz.underlying34 HI.out hz0 hz1 hz2 rfl (by decide) (.slice a m cap) m (strsV P) ?hs156 ?hown156 (w2.heap.size + 1) (some ⟨w2.heap.size, 0, none⟩) 1 1 [.string ((((((T ++ s3) ++ ⟨#[59, 32]⟩) ++ s4) ++ ⟨#[59, 32, 115, 105, 122, 101, 32]⟩) ++ s5) ++ ⟨#[59, 32, 125]⟩)] ?hx156 ?hr156 (strs_one _) ?h63156 ?hby156 ?hbase156 ?hh156; (case hs156 => (simp [Act.eval])); (case hx156 => (simp [Act.eval])); (case hown156 => (exact ((Hid.out (by with_reducible assumption : Hid (LnS w c P a m cap w2))).2.2.alloc _))); (case hr156 => (exact (str_reads w2 _))); (case h63156 => (simp only [maxLen]; omega)); (case hby156 => omega); (case hbase156 => (exact (LnS.base_alloc (Hid.out (by with_reducible assumption : Hid (LnS w c P a m cap w2))) _))); intro v4 w4 ho4 hg4 hat4; obtain ⟨a4, c4, hv4, hm4⟩ := LnS.pushed (Hid.out (by with_reducible assumption : Hid (LnS w c P a m cap w2))) ho4 hg4; subst hv4; have HM4 := hide hm4; have hx4 : Blk w4 wr.heap.size 74 #[.int .u16 (pid : Int), .int .u16 (part : Int), .string nm, .bool out, .bool que, .int .u32 (sz : Int)] := (by first | exact Blk.grown (And.right (And.right (And.right (And.right (And.right (And.right (by with_reducible assumption))))))) hg4 (fun e => by have := HOX.out _ e.symm; omega) | exact Blk.grown (Blk.alloc hx2 _) hg4 (fun e => by have := HOX.out _ e.symm; omega)); clear ho4 hg4 hat4 hm4))
                    all_goals
                      have HR := HM4.out
                      rw [← HTK.out] at HR
                      have HR2 := hide HR
                      clear HR
                      go_wp2
                      go_roundw
                      case rel => exact ⟨k + 1, m + 1, a4, c4, by omega, by go_num, rfl, HR2⟩
                      case measure => simp [intOf]; omega
                · obtain rfl : k = n4 := by omega
                  have hfin := hrel.out
                  rw [List.take_of_length_le (by rw [HN4.out]; exact Nat.le_refl _)] at hfin
                  have HL4 := hide hfin
                  obtain ⟨L4, hL4⟩ : ∃ L, L = L3 ++ c.ports.l.map fun x => ofL (portLn x) := ⟨_, rfl⟩
                  rw [← hL4] at HL4
                  have HEL4 := hide hL4
                  have HLL4 : Hid (L4.length ≤ 4096) := hide (by rw [hL4, List.length_append, List.length_map]; have := HLL3.out; have := HF.out.ports; omega)
                  clear hfin hrel hlt hk hL4
                  go_wp2
                  go_loopw [3, 14] (fun o v wr => ∃ (k m : Nat) (a : Option Addr) (cap : Nat), k ≤ n5 ∧ v = .int .i64 (k : Int) ∧ o = .slice a m cap ∧ Hid (LnS w c (L4 ++ (c.chans.l.take k).map fun x => ofL (chanLn x)) a m cap wr)) (fun _ v _ => n5 - (intOf v).toNat)
                  case atStart => exact ⟨0, _, _, _, Nat.zero_le _, rfl, rfl, hide (by simpa using HL4.out)⟩
                  case round =>
                    obtain ⟨k, m, a, cap, hk, rfl, rfl, hrel⟩ := hrel
                    obtain ⟨b0, b1, b2, b3, b4, b5⟩ := hrel.out.1.cells
                    rw [← HN5.out] at b5
                    by_cases hlt : k < n5
                    · have hlt2 : (k : Int) < (n5 : Int) := by omega
                      have hkl : k < c.chans.l.length := by have := HN5.out; omega
                      obtain ⟨b, o, ha, hab, x0, x1, x2⟩ := chan_at (HCF.out wr hrel.out.1).chans k hkl
                      rw [ha] at b5
                      have hcI : (n5 : Int) ≤ (c.chans.c : Int) := by have := (HCF.out wr hrel.out.1).chans.2.1; have := HN5.out; omega
                      have htk := take_map_snoc (fun x => ofL (chanLn x)) L4 c.chans.l k hkl
                      have hxm := List.getElem_mem hkl
                      have hxo := HOK.out.chans _ hxm
                      have hml := hrel.out.2.1
                      have hm1 : m ≤ 100000 := by rw [hml, List.length_append, List.length_map, List.length_take]; have := HLL4.out; omega
                      have hdl := HF.out.links _ hxm
                      have hda := hide (fun W (hW : Boxed1 w c W) => ((HCF.out W hW).dests _ hxm))
                      generalize c.chans.l[k] = x at *
                      obtain ⟨P, hP⟩ : ∃ P, P = L4 ++ (c.chans.l.take k).map fun x => ofL (chanLn x) := ⟨_, rfl⟩
                      rw [← hP] at htk hrel
                      obtain ⟨cid, src, ds, dat, dcp⟩ := x
                      obtain ⟨h1, h2, h3⟩ := hxo
                      simp only at h1 h2 h3
                      simp only at hdl
                      obtain ⟨nd, hnd⟩ : ∃ n, n = ds.length := ⟨_, rfl⟩
                      have HND := hide hnd
                      have hndI : (nd : Int) ≤ 1024 := by omega
                      simp only at x0 x1 x2
                      have HC0 := hide (fun W => RNum_calls cid (by omega) W)
                      have wp0 : Hid (IntKind.u64.wrap (cid : Int) = (cid : Int)) := hide (by rw [IntKind.wrap_u64]; omega)
                      obtain ⟨s0, hs0⟩ : ∃ s, s = ofL (numB cid) := ⟨_, rfl⟩
                      rw [← hs0] at HC0
                      have z0 : s0.size ≤ 20 := by rw [hs0, ofL_size]; exact num_size (by omega)
                      have HC1 := hide (fun W => RNum_calls src (by omega) W)
                      have wp1 : Hid (IntKind.u64.wrap (src : Int) = (src : Int)) := hide (by rw [IntKind.wrap_u64]; omega)
                      obtain ⟨s1, hs1⟩ : ∃ s, s = ofL (numB src) := ⟨_, rfl⟩
                      rw [← hs1] at HC1
                      have z1 : s1.size ≤ 20 := by rw [hs1, ofL_size]; exact num_size (by omega)
                      have HOX : Hid (∀ r, (Value.slice a m cap).ownBlock = some r → r < wr.heap.size) := hide (fun r hr => (own_lt2 hrel.out.2.2 r hr).2)
                      have hwz := hrel.out.1.2.lt
                      have HRL := hide hrel.out
                      have HTK0 := hide htk
                      clear htk hrel hP hxm hml ha hab h1 h2 hdl
                      have q0 : (9223372036854775807 < 8 + s0.size) = False := by simp; omega
                      have q1 : (9223372036854775807 < 8 + s0.size + 10) = False := by simp; omega
                      have q2 : (9223372036854775807 < 8 + s0.size + 10 + s1.size) = False := by simp; omega
                      have q3 : (9223372036854775807 < 8 + s0.size + 10 + s1.size + 4) = False := by simp; omega
                      obtain ⟨T, hT⟩ : ∃ T, T = (((((⟨#[99, 104, 97, 110, 110, 101, 108, 32]⟩ : ByteArray) ++ s0) ++ ⟨#[32, 123, 32, 115, 111, 117, 114, 99, 101, 32]⟩) ++ s1) ++ ⟨#[59, 32, 116, 111]⟩) := ⟨_, rfl⟩
                      have zT : T.size ≤ 100 := by rw [hT]; simp only [ByteArray.size_append]; simp only [lit_size, List.length_cons, List.length_nil]; omega
                      have HE : (T ++ ofL (tailD ds)) ++ ⟨#[59, 32, 125]⟩ = ofL (chanLn ⟨cid, src, ds, dat, dcp⟩) := by
                        apply bytes_eq
                        simp only [hT, list_append, hs0, hs1, ofL_list]
                        simp [chanLn, lnB, toB_tail, join_cons, joinTail]
                      have htk := HTK0.out
                      rw [← HE] at htk
                      have HTK := hide htk
                      have HT := hide hT
                      have HH3 := hide h3
                      have HDA := hda
                      have hcD : (nd : Int) ≤ (dcp : Int) := by have := (HDA.out wr HRL.out.1).2.1; simp only at this; omega
                      rw [← hnd] at x2
                      have HM1 := hide (HRL.out.alloc (.cells #[.int .u16 (cid : Int), .int .u16 (src : Int), .slice dat nd dcp] 57)).drew
                      have HB1 := hide (Blk.new wr 57 #[.int .u16 (cid : Int), .int .u16 (src : Int), .slice dat nd dcp]).drew
                      have HSX : Hid (∀ w', Blk w' wr.heap.size 57 #[.int .u16 (cid : Int), .int .u16 (src : Int), .slice dat nd dcp] → (w'.cell? ⟨wr.heap.size, 0, none⟩ = some (.int .u16 (cid : Int)) ∧ w'.cell? ⟨wr.heap.size, 1, none⟩ = some (.int .u16 (src : Int)) ∧ w'.cell? ⟨wr.heap.size, 2, none⟩ = some (.slice dat nd dcp) ∧ Blk w' wr.heap.size 57 #[.int .u16 (cid : Int), .int .u16 (src : Int), .slice dat nd dcp])) := hide (fun W hW => ⟨hW.cell 0, hW.cell 1, hW.cell 2, hW⟩)
                      clear htk HE HTK0 hT hnd hda h3 hs0 hs1
                      go_wp2
                      go_region_held3 (fun w' => (w'.cell? ⟨wr.heap.size, 0, none⟩ = some (.int .u16 (cid : Int)) ∧ w'.cell? ⟨wr.heap.size, 1, none⟩ = some (.int .u16 (src : Int)) ∧ w'.cell? ⟨wr.heap.size, 2, none⟩ = some (.slice dat nd dcp) ∧ Blk w' wr.heap.size 57 #[.int .u16 (cid : Int), .int .u16 (src : Int), .slice dat nd dcp]))
                        (first | with_reducible assumption | with_reducible exact HSX.out _ HB1.out | with_reducible exact HSX.out _ (by with_reducible assumption) | with_reducible exact HSX.out _ (Blk.alloc (And.right (And.right (And.right (by with_reducible assumption)))) _) | fail)
                        (first
                        | (go_at_call 29; (try (first | rw [wp0.out] | rw [wp1.out])); (with_reducible first | refine (HC0.out _).mono ?_ | refine (HC1.out _).mono ?_); rintro e w2 ⟨rfl, hb⟩; have HM2 := hide (LnS.below (Hid.out (by with_reducible assumption)) hb); have hx2 := Blk.below (And.right (And.right (And.right (by with_reducible assumption)))) hb (Blk.lt (And.right (And.right (And.right (by with_reducible assumption)))))))
                      all_goals
                        rw [← HT.out]
                        have hB9 := hx2
                        obtain ⟨WF, hWF⟩ : ∃ W, W = w2 := ⟨_, rfl⟩
                        have HMF := hide (Hid.out (by with_reducible assumption : Hid (LnS w c P a m cap w2)))
                        rw [← hWF] at HMF hB9
                        subst hWF
                        clear hx2 HSX HM1 HB1 HRL HOX b0 b1 b2 b3 b4 b5 x0 x1 x2 hcI
                        obtain ⟨g0, hg0⟩ : ∃ n, n = wr.heap.size := ⟨_, rfl⟩
                        rw [← hg0] at hB9 ⊢
                        have HB9 := hide hB9
                        clear hB9 hg0 hwz
                        go_wp2
                        go_loopw [16, 17] (fun t v wq => ∃ (j : Nat) (U : ByteArray), j ≤ nd ∧ v = .int .i64 (j : Int) ∧ t = .string U ∧ Hid (U = T ++ ofL (tailD (ds.take j)) ∧ LnS w c P a m cap wq ∧ Blk wq g0 57 #[.int .u16 (cid : Int), .int .u16 (src : Int), .slice dat nd dcp])) (fun _ v _ => nd - (intOf v).toNat)
                        case atStart => exact ⟨0, T, Nat.zero_le _, rfl, rfl, hide ⟨bytes_eq (by rw [list_append, ofL_list]; simp [tailD]), HMF.out, HB9.out⟩⟩
                        case round =>
                          obtain ⟨j, U, hj, rfl, rfl, hrel⟩ := hrel
                          have y2 : wr.cell? ⟨g0, 2, none⟩ = some (.slice dat nd dcp) := hrel.out.2.2.cell 2
                          by_cases hlt : j < nd
                          · have hlt2 : (j : Int) < (nd : Int) := by omega
                            have hjl : j < ds.length := by have := HND.out; omega
                            obtain ⟨b, o, ha, _⟩ := dest_cell (HDA.out wr hrel.out.2.1.1) j hjl
                            simp only at ha
                            have hz := hrel.out.1
                            have hU : U.size ≤ 30000 := by
                              rw [hz, ByteArray.size_append, ofL_size]
                              have h8 := tailD_size j (ds.take j) (by rw [List.length_take]; omega) (fun d hd => HH3.out d (List.mem_of_mem_take hd))
                              omega
                            have HC0 := hide (fun W => RNum_calls ds[j] (by have := HH3.out ds[j] (List.getElem_mem _); omega) W)
                            have wp0 : Hid (IntKind.u64.wrap (ds[j] : Int) = (ds[j] : Int)) := hide (by rw [IntKind.wrap_u64]; have := HH3.out ds[j] (List.getElem_mem _); omega)
                            obtain ⟨s0, hs0⟩ : ∃ s, s = ofL (numB ds[j]) := ⟨_, rfl⟩
                            have z0 : s0.size ≤ 20 := by rw [hs0, ofL_size]; exact num_size (by have := HH3.out ds[j] (List.getElem_mem _); omega)
                            have HSN : Hid (∀ sep : ByteArray, sep.data.toList = (if ds.take j = [] then [32] else [44, 32]) → ((U ++ sep) ++ s0) = T ++ ofL (tailD (ds.take (j + 1)))) := hide (fun sep hsep => by
                              apply bytes_eq
                              rw [List.take_succ_eq_append_getElem hjl, tailD_snoc]
                              simp only [list_append, hz, hs0, hsep, ofL_list, List.append_assoc])
                            have hnil : ds.take j = [] ↔ j = 0 := by rw [List.take_eq_nil_iff]; constructor <;> intro h <;> (try rcases h with h | h) <;> first | omega | (left; omega) | (exfalso; rw [h] at hjl; simp at hjl)
                            have HNIL := hide hnil
                            rw [← hs0] at HC0
                            have HD : Hid (∀ W, Boxed1 w c W → W.cell? ⟨b, o + j, none⟩ = some (.int .u16 (ds[j] : Int))) := hide (fun W hW => by
                              obtain ⟨b2, o2, e2, hc2⟩ := dest_cell (HDA.out W hW) j hjl
                              simp only at e2 hc2
                              rw [ha] at e2
                              injection e2 with e2
                              injection e2 with e3 e4 _
                              rw [e3, e4]
                              exact hc2)
                            subst ha
                            clear hz hs0 hnil
                            generalize ds[j] = dj at *
                            have HSX : Hid (∀ W, LnS w c P a m cap W → Blk W g0 57 #[.int .u16 (cid : Int), .int .u16 (src : Int), .slice (some ⟨b, o, none⟩) nd dcp] → (W.cell? ⟨g0, 2, none⟩ = some (.slice (some ⟨b, o, none⟩) nd dcp) ∧ W.cell? ⟨b, o + j, none⟩ = some (.int .u16 (dj : Int)) ∧ Blk W g0 57 #[.int .u16 (cid : Int), .int .u16 (src : Int), .slice (some ⟨b, o, none⟩) nd dcp])) := hide (fun W h1 h2 => ⟨h2.cell 2, HD.out W h1.1, h2⟩)
                            have HB8 := hide (Blk.drew hrel.out.2.2)
                            have HM8 := hide (LnS.drew hrel.out.2.1)
                            rcases Nat.eq_zero_or_pos j with hj0 | hj0
                            · have HW : Hid (∀ W q, q = false → Calls Tryz.prog 36 #[.bool q, .string ⟨#[32]⟩, .string ⟨#[44, 32]⟩] W fun e w' => e = .returned (.string ⟨#[32]⟩) ∧ W = w') := hide (fun W q hq => by subst hq; exact RWord_calls false ⟨#[32]⟩ ⟨#[44, 32]⟩ W)
                              have HEN := HSN.out ⟨#[32]⟩ (by rw [if_pos (HNIL.out.2 hj0)])
                              have HEN2 := hide HEN
                              have u0 : (9223372036854775807 < U.size + 1) = False := by simp; omega
                              have u1 : (9223372036854775807 < U.size + 1 + s0.size) = False := by simp; omega
                              have hj1 : ¬ (0 : Int) < (j : Int) := by omega
                              clear HEN HSN HNIL HD hrel hj0
                              go_wp2
                              go_region_held3 (fun w' => (w'.cell? ⟨g0, 2, none⟩ = some (.slice (some ⟨b, o, none⟩) nd dcp) ∧ w'.cell? ⟨b, o + j, none⟩ = some (.int .u16 (dj : Int)) ∧ Blk w' g0 57 #[.int .u16 (cid : Int), .int .u16 (src : Int), .slice (some ⟨b, o, none⟩) nd dcp]))
                                (first | with_reducible assumption | with_reducible exact HSX.out _ HM8.out HB8.out | with_reducible exact HSX.out _ (Hid.out (by with_reducible assumption)) (by with_reducible assumption) | fail)
                                (first
                                | (go_at_call 36; refine (HW.out _ _ (by first | rfl | exact decide_eq_true (by omega) | exact decide_eq_false (by omega))).mono ?_; rintro e w2 ⟨rfl, rfl⟩)
                                | (go_at_call 29; (try simp only [wp0.out]); refine (HC0.out _).mono ?_; rintro e w2 ⟨rfl, hb⟩; have HM2 := hide (LnS.below HM8.out hb); have hx2 := Blk.below HB8.out hb (Blk.lt HB8.out)))
                              all_goals
                                have HR : Hid (((U ++ ⟨#[32]⟩) ++ s0) = T ++ ofL (tailD (ds.take (j + 1))) ∧ LnS w c P a m cap w2 ∧ Blk w2 g0 57 #[.int .u16 (cid : Int), .int .u16 (src : Int), .slice (some ⟨b, o, none⟩) nd dcp]) := hide ⟨HEN2.out, HM2.out, hx2⟩
                                clear hx2
                                go_wp2
                                go_roundw
                                case rel => exact ⟨j + 1, _, by omega, by go_num, rfl, HR⟩
                                case measure => simp [intOf]; omega
                            · have HW : Hid (∀ W q, q = true → Calls Tryz.prog 36 #[.bool q, .string ⟨#[32]⟩, .string ⟨#[44, 32]⟩] W fun e w' => e = .returned (.string ⟨#[44, 32]⟩) ∧ W = w') := hide (fun W q hq => by subst hq; exact RWord_calls true ⟨#[32]⟩ ⟨#[44, 32]⟩ W)
                              have HEN := HSN.out ⟨#[44, 32]⟩ (by rw [if_neg (fun e => by have := HNIL.out.1 e; omega)])
                              have HEN2 := hide HEN
                              have u0 : (9223372036854775807 < U.size + 2) = False := by simp; omega
                              have u1 : (9223372036854775807 < U.size + 2 + s0.size) = False := by simp; omega
                              have hj1 : (0 : Int) < (j : Int) := by omega
                              clear HEN HSN HNIL HD hrel hj0
                              go_wp2
                              go_region_held3 (fun w' => (w'.cell? ⟨g0, 2, none⟩ = some (.slice (some ⟨b, o, none⟩) nd dcp) ∧ w'.cell? ⟨b, o + j, none⟩ = some (.int .u16 (dj : Int)) ∧ Blk w' g0 57 #[.int .u16 (cid : Int), .int .u16 (src : Int), .slice (some ⟨b, o, none⟩) nd dcp]))
                                (first | with_reducible assumption | with_reducible exact HSX.out _ HM8.out HB8.out | with_reducible exact HSX.out _ (Hid.out (by with_reducible assumption)) (by with_reducible assumption) | fail)
                                (first
                                | (go_at_call 36; refine (HW.out _ _ (by first | rfl | exact decide_eq_true (by omega) | exact decide_eq_false (by omega))).mono ?_; rintro e w2 ⟨rfl, rfl⟩)
                                | (go_at_call 29; (try simp only [wp0.out]); refine (HC0.out _).mono ?_; rintro e w2 ⟨rfl, hb⟩; have HM2 := hide (LnS.below HM8.out hb); have hx2 := Blk.below HB8.out hb (Blk.lt HB8.out)))
                              all_goals
                                have HR : Hid (((U ++ ⟨#[44, 32]⟩) ++ s0) = T ++ ofL (tailD (ds.take (j + 1))) ∧ LnS w c P a m cap w2 ∧ Blk w2 g0 57 #[.int .u16 (cid : Int), .int .u16 (src : Int), .slice (some ⟨b, o, none⟩) nd dcp]) := hide ⟨HEN2.out, HM2.out, hx2⟩
                                clear hx2
                                go_wp2
                                go_roundw
                                case rel => exact ⟨j + 1, _, by omega, by go_num, rfl, HR⟩
                                case measure => simp [intOf]; omega
                          · have hjn : j = nd := by omega
                            have hfin := hrel.out
                            rw [List.take_of_length_le (by rw [← HND.out]; omega)] at hfin
                            obtain ⟨hUE, hML, _⟩ := hfin
                            have hUz : U.size ≤ 30000 := by
                              rw [hUE, ByteArray.size_append, ofL_size]
                              have h8 := tailD_size nd ds HND.out.symm HH3.out
                              have h7 := hndI
                              omega
                            have htk2 := HTK.out
                            rw [← hUE] at htk2
                            have HTK := hide htk2
                            obtain ⟨WF, hWF⟩ : ∃ W, W = wr := ⟨_, rfl⟩
                            have hol := own_lt2 hML.2.2
                            have HMF := hide hML
                            rw [← hWF] at HMF hol
                            subst hWF
                            have u0 : (9223372036854775807 < U.size + 3) = False := by simp; omega
                            clear hrel hUE hML htk2 hlt hj HDA HH3 HND
                            go_wp2_with (at_builtin; go_must (refine wpList_append_any _ rfl (.tmp 220) (.tmp 223) 34 rfl (w.heap.size + 1) 9 i0 _ 1 16 Tryz.underlying34 HI.out hz0 hz1 hz2 rfl (by decide) (.slice a m cap) m (strsV P) rfl (HMF.out.2.2.alloc _) (WF.heap.size + 1) (some ⟨WF.heap.size, 0, none⟩) 1 1 [.string (U ++ ⟨#[59, 32, 125]⟩)] rfl (str_reads WF _) (strs_one _) (by simp only [maxLen]; omega) (by omega) (LnS.base_alloc HMF.out _) ?_); intro v4 w4 ho4 hg4 hat4; obtain ⟨a4, c4, hv4, hm4⟩ := LnS.pushed HMF.out ho4 hg4; subst hv4; have HM4 := hide hm4; clear ho4 hg4 hat4 hm4)
                            have HR := HM4.out
                            rw [← HTK.out] at HR
                            have HR2 := hide HR
                            clear HR
                            go_wp2
                            go_roundw
                            case rel => exact ⟨k + 1, m + 1, a4, c4, by omega, by go_num, rfl, HR2⟩
                            case measure => simp [intOf]; omega
                    · obtain rfl : k = n5 := by omega
                      have hfin := hrel.out
                      rw [List.take_of_length_le (by rw [HN5.out]; exact Nat.le_refl _)] at hfin
                      have HL5 := hide hfin
                      obtain ⟨L5, hL5⟩ : ∃ L, L = L4 ++ c.chans.l.map fun x => ofL (chanLn x) := ⟨_, rfl⟩
                      rw [← hL5] at HL5
                      have HEL5 := hide hL5
                      have HLL5 : Hid (L5.length ≤ 5120) := hide (by rw [hL5, List.length_append, List.length_map]; have := HLL4.out; have := HF.out.chans; omega)
                      clear hfin hrel hlt hk hL5
                      go_wp2
                      go_ret
                      have hS : linesS c = L5 := by rw [HEL5.out, HEL4.out, HEL3.out, HEL2.out, HEL1.out, HEL0.out]; simp [linesS]
                      rw [hS]
                      have hm := HL5.out.2.1
                      subst hm
                      exact ⟨a, cap, rfl, own_base HL5.out.2.2 (Nat.le_succ _), HL5.out.1.1⟩
end Go.Proofs.YtcnihmlmaigkdaaGreatDoor
