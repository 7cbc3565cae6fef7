/- show: the writer's methods partition, window, port (chapter 08). Written by genshmeth.py. -/
import Derived.Test.YtcnihmlmaigkdaaGreatDoorShMeth
namespace Go.Proofs.YtcnihmlmaigkdaaGreatDoor
open Go.RowKit Go.Lib Go.Sort
set_option linter.unusedVariables false

set_option maxRecDepth 100000 in
set_option maxHeartbeats 8000000 in
theorem Wpartition_calls (B g : Nat) (L : List ByteArray) (x : PartR) (hx : x.Ok) (hnm : x.name.size ≤ 1000) (w : World) (h : WrAt B w.heap.size g L w) (hL : L.length ≤ 1000000) (hv : VarT w) (hG : TLow B) :
    Calls Tryz.prog 55 #[.pointer (some ⟨g, 0, none⟩), .agg (partCs x)] w (MethW B g L (ofL (partLn x)) w) := by
  obtain ⟨pid, nm, per, dur⟩ := x
  obtain ⟨h1, _, h3, h4⟩ := hx
  simp only at h1 h3 h4 hnm
  have hM0 := Mid.start h
  have HV := hide (fun W (hW : Mid B g L w W) => (hv.only hG hW.2).1)
  have HV2 := hide (fun W (hW : Mid B g L w W) => (hv.only hG hW.2).2)
  have HC0 := hide (fun W (hW : Hid (Mid B g L w W)) => id_calls pid h1 W (HV.out W hW.out))
  obtain ⟨s0, hs0⟩ : ∃ s, s = ofL (numB pid) := ⟨_, rfl⟩
  rw [← hs0] at HC0
  have z0 : s0.size ≤ 20 := by rw [hs0, ofL_size]; exact num_size (by omega)
  have HC1 := hide (fun W (hW : Hid (Mid B g L w W)) => Quote_calls nm W)
  obtain ⟨s1, hs1⟩ : ∃ s, s = quoteS nm := ⟨_, rfl⟩
  rw [← hs1] at HC1
  have z1 : s1.size ≤ 2002 := by rw [hs1]; have := quote_size nm; omega
  have HC2 := hide (fun W (hW : Hid (Mid B g L w W)) => Decimal_calls per h3 W (HV.out W hW.out))
  obtain ⟨s2, hs2⟩ : ∃ s, s = ofL (numB per) := ⟨_, rfl⟩
  have e2 : (⟨(digL 10 per).toArray⟩ : ByteArray) = s2 := hs2.symm
  rw [e2] at HC2
  have z2 : s2.size ≤ 20 := by rw [hs2, ofL_size]; exact num_size (by omega)
  have HC3 := hide (fun W (hW : Hid (Mid B g L w W)) => Decimal_calls dur h4 W (HV.out W hW.out))
  obtain ⟨s3, hs3⟩ : ∃ s, s = ofL (numB dur) := ⟨_, rfl⟩
  have e3 : (⟨(digL 10 dur).toArray⟩ : ByteArray) = s3 := hs3.symm
  rw [e3] at HC3
  have z3 : s3.size ≤ 20 := by rw [hs3, ofL_size]; exact num_size (by omega)
  have q0 : (9223372036854775807 < 10 + s0.size) = False := by simp; omega
  have q1 : (9223372036854775807 < 10 + s0.size + 1) = False := by simp; omega
  have q2 : (9223372036854775807 < 10 + s0.size + 1 + s1.size) = False := by simp; omega
  have q3 : (9223372036854775807 < 7 + s2.size) = False := by simp; omega
  have q4 : (9223372036854775807 < 9 + s3.size) = False := by simp; omega
  have HLN := hide (fun W (hW : Mid B g L w W) => line_new hW hL ((((⟨#[112, 97, 114, 116, 105, 116, 105, 111, 110, 32]⟩ : ByteArray) ++ s0) ++ ⟨#[32]⟩) ++ s1) [((⟨#[112, 101, 114, 105, 111, 100, 32]⟩ : ByteArray) ++ s2), ((⟨#[100, 117, 114, 97, 116, 105, 111, 110, 32]⟩ : ByteArray) ++ s3)] (by simp) (by
    refine Nat.le_trans (join_len _) ?_
    simp only [List.map_cons, List.map_nil, List.sum_cons, List.sum_nil, List.length_cons, List.length_nil, list_size, ByteArray.size_append]
    simp only [lit_size, List.length_cons, List.length_nil]
    omega) (by simp only [ByteArray.size_append]; simp only [lit_size, List.length_cons, List.length_nil]; omega))
  have HE : ofL (lnB (((((⟨#[112, 97, 114, 116, 105, 116, 105, 111, 110, 32]⟩ : ByteArray) ++ s0) ++ ⟨#[32]⟩) ++ s1)).data.toList ([((⟨#[112, 101, 114, 105, 111, 100, 32]⟩ : ByteArray) ++ s2), ((⟨#[100, 117, 114, 97, 116, 105, 111, 110, 32]⟩ : ByteArray) ++ s3)].map (·.data.toList))) = ofL (partLn ⟨pid, nm, per, dur⟩) := by
    simp only [List.map_cons, List.map_nil, list_append, hs0, hs1, hs2, hs3, ofL_list]
    simp only [partLn, lnB, quoteN, List.cons_append, List.nil_append, List.append_assoc, numB]
  rw [HE] at HLN
  have HL2 : Hid (∀ W, Mid B g L w W → Calls Tryz.prog 118 #[.pointer (some ⟨g, 0, none⟩), .string ((((⟨#[112, 97, 114, 116, 105, 116, 105, 111, 110, 32]⟩ : ByteArray) ++ s0) ++ ⟨#[32]⟩) ++ s1), .slice (some ⟨W.heap.size, 0, none⟩) 2 2] (W.alloc (.cells #[.string ((⟨#[112, 101, 114, 105, 111, 100, 32]⟩ : ByteArray) ++ s2), .string ((⟨#[100, 117, 114, 97, 116, 105, 111, 110, 32]⟩ : ByteArray) ++ s3)] 9)) (Wrote B w.heap.size g L (ofL (partLn ⟨pid, nm, per, dur⟩)) (W.alloc (.cells #[.string ((⟨#[112, 101, 114, 105, 111, 100, 32]⟩ : ByteArray) ++ s2), .string ((⟨#[100, 117, 114, 97, 116, 105, 111, 110, 32]⟩ : ByteArray) ++ s3)] 9)))) := HLN
  have HM1 := hide (hM0.alloc (.cells (partCs ⟨pid, nm, per, dur⟩) 66)).drew
  have HB1 := hide (Blk.new w 66 (partCs ⟨pid, nm, per, dur⟩)).drew
  unfold partCs at HM1 HB1 ⊢
  have HSX : Hid (∀ W, Blk W w.heap.size 66 #[.int .u16 (pid : Int), .string nm, .int .u64 (per : Int), .int .u64 (dur : Int)] → (W.cell? ⟨w.heap.size, 0, none⟩ = some (.int .u16 (pid : Int)) ∧ W.cell? ⟨w.heap.size, 1, none⟩ = some (.string nm) ∧ W.cell? ⟨w.heap.size, 2, none⟩ = some (.int .u64 (per : Int)) ∧ W.cell? ⟨w.heap.size, 3, none⟩ = some (.int .u64 (dur : Int)) ∧ Blk W w.heap.size 66 #[.int .u16 (pid : Int), .string nm, .int .u64 (per : Int), .int .u64 (dur : Int)])) := hide (fun W hW => ⟨hW.cell 0, hW.cell 1, hW.cell 2, hW.cell 3, hW⟩)
  have mixed := mixed_prog
  clear h hv hs0 hs1 hs2 e2 hs3 e3 HE hM0 HLN h1 h3 h4
  go_enter Tryz.func55, Tryz.ntmps55
  go_wp2
  go_region_held3 (fun w' => (w'.cell? ⟨w.heap.size, 0, none⟩ = some (.int .u16 (pid : Int)) ∧ w'.cell? ⟨w.heap.size, 1, none⟩ = some (.string nm) ∧ w'.cell? ⟨w.heap.size, 2, none⟩ = some (.int .u64 (per : Int)) ∧ w'.cell? ⟨w.heap.size, 3, none⟩ = some (.int .u64 (dur : Int)) ∧ Blk w' w.heap.size 66 #[.int .u16 (pid : Int), .string nm, .int .u64 (per : Int), .int .u64 (dur : Int)]))
    (first | assumption | exact HSX.out _ HB1.out | exact HSX.out _ (by assumption) | exact HSX.out _ (Blk.alloc (And.right (And.right (And.right (And.right (by assumption))))) _))
    (first
    | (go_at_call 119; refine (HC0.out _ (by assumption)).mono ?_; rintro e w2 ⟨rfl, hb⟩; have HM2 := hide (Mid.below (Hid.out (by assumption)) hb); have hx2 := Blk.below (And.right (And.right (And.right (And.right (by assumption))))) hb (Blk.lt (And.right (And.right (And.right (And.right (by assumption)))))))
    | (go_at_call 120; refine (HC1.out _ (by assumption)).mono ?_; rintro e w2 ⟨rfl, hb⟩; have HM2 := hide (Mid.below (Hid.out (by assumption)) hb); have hx2 := Blk.below (And.right (And.right (And.right (And.right (by assumption))))) hb (Blk.lt (And.right (And.right (And.right (And.right (by assumption)))))))
    | (go_at_call 27; (with_reducible first | refine (HC2.out _ (by assumption)).mono ?_ | refine (HC3.out _ (by assumption)).mono ?_); rintro e w2 ⟨rfl, hb⟩; have HM2 := hide (Mid.below (Hid.out (by assumption)) hb); have hx2 := Blk.below (And.right (And.right (And.right (And.right (by assumption))))) hb (Blk.lt (And.right (And.right (And.right (And.right (by assumption)))))))
    | (go_at_call 118; refine (HL2.out _ (Hid.out (by assumption))).mono ?_; rintro e w2 hw; have hwe := hw.1; subst hwe; have HW2 := hide (Mid.wrote (Mid.alloc (Hid.out (by assumption)) _) hw); have hx2 := blk_wrote (And.right (And.right (And.right (And.right (by assumption))))) hw (Nat.le_refl _); clear hw))
  all_goals
    go_wp2
    go_end0
    exact HW2.out
set_option maxRecDepth 100000 in
set_option maxHeartbeats 8000000 in
theorem Wwindow_calls (B g : Nat) (L : List ByteArray) (x : WinR) (hx : x.Ok) (w : World) (h : WrAt B w.heap.size g L w) (hL : L.length ≤ 1000000) (hv : VarT w) (hG : TLow B) :
    Calls Tryz.prog 57 #[.pointer (some ⟨g, 0, none⟩), .agg (winCs x)] w (MethW B g L (ofL (winLn x)) w) := by
  obtain ⟨st, len, part⟩ := x
  obtain ⟨h1, h2, h3⟩ := hx
  simp only at h1 h2 h3
  have hM0 := Mid.start h
  have HV := hide (fun W (hW : Mid B g L w W) => (hv.only hG hW.2).1)
  have HV2 := hide (fun W (hW : Mid B g L w W) => (hv.only hG hW.2).2)
  have HC0 := hide (fun W (hW : Hid (Mid B g L w W)) => id_calls part h3 W (HV.out W hW.out))
  obtain ⟨s0, hs0⟩ : ∃ s, s = ofL (numB part) := ⟨_, rfl⟩
  rw [← hs0] at HC0
  have z0 : s0.size ≤ 20 := by rw [hs0, ofL_size]; exact num_size (by omega)
  have HC1 := hide (fun W (hW : Hid (Mid B g L w W)) => Decimal_calls st h1 W (HV.out W hW.out))
  obtain ⟨s1, hs1⟩ : ∃ s, s = ofL (numB st) := ⟨_, rfl⟩
  have e1 : (⟨(digL 10 st).toArray⟩ : ByteArray) = s1 := hs1.symm
  rw [e1] at HC1
  have z1 : s1.size ≤ 20 := by rw [hs1, ofL_size]; exact num_size (by omega)
  have HC2 := hide (fun W (hW : Hid (Mid B g L w W)) => Decimal_calls len h2 W (HV.out W hW.out))
  obtain ⟨s2, hs2⟩ : ∃ s, s = ofL (numB len) := ⟨_, rfl⟩
  have e2 : (⟨(digL 10 len).toArray⟩ : ByteArray) = s2 := hs2.symm
  rw [e2] at HC2
  have z2 : s2.size ≤ 20 := by rw [hs2, ofL_size]; exact num_size (by omega)
  have q0 : (9223372036854775807 < 7 + s0.size) = False := by simp; omega
  have q1 : (9223372036854775807 < 6 + s1.size) = False := by simp; omega
  have q2 : (9223372036854775807 < 7 + s2.size) = False := by simp; omega
  have HLN := hide (fun W (hW : Mid B g L w W) => line_new hW hL ((⟨#[119, 105, 110, 100, 111, 119, 32]⟩ : ByteArray) ++ s0) [((⟨#[115, 116, 97, 114, 116, 32]⟩ : ByteArray) ++ s1), ((⟨#[108, 101, 110, 103, 116, 104, 32]⟩ : ByteArray) ++ s2)] (by simp) (by
    refine Nat.le_trans (join_len _) ?_
    simp only [List.map_cons, List.map_nil, List.sum_cons, List.sum_nil, List.length_cons, List.length_nil, list_size, ByteArray.size_append]
    simp only [lit_size, List.length_cons, List.length_nil]
    omega) (by simp only [ByteArray.size_append]; simp only [lit_size, List.length_cons, List.length_nil]; omega))
  have HE : ofL (lnB (((⟨#[119, 105, 110, 100, 111, 119, 32]⟩ : ByteArray) ++ s0)).data.toList ([((⟨#[115, 116, 97, 114, 116, 32]⟩ : ByteArray) ++ s1), ((⟨#[108, 101, 110, 103, 116, 104, 32]⟩ : ByteArray) ++ s2)].map (·.data.toList))) = ofL (winLn ⟨st, len, part⟩) := by
    simp only [List.map_cons, List.map_nil, list_append, hs0, hs1, hs2, ofL_list]
    simp only [winLn, lnB, List.cons_append, List.nil_append, List.append_assoc, numB]
  rw [HE] at HLN
  have HL2 : Hid (∀ W, Mid B g L w W → Calls Tryz.prog 118 #[.pointer (some ⟨g, 0, none⟩), .string ((⟨#[119, 105, 110, 100, 111, 119, 32]⟩ : ByteArray) ++ s0), .slice (some ⟨W.heap.size, 0, none⟩) 2 2] (W.alloc (.cells #[.string ((⟨#[115, 116, 97, 114, 116, 32]⟩ : ByteArray) ++ s1), .string ((⟨#[108, 101, 110, 103, 116, 104, 32]⟩ : ByteArray) ++ s2)] 9)) (Wrote B w.heap.size g L (ofL (winLn ⟨st, len, part⟩)) (W.alloc (.cells #[.string ((⟨#[115, 116, 97, 114, 116, 32]⟩ : ByteArray) ++ s1), .string ((⟨#[108, 101, 110, 103, 116, 104, 32]⟩ : ByteArray) ++ s2)] 9)))) := HLN
  have HM1 := hide (hM0.alloc (.cells (winCs ⟨st, len, part⟩) 69)).drew
  have HB1 := hide (Blk.new w 69 (winCs ⟨st, len, part⟩)).drew
  unfold winCs at HM1 HB1 ⊢
  have HSX : Hid (∀ W, Blk W w.heap.size 69 #[.int .u64 (st : Int), .int .u64 (len : Int), .int .u16 (part : Int)] → (W.cell? ⟨w.heap.size, 0, none⟩ = some (.int .u64 (st : Int)) ∧ W.cell? ⟨w.heap.size, 1, none⟩ = some (.int .u64 (len : Int)) ∧ W.cell? ⟨w.heap.size, 2, none⟩ = some (.int .u16 (part : Int)) ∧ Blk W w.heap.size 69 #[.int .u64 (st : Int), .int .u64 (len : Int), .int .u16 (part : Int)])) := hide (fun W hW => ⟨hW.cell 0, hW.cell 1, hW.cell 2, hW⟩)
  have mixed := mixed_prog
  clear h hv hs0 hs1 e1 hs2 e2 HE hM0 HLN h1 h2 h3
  go_enter Tryz.func57, Tryz.ntmps57
  go_wp2
  go_region_held3 (fun w' => (w'.cell? ⟨w.heap.size, 0, none⟩ = some (.int .u64 (st : Int)) ∧ w'.cell? ⟨w.heap.size, 1, none⟩ = some (.int .u64 (len : Int)) ∧ w'.cell? ⟨w.heap.size, 2, none⟩ = some (.int .u16 (part : Int)) ∧ Blk w' w.heap.size 69 #[.int .u64 (st : Int), .int .u64 (len : Int), .int .u16 (part : Int)]))
    (first | assumption | exact HSX.out _ HB1.out | exact HSX.out _ (by assumption) | exact HSX.out _ (Blk.alloc (And.right (And.right (And.right (by assumption)))) _))
    (first
    | (go_at_call 119; refine (HC0.out _ (by assumption)).mono ?_; rintro e w2 ⟨rfl, hb⟩; have HM2 := hide (Mid.below (Hid.out (by assumption)) hb); have hx2 := Blk.below (And.right (And.right (And.right (by assumption)))) hb (Blk.lt (And.right (And.right (And.right (by assumption))))))
    | (go_at_call 27; (with_reducible first | refine (HC1.out _ (by assumption)).mono ?_ | refine (HC2.out _ (by assumption)).mono ?_); rintro e w2 ⟨rfl, hb⟩; have HM2 := hide (Mid.below (Hid.out (by assumption)) hb); have hx2 := Blk.below (And.right (And.right (And.right (by assumption)))) hb (Blk.lt (And.right (And.right (And.right (by assumption))))))
    | (go_at_call 118; refine (HL2.out _ (Hid.out (by assumption))).mono ?_; rintro e w2 hw; have hwe := hw.1; subst hwe; have HW2 := hide (Mid.wrote (Mid.alloc (Hid.out (by assumption)) _) hw); have hx2 := blk_wrote (And.right (And.right (And.right (by assumption)))) hw (Nat.le_refl _); clear hw))
  all_goals
    go_wp2
    go_end0
    exact HW2.out
set_option maxRecDepth 100000 in
set_option maxHeartbeats 8000000 in
theorem Wport00_calls (B g : Nat) (L : List ByteArray) (pid part : Nat) (nm : ByteArray) (psz : Nat) (hx : (⟨pid, part, nm, false, false, psz⟩ : PortR).Ok) (hnm : nm.size ≤ 1000) (w : World) (h : WrAt B w.heap.size g L w) (hL : L.length ≤ 1000000) (hv : VarT w) (hG : TLow B) :
    Calls Tryz.prog 61 #[.pointer (some ⟨g, 0, none⟩), .agg (portCs ⟨pid, part, nm, false, false, psz⟩)] w (MethW B g L (ofL (portLn ⟨pid, part, nm, false, false, psz⟩)) w) := by
  obtain ⟨h1, h2, _, h4⟩ := hx
  simp only at h1 h2 h4
  have hM0 := Mid.start h
  have HV := hide (fun W (hW : Mid B g L w W) => (hv.only hG hW.2).1)
  have HV2 := hide (fun W (hW : Mid B g L w W) => (hv.only hG hW.2).2)
  have hwr : IntKind.u64.wrap (psz : Int) = (psz : Int) := by rw [IntKind.wrap_u64]; omega
  have HC0 := hide (fun W (hW : Hid (Mid B g L w W)) => id_calls pid h1 W (HV.out W hW.out))
  obtain ⟨s0, hs0⟩ : ∃ s, s = ofL (numB pid) := ⟨_, rfl⟩
  rw [← hs0] at HC0
  have z0 : s0.size ≤ 20 := by rw [hs0, ofL_size]; exact num_size (by omega)
  have HC1 := hide (fun W (hW : Hid (Mid B g L w W)) => Quote_calls nm W)
  obtain ⟨s1, hs1⟩ : ∃ s, s = quoteS nm := ⟨_, rfl⟩
  rw [← hs1] at HC1
  have z1 : s1.size ≤ 2002 := by rw [hs1]; have := quote_size nm; omega
  have HC2 := hide (fun W (hW : Hid (Mid B g L w W)) => id_calls part h2 W (HV.out W hW.out))
  obtain ⟨s2, hs2⟩ : ∃ s, s = ofL (numB part) := ⟨_, rfl⟩
  rw [← hs2] at HC2
  have z2 : s2.size ≤ 20 := by rw [hs2, ofL_size]; exact num_size (by omega)
  have HC3 := hide (fun W (hW : Hid (Mid B g L w W)) => Decimal_calls psz (by unfold top64; omega) W (HV.out W hW.out))
  obtain ⟨s3, hs3⟩ : ∃ s, s = ofL (numB psz) := ⟨_, rfl⟩
  have e3 : (⟨(digL 10 psz).toArray⟩ : ByteArray) = s3 := hs3.symm
  rw [e3] at HC3
  have z3 : s3.size ≤ 20 := by rw [hs3, ofL_size]; exact num_size (by omega)
  have q0 : (9223372036854775807 < 5 + s0.size) = False := by simp; omega
  have q1 : (9223372036854775807 < 5 + s0.size + 1) = False := by simp; omega
  have q2 : (9223372036854775807 < 5 + s0.size + 1 + s1.size) = False := by simp; omega
  have q3 : (9223372036854775807 < 10 + s2.size) = False := by simp; omega
  have q4 : (9223372036854775807 < 5 + s3.size) = False := by simp; omega
  have HLN := hide (fun W (hW : Mid B g L w W) => line_new hW hL ((((⟨#[112, 111, 114, 116, 32]⟩ : ByteArray) ++ s0) ++ ⟨#[32]⟩) ++ s1) [((⟨#[112, 97, 114, 116, 105, 116, 105, 111, 110, 32]⟩ : ByteArray) ++ s2), (⟨#[105, 110, 112, 117, 116]⟩ : ByteArray), (⟨#[115, 97, 109, 112, 108, 105, 110, 103]⟩ : ByteArray), ((⟨#[115, 105, 122, 101, 32]⟩ : ByteArray) ++ s3)] (by simp) (by
    refine Nat.le_trans (join_len _) ?_
    simp only [List.map_cons, List.map_nil, List.sum_cons, List.sum_nil, List.length_cons, List.length_nil, list_size, ByteArray.size_append]
    simp only [lit_size, List.length_cons, List.length_nil]
    omega) (by simp only [ByteArray.size_append]; simp only [lit_size, List.length_cons, List.length_nil]; omega))
  have HE : ofL (lnB (((((⟨#[112, 111, 114, 116, 32]⟩ : ByteArray) ++ s0) ++ ⟨#[32]⟩) ++ s1)).data.toList ([((⟨#[112, 97, 114, 116, 105, 116, 105, 111, 110, 32]⟩ : ByteArray) ++ s2), (⟨#[105, 110, 112, 117, 116]⟩ : ByteArray), (⟨#[115, 97, 109, 112, 108, 105, 110, 103]⟩ : ByteArray), ((⟨#[115, 105, 122, 101, 32]⟩ : ByteArray) ++ s3)].map (·.data.toList))) = ofL (portLn ⟨pid, part, nm, false, false, psz⟩) := by
    simp only [List.map_cons, List.map_nil, list_append, hs0, hs1, hs2, hs3, ofL_list]
    simp only [portLn, lnB, dirB, kindB, Bool.false_eq_true, if_false, quoteN, List.cons_append, List.nil_append, List.append_assoc, numB]
  rw [HE] at HLN
  have HL2 : Hid (∀ W, Mid B g L w W → Calls Tryz.prog 118 #[.pointer (some ⟨g, 0, none⟩), .string ((((⟨#[112, 111, 114, 116, 32]⟩ : ByteArray) ++ s0) ++ ⟨#[32]⟩) ++ s1), .slice (some ⟨W.heap.size, 0, none⟩) 4 4] (W.alloc (.cells #[.string ((⟨#[112, 97, 114, 116, 105, 116, 105, 111, 110, 32]⟩ : ByteArray) ++ s2), .string (⟨#[105, 110, 112, 117, 116]⟩ : ByteArray), .string (⟨#[115, 97, 109, 112, 108, 105, 110, 103]⟩ : ByteArray), .string ((⟨#[115, 105, 122, 101, 32]⟩ : ByteArray) ++ s3)] 9)) (Wrote B w.heap.size g L (ofL (portLn ⟨pid, part, nm, false, false, psz⟩)) (W.alloc (.cells #[.string ((⟨#[112, 97, 114, 116, 105, 116, 105, 111, 110, 32]⟩ : ByteArray) ++ s2), .string (⟨#[105, 110, 112, 117, 116]⟩ : ByteArray), .string (⟨#[115, 97, 109, 112, 108, 105, 110, 103]⟩ : ByteArray), .string ((⟨#[115, 105, 122, 101, 32]⟩ : ByteArray) ++ s3)] 9)))) := HLN
  have HM1 := hide (hM0.alloc (.cells (portCs ⟨pid, part, nm, false, false, psz⟩) 74)).drew
  have HB1 := hide (Blk.new w 74 (portCs ⟨pid, part, nm, false, false, psz⟩)).drew
  unfold portCs at HM1 HB1 ⊢
  have HSX : Hid (∀ W, Blk W w.heap.size 74 #[.int .u16 (pid : Int), .int .u16 (part : Int), .string nm, .bool false, .bool false, .int .u32 (psz : Int)] → (W.cell? ⟨w.heap.size, 0, none⟩ = some (.int .u16 (pid : Int)) ∧ W.cell? ⟨w.heap.size, 1, none⟩ = some (.int .u16 (part : Int)) ∧ W.cell? ⟨w.heap.size, 2, none⟩ = some (.string nm) ∧ W.cell? ⟨w.heap.size, 3, none⟩ = some (.bool false) ∧ W.cell? ⟨w.heap.size, 4, none⟩ = some (.bool false) ∧ W.cell? ⟨w.heap.size, 5, none⟩ = some (.int .u32 (psz : Int)) ∧ Blk W w.heap.size 74 #[.int .u16 (pid : Int), .int .u16 (part : Int), .string nm, .bool false, .bool false, .int .u32 (psz : Int)])) := hide (fun W hW => ⟨hW.cell 0, hW.cell 1, hW.cell 2, hW.cell 3, hW.cell 4, hW.cell 5, hW⟩)
  have mixed := mixed_prog
  clear h hv hs0 hs1 hs2 hs3 e3 HE hM0 HLN h1 h2 h4
  go_enter Tryz.func61, Tryz.ntmps61
  go_wp2
  go_region_held3 (fun w' => (w'.cell? ⟨w.heap.size, 0, none⟩ = some (.int .u16 (pid : Int)) ∧ w'.cell? ⟨w.heap.size, 1, none⟩ = some (.int .u16 (part : Int)) ∧ w'.cell? ⟨w.heap.size, 2, none⟩ = some (.string nm) ∧ w'.cell? ⟨w.heap.size, 3, none⟩ = some (.bool false) ∧ w'.cell? ⟨w.heap.size, 4, none⟩ = some (.bool false) ∧ w'.cell? ⟨w.heap.size, 5, none⟩ = some (.int .u32 (psz : Int)) ∧ Blk w' w.heap.size 74 #[.int .u16 (pid : Int), .int .u16 (part : Int), .string nm, .bool false, .bool false, .int .u32 (psz : Int)]))
    (first | assumption | exact HSX.out _ HB1.out | exact HSX.out _ (by assumption) | exact HSX.out _ (Blk.alloc (And.right (And.right (And.right (And.right (And.right (And.right (by assumption))))))) _))
    (first
    | (go_at_call 119; (with_reducible first | refine (HC0.out _ (by assumption)).mono ?_ | refine (HC2.out _ (by assumption)).mono ?_); rintro e w2 ⟨rfl, hb⟩; have HM2 := hide (Mid.below (Hid.out (by assumption)) hb); have hx2 := Blk.below (And.right (And.right (And.right (And.right (And.right (And.right (by assumption))))))) hb (Blk.lt (And.right (And.right (And.right (And.right (And.right (And.right (by assumption)))))))))
    | (go_at_call 120; refine (HC1.out _ (by assumption)).mono ?_; rintro e w2 ⟨rfl, hb⟩; have HM2 := hide (Mid.below (Hid.out (by assumption)) hb); have hx2 := Blk.below (And.right (And.right (And.right (And.right (And.right (And.right (by assumption))))))) hb (Blk.lt (And.right (And.right (And.right (And.right (And.right (And.right (by assumption)))))))))
    | (go_at_call 27; refine (HC3.out _ (by assumption)).mono ?_; rintro e w2 ⟨rfl, hb⟩; have HM2 := hide (Mid.below (Hid.out (by assumption)) hb); have hx2 := Blk.below (And.right (And.right (And.right (And.right (And.right (And.right (by assumption))))))) hb (Blk.lt (And.right (And.right (And.right (And.right (And.right (And.right (by assumption)))))))))
    | (go_at_call 118; refine (HL2.out _ (Hid.out (by assumption))).mono ?_; rintro e w2 hw; have hwe := hw.1; subst hwe; have HW2 := hide (Mid.wrote (Mid.alloc (Hid.out (by assumption)) _) hw); have hx2 := blk_wrote (And.right (And.right (And.right (And.right (And.right (And.right (by assumption))))))) hw (Nat.le_refl _); clear hw))
  all_goals
    go_wp2
    go_end0
    exact HW2.out
set_option maxRecDepth 100000 in
set_option maxHeartbeats 8000000 in
theorem Wport01_calls (B g : Nat) (L : List ByteArray) (pid part : Nat) (nm : ByteArray) (psz : Nat) (hx : (⟨pid, part, nm, false, true, psz⟩ : PortR).Ok) (hnm : nm.size ≤ 1000) (w : World) (h : WrAt B w.heap.size g L w) (hL : L.length ≤ 1000000) (hv : VarT w) (hG : TLow B) :
    Calls Tryz.prog 61 #[.pointer (some ⟨g, 0, none⟩), .agg (portCs ⟨pid, part, nm, false, true, psz⟩)] w (MethW B g L (ofL (portLn ⟨pid, part, nm, false, true, psz⟩)) w) := by
  obtain ⟨h1, h2, _, h4⟩ := hx
  simp only at h1 h2 h4
  have hM0 := Mid.start h
  have HV := hide (fun W (hW : Mid B g L w W) => (hv.only hG hW.2).1)
  have HV2 := hide (fun W (hW : Mid B g L w W) => (hv.only hG hW.2).2)
  have hwr : IntKind.u64.wrap (psz : Int) = (psz : Int) := by rw [IntKind.wrap_u64]; omega
  have HC0 := hide (fun W (hW : Hid (Mid B g L w W)) => id_calls pid h1 W (HV.out W hW.out))
  obtain ⟨s0, hs0⟩ : ∃ s, s = ofL (numB pid) := ⟨_, rfl⟩
  rw [← hs0] at HC0
  have z0 : s0.size ≤ 20 := by rw [hs0, ofL_size]; exact num_size (by omega)
  have HC1 := hide (fun W (hW : Hid (Mid B g L w W)) => Quote_calls nm W)
  obtain ⟨s1, hs1⟩ : ∃ s, s = quoteS nm := ⟨_, rfl⟩
  rw [← hs1] at HC1
  have z1 : s1.size ≤ 2002 := by rw [hs1]; have := quote_size nm; omega
  have HC2 := hide (fun W (hW : Hid (Mid B g L w W)) => id_calls part h2 W (HV.out W hW.out))
  obtain ⟨s2, hs2⟩ : ∃ s, s = ofL (numB part) := ⟨_, rfl⟩
  rw [← hs2] at HC2
  have z2 : s2.size ≤ 20 := by rw [hs2, ofL_size]; exact num_size (by omega)
  have HC3 := hide (fun W (hW : Hid (Mid B g L w W)) => Decimal_calls psz (by unfold top64; omega) W (HV.out W hW.out))
  obtain ⟨s3, hs3⟩ : ∃ s, s = ofL (numB psz) := ⟨_, rfl⟩
  have e3 : (⟨(digL 10 psz).toArray⟩ : ByteArray) = s3 := hs3.symm
  rw [e3] at HC3
  have z3 : s3.size ≤ 20 := by rw [hs3, ofL_size]; exact num_size (by omega)
  have q0 : (9223372036854775807 < 5 + s0.size) = False := by simp; omega
  have q1 : (9223372036854775807 < 5 + s0.size + 1) = False := by simp; omega
  have q2 : (9223372036854775807 < 5 + s0.size + 1 + s1.size) = False := by simp; omega
  have q3 : (9223372036854775807 < 10 + s2.size) = False := by simp; omega
  have q4 : (9223372036854775807 < 5 + s3.size) = False := by simp; omega
  have HLN := hide (fun W (hW : Mid B g L w W) => line_new hW hL ((((⟨#[112, 111, 114, 116, 32]⟩ : ByteArray) ++ s0) ++ ⟨#[32]⟩) ++ s1) [((⟨#[112, 97, 114, 116, 105, 116, 105, 111, 110, 32]⟩ : ByteArray) ++ s2), (⟨#[105, 110, 112, 117, 116]⟩ : ByteArray), (⟨#[113, 117, 101, 117, 105, 110, 103]⟩ : ByteArray), ((⟨#[115, 105, 122, 101, 32]⟩ : ByteArray) ++ s3)] (by simp) (by
    refine Nat.le_trans (join_len _) ?_
    simp only [List.map_cons, List.map_nil, List.sum_cons, List.sum_nil, List.length_cons, List.length_nil, list_size, ByteArray.size_append]
    simp only [lit_size, List.length_cons, List.length_nil]
    omega) (by simp only [ByteArray.size_append]; simp only [lit_size, List.length_cons, List.length_nil]; omega))
  have HE : ofL (lnB (((((⟨#[112, 111, 114, 116, 32]⟩ : ByteArray) ++ s0) ++ ⟨#[32]⟩) ++ s1)).data.toList ([((⟨#[112, 97, 114, 116, 105, 116, 105, 111, 110, 32]⟩ : ByteArray) ++ s2), (⟨#[105, 110, 112, 117, 116]⟩ : ByteArray), (⟨#[113, 117, 101, 117, 105, 110, 103]⟩ : ByteArray), ((⟨#[115, 105, 122, 101, 32]⟩ : ByteArray) ++ s3)].map (·.data.toList))) = ofL (portLn ⟨pid, part, nm, false, true, psz⟩) := by
    simp only [List.map_cons, List.map_nil, list_append, hs0, hs1, hs2, hs3, ofL_list]
    simp only [portLn, lnB, dirB, kindB, if_true, Bool.false_eq_true, if_false, quoteN, List.cons_append, List.nil_append, List.append_assoc, numB]
  rw [HE] at HLN
  have HL2 : Hid (∀ W, Mid B g L w W → Calls Tryz.prog 118 #[.pointer (some ⟨g, 0, none⟩), .string ((((⟨#[112, 111, 114, 116, 32]⟩ : ByteArray) ++ s0) ++ ⟨#[32]⟩) ++ s1), .slice (some ⟨W.heap.size, 0, none⟩) 4 4] (W.alloc (.cells #[.string ((⟨#[112, 97, 114, 116, 105, 116, 105, 111, 110, 32]⟩ : ByteArray) ++ s2), .string (⟨#[105, 110, 112, 117, 116]⟩ : ByteArray), .string (⟨#[113, 117, 101, 117, 105, 110, 103]⟩ : ByteArray), .string ((⟨#[115, 105, 122, 101, 32]⟩ : ByteArray) ++ s3)] 9)) (Wrote B w.heap.size g L (ofL (portLn ⟨pid, part, nm, false, true, psz⟩)) (W.alloc (.cells #[.string ((⟨#[112, 97, 114, 116, 105, 116, 105, 111, 110, 32]⟩ : ByteArray) ++ s2), .string (⟨#[105, 110, 112, 117, 116]⟩ : ByteArray), .string (⟨#[113, 117, 101, 117, 105, 110, 103]⟩ : ByteArray), .string ((⟨#[115, 105, 122, 101, 32]⟩ : ByteArray) ++ s3)] 9)))) := HLN
  have HM1 := hide (hM0.alloc (.cells (portCs ⟨pid, part, nm, false, true, psz⟩) 74)).drew
  have HB1 := hide (Blk.new w 74 (portCs ⟨pid, part, nm, false, true, psz⟩)).drew
  unfold portCs at HM1 HB1 ⊢
  have HSX : Hid (∀ W, Blk W w.heap.size 74 #[.int .u16 (pid : Int), .int .u16 (part : Int), .string nm, .bool false, .bool true, .int .u32 (psz : Int)] → (W.cell? ⟨w.heap.size, 0, none⟩ = some (.int .u16 (pid : Int)) ∧ W.cell? ⟨w.heap.size, 1, none⟩ = some (.int .u16 (part : Int)) ∧ W.cell? ⟨w.heap.size, 2, none⟩ = some (.string nm) ∧ W.cell? ⟨w.heap.size, 3, none⟩ = some (.bool false) ∧ W.cell? ⟨w.heap.size, 4, none⟩ = some (.bool true) ∧ W.cell? ⟨w.heap.size, 5, none⟩ = some (.int .u32 (psz : Int)) ∧ Blk W w.heap.size 74 #[.int .u16 (pid : Int), .int .u16 (part : Int), .string nm, .bool false, .bool true, .int .u32 (psz : Int)])) := hide (fun W hW => ⟨hW.cell 0, hW.cell 1, hW.cell 2, hW.cell 3, hW.cell 4, hW.cell 5, hW⟩)
  have mixed := mixed_prog
  clear h hv hs0 hs1 hs2 hs3 e3 HE hM0 HLN h1 h2 h4
  go_enter Tryz.func61, Tryz.ntmps61
  go_wp2
  go_region_held3 (fun w' => (w'.cell? ⟨w.heap.size, 0, none⟩ = some (.int .u16 (pid : Int)) ∧ w'.cell? ⟨w.heap.size, 1, none⟩ = some (.int .u16 (part : Int)) ∧ w'.cell? ⟨w.heap.size, 2, none⟩ = some (.string nm) ∧ w'.cell? ⟨w.heap.size, 3, none⟩ = some (.bool false) ∧ w'.cell? ⟨w.heap.size, 4, none⟩ = some (.bool true) ∧ w'.cell? ⟨w.heap.size, 5, none⟩ = some (.int .u32 (psz : Int)) ∧ Blk w' w.heap.size 74 #[.int .u16 (pid : Int), .int .u16 (part : Int), .string nm, .bool false, .bool true, .int .u32 (psz : Int)]))
    (first | assumption | exact HSX.out _ HB1.out | exact HSX.out _ (by assumption) | exact HSX.out _ (Blk.alloc (And.right (And.right (And.right (And.right (And.right (And.right (by assumption))))))) _))
    (first
    | (go_at_call 119; (with_reducible first | refine (HC0.out _ (by assumption)).mono ?_ | refine (HC2.out _ (by assumption)).mono ?_); rintro e w2 ⟨rfl, hb⟩; have HM2 := hide (Mid.below (Hid.out (by assumption)) hb); have hx2 := Blk.below (And.right (And.right (And.right (And.right (And.right (And.right (by assumption))))))) hb (Blk.lt (And.right (And.right (And.right (And.right (And.right (And.right (by assumption)))))))))
    | (go_at_call 120; refine (HC1.out _ (by assumption)).mono ?_; rintro e w2 ⟨rfl, hb⟩; have HM2 := hide (Mid.below (Hid.out (by assumption)) hb); have hx2 := Blk.below (And.right (And.right (And.right (And.right (And.right (And.right (by assumption))))))) hb (Blk.lt (And.right (And.right (And.right (And.right (And.right (And.right (by assumption)))))))))
    | (go_at_call 27; refine (HC3.out _ (by assumption)).mono ?_; rintro e w2 ⟨rfl, hb⟩; have HM2 := hide (Mid.below (Hid.out (by assumption)) hb); have hx2 := Blk.below (And.right (And.right (And.right (And.right (And.right (And.right (by assumption))))))) hb (Blk.lt (And.right (And.right (And.right (And.right (And.right (And.right (by assumption)))))))))
    | (go_at_call 118; refine (HL2.out _ (Hid.out (by assumption))).mono ?_; rintro e w2 hw; have hwe := hw.1; subst hwe; have HW2 := hide (Mid.wrote (Mid.alloc (Hid.out (by assumption)) _) hw); have hx2 := blk_wrote (And.right (And.right (And.right (And.right (And.right (And.right (by assumption))))))) hw (Nat.le_refl _); clear hw))
  all_goals
    go_wp2
    go_end0
    exact HW2.out
set_option maxRecDepth 100000 in
set_option maxHeartbeats 8000000 in
theorem Wport10_calls (B g : Nat) (L : List ByteArray) (pid part : Nat) (nm : ByteArray) (psz : Nat) (hx : (⟨pid, part, nm, true, false, psz⟩ : PortR).Ok) (hnm : nm.size ≤ 1000) (w : World) (h : WrAt B w.heap.size g L w) (hL : L.length ≤ 1000000) (hv : VarT w) (hG : TLow B) :
    Calls Tryz.prog 61 #[.pointer (some ⟨g, 0, none⟩), .agg (portCs ⟨pid, part, nm, true, false, psz⟩)] w (MethW B g L (ofL (portLn ⟨pid, part, nm, true, false, psz⟩)) w) := by
  obtain ⟨h1, h2, _, h4⟩ := hx
  simp only at h1 h2 h4
  have hM0 := Mid.start h
  have HV := hide (fun W (hW : Mid B g L w W) => (hv.only hG hW.2).1)
  have HV2 := hide (fun W (hW : Mid B g L w W) => (hv.only hG hW.2).2)
  have hwr : IntKind.u64.wrap (psz : Int) = (psz : Int) := by rw [IntKind.wrap_u64]; omega
  have HC0 := hide (fun W (hW : Hid (Mid B g L w W)) => id_calls pid h1 W (HV.out W hW.out))
  obtain ⟨s0, hs0⟩ : ∃ s, s = ofL (numB pid) := ⟨_, rfl⟩
  rw [← hs0] at HC0
  have z0 : s0.size ≤ 20 := by rw [hs0, ofL_size]; exact num_size (by omega)
  have HC1 := hide (fun W (hW : Hid (Mid B g L w W)) => Quote_calls nm W)
  obtain ⟨s1, hs1⟩ : ∃ s, s = quoteS nm := ⟨_, rfl⟩
  rw [← hs1] at HC1
  have z1 : s1.size ≤ 2002 := by rw [hs1]; have := quote_size nm; omega
  have HC2 := hide (fun W (hW : Hid (Mid B g L w W)) => id_calls part h2 W (HV.out W hW.out))
  obtain ⟨s2, hs2⟩ : ∃ s, s = ofL (numB part) := ⟨_, rfl⟩
  rw [← hs2] at HC2
  have z2 : s2.size ≤ 20 := by rw [hs2, ofL_size]; exact num_size (by omega)
  have HC3 := hide (fun W (hW : Hid (Mid B g L w W)) => Decimal_calls psz (by unfold top64; omega) W (HV.out W hW.out))
  obtain ⟨s3, hs3⟩ : ∃ s, s = ofL (numB psz) := ⟨_, rfl⟩
  have e3 : (⟨(digL 10 psz).toArray⟩ : ByteArray) = s3 := hs3.symm
  rw [e3] at HC3
  have z3 : s3.size ≤ 20 := by rw [hs3, ofL_size]; exact num_size (by omega)
  have q0 : (9223372036854775807 < 5 + s0.size) = False := by simp; omega
  have q1 : (9223372036854775807 < 5 + s0.size + 1) = False := by simp; omega
  have q2 : (9223372036854775807 < 5 + s0.size + 1 + s1.size) = False := by simp; omega
  have q3 : (9223372036854775807 < 10 + s2.size) = False := by simp; omega
  have q4 : (9223372036854775807 < 5 + s3.size) = False := by simp; omega
  have HLN := hide (fun W (hW : Mid B g L w W) => line_new hW hL ((((⟨#[112, 111, 114, 116, 32]⟩ : ByteArray) ++ s0) ++ ⟨#[32]⟩) ++ s1) [((⟨#[112, 97, 114, 116, 105, 116, 105, 111, 110, 32]⟩ : ByteArray) ++ s2), (⟨#[111, 117, 116, 112, 117, 116]⟩ : ByteArray), (⟨#[115, 97, 109, 112, 108, 105, 110, 103]⟩ : ByteArray), ((⟨#[115, 105, 122, 101, 32]⟩ : ByteArray) ++ s3)] (by simp) (by
    refine Nat.le_trans (join_len _) ?_
    simp only [List.map_cons, List.map_nil, List.sum_cons, List.sum_nil, List.length_cons, List.length_nil, list_size, ByteArray.size_append]
    simp only [lit_size, List.length_cons, List.length_nil]
    omega) (by simp only [ByteArray.size_append]; simp only [lit_size, List.length_cons, List.length_nil]; omega))
  have HE : ofL (lnB (((((⟨#[112, 111, 114, 116, 32]⟩ : ByteArray) ++ s0) ++ ⟨#[32]⟩) ++ s1)).data.toList ([((⟨#[112, 97, 114, 116, 105, 116, 105, 111, 110, 32]⟩ : ByteArray) ++ s2), (⟨#[111, 117, 116, 112, 117, 116]⟩ : ByteArray), (⟨#[115, 97, 109, 112, 108, 105, 110, 103]⟩ : ByteArray), ((⟨#[115, 105, 122, 101, 32]⟩ : ByteArray) ++ s3)].map (·.data.toList))) = ofL (portLn ⟨pid, part, nm, true, false, psz⟩) := by
    simp only [List.map_cons, List.map_nil, list_append, hs0, hs1, hs2, hs3, ofL_list]
    simp only [portLn, lnB, dirB, kindB, if_true, Bool.false_eq_true, if_false, quoteN, List.cons_append, List.nil_append, List.append_assoc, numB]
  rw [HE] at HLN
  have HL2 : Hid (∀ W, Mid B g L w W → Calls Tryz.prog 118 #[.pointer (some ⟨g, 0, none⟩), .string ((((⟨#[112, 111, 114, 116, 32]⟩ : ByteArray) ++ s0) ++ ⟨#[32]⟩) ++ s1), .slice (some ⟨W.heap.size, 0, none⟩) 4 4] (W.alloc (.cells #[.string ((⟨#[112, 97, 114, 116, 105, 116, 105, 111, 110, 32]⟩ : ByteArray) ++ s2), .string (⟨#[111, 117, 116, 112, 117, 116]⟩ : ByteArray), .string (⟨#[115, 97, 109, 112, 108, 105, 110, 103]⟩ : ByteArray), .string ((⟨#[115, 105, 122, 101, 32]⟩ : ByteArray) ++ s3)] 9)) (Wrote B w.heap.size g L (ofL (portLn ⟨pid, part, nm, true, false, psz⟩)) (W.alloc (.cells #[.string ((⟨#[112, 97, 114, 116, 105, 116, 105, 111, 110, 32]⟩ : ByteArray) ++ s2), .string (⟨#[111, 117, 116, 112, 117, 116]⟩ : ByteArray), .string (⟨#[115, 97, 109, 112, 108, 105, 110, 103]⟩ : ByteArray), .string ((⟨#[115, 105, 122, 101, 32]⟩ : ByteArray) ++ s3)] 9)))) := HLN
  have HM1 := hide (hM0.alloc (.cells (portCs ⟨pid, part, nm, true, false, psz⟩) 74)).drew
  have HB1 := hide (Blk.new w 74 (portCs ⟨pid, part, nm, true, false, psz⟩)).drew
  unfold portCs at HM1 HB1 ⊢
  have HSX : Hid (∀ W, Blk W w.heap.size 74 #[.int .u16 (pid : Int), .int .u16 (part : Int), .string nm, .bool true, .bool false, .int .u32 (psz : Int)] → (W.cell? ⟨w.heap.size, 0, none⟩ = some (.int .u16 (pid : Int)) ∧ W.cell? ⟨w.heap.size, 1, none⟩ = some (.int .u16 (part : Int)) ∧ W.cell? ⟨w.heap.size, 2, none⟩ = some (.string nm) ∧ W.cell? ⟨w.heap.size, 3, none⟩ = some (.bool true) ∧ W.cell? ⟨w.heap.size, 4, none⟩ = some (.bool false) ∧ W.cell? ⟨w.heap.size, 5, none⟩ = some (.int .u32 (psz : Int)) ∧ Blk W w.heap.size 74 #[.int .u16 (pid : Int), .int .u16 (part : Int), .string nm, .bool true, .bool false, .int .u32 (psz : Int)])) := hide (fun W hW => ⟨hW.cell 0, hW.cell 1, hW.cell 2, hW.cell 3, hW.cell 4, hW.cell 5, hW⟩)
  have mixed := mixed_prog
  clear h hv hs0 hs1 hs2 hs3 e3 HE hM0 HLN h1 h2 h4
  go_enter Tryz.func61, Tryz.ntmps61
  go_wp2
  go_region_held3 (fun w' => (w'.cell? ⟨w.heap.size, 0, none⟩ = some (.int .u16 (pid : Int)) ∧ w'.cell? ⟨w.heap.size, 1, none⟩ = some (.int .u16 (part : Int)) ∧ w'.cell? ⟨w.heap.size, 2, none⟩ = some (.string nm) ∧ w'.cell? ⟨w.heap.size, 3, none⟩ = some (.bool true) ∧ w'.cell? ⟨w.heap.size, 4, none⟩ = some (.bool false) ∧ w'.cell? ⟨w.heap.size, 5, none⟩ = some (.int .u32 (psz : Int)) ∧ Blk w' w.heap.size 74 #[.int .u16 (pid : Int), .int .u16 (part : Int), .string nm, .bool true, .bool false, .int .u32 (psz : Int)]))
    (first | assumption | exact HSX.out _ HB1.out | exact HSX.out _ (by assumption) | exact HSX.out _ (Blk.alloc (And.right (And.right (And.right (And.right (And.right (And.right (by assumption))))))) _))
    (first
    | (go_at_call 119; (with_reducible first | refine (HC0.out _ (by assumption)).mono ?_ | refine (HC2.out _ (by assumption)).mono ?_); rintro e w2 ⟨rfl, hb⟩; have HM2 := hide (Mid.below (Hid.out (by assumption)) hb); have hx2 := Blk.below (And.right (And.right (And.right (And.right (And.right (And.right (by assumption))))))) hb (Blk.lt (And.right (And.right (And.right (And.right (And.right (And.right (by assumption)))))))))
    | (go_at_call 120; refine (HC1.out _ (by assumption)).mono ?_; rintro e w2 ⟨rfl, hb⟩; have HM2 := hide (Mid.below (Hid.out (by assumption)) hb); have hx2 := Blk.below (And.right (And.right (And.right (And.right (And.right (And.right (by assumption))))))) hb (Blk.lt (And.right (And.right (And.right (And.right (And.right (And.right (by assumption)))))))))
    | (go_at_call 27; refine (HC3.out _ (by assumption)).mono ?_; rintro e w2 ⟨rfl, hb⟩; have HM2 := hide (Mid.below (Hid.out (by assumption)) hb); have hx2 := Blk.below (And.right (And.right (And.right (And.right (And.right (And.right (by assumption))))))) hb (Blk.lt (And.right (And.right (And.right (And.right (And.right (And.right (by assumption)))))))))
    | (go_at_call 118; refine (HL2.out _ (Hid.out (by assumption))).mono ?_; rintro e w2 hw; have hwe := hw.1; subst hwe; have HW2 := hide (Mid.wrote (Mid.alloc (Hid.out (by assumption)) _) hw); have hx2 := blk_wrote (And.right (And.right (And.right (And.right (And.right (And.right (by assumption))))))) hw (Nat.le_refl _); clear hw))
  all_goals
    go_wp2
    go_end0
    exact HW2.out
set_option maxRecDepth 100000 in
set_option maxHeartbeats 8000000 in
theorem Wport11_calls (B g : Nat) (L : List ByteArray) (pid part : Nat) (nm : ByteArray) (psz : Nat) (hx : (⟨pid, part, nm, true, true, psz⟩ : PortR).Ok) (hnm : nm.size ≤ 1000) (w : World) (h : WrAt B w.heap.size g L w) (hL : L.length ≤ 1000000) (hv : VarT w) (hG : TLow B) :
    Calls Tryz.prog 61 #[.pointer (some ⟨g, 0, none⟩), .agg (portCs ⟨pid, part, nm, true, true, psz⟩)] w (MethW B g L (ofL (portLn ⟨pid, part, nm, true, true, psz⟩)) w) := by
  obtain ⟨h1, h2, _, h4⟩ := hx
  simp only at h1 h2 h4
  have hM0 := Mid.start h
  have HV := hide (fun W (hW : Mid B g L w W) => (hv.only hG hW.2).1)
  have HV2 := hide (fun W (hW : Mid B g L w W) => (hv.only hG hW.2).2)
  have hwr : IntKind.u64.wrap (psz : Int) = (psz : Int) := by rw [IntKind.wrap_u64]; omega
  have HC0 := hide (fun W (hW : Hid (Mid B g L w W)) => id_calls pid h1 W (HV.out W hW.out))
  obtain ⟨s0, hs0⟩ : ∃ s, s = ofL (numB pid) := ⟨_, rfl⟩
  rw [← hs0] at HC0
  have z0 : s0.size ≤ 20 := by rw [hs0, ofL_size]; exact num_size (by omega)
  have HC1 := hide (fun W (hW : Hid (Mid B g L w W)) => Quote_calls nm W)
  obtain ⟨s1, hs1⟩ : ∃ s, s = quoteS nm := ⟨_, rfl⟩
  rw [← hs1] at HC1
  have z1 : s1.size ≤ 2002 := by rw [hs1]; have := quote_size nm; omega
  have HC2 := hide (fun W (hW : Hid (Mid B g L w W)) => id_calls part h2 W (HV.out W hW.out))
  obtain ⟨s2, hs2⟩ : ∃ s, s = ofL (numB part) := ⟨_, rfl⟩
  rw [← hs2] at HC2
  have z2 : s2.size ≤ 20 := by rw [hs2, ofL_size]; exact num_size (by omega)
  have HC3 := hide (fun W (hW : Hid (Mid B g L w W)) => Decimal_calls psz (by unfold top64; omega) W (HV.out W hW.out))
  obtain ⟨s3, hs3⟩ : ∃ s, s = ofL (numB psz) := ⟨_, rfl⟩
  have e3 : (⟨(digL 10 psz).toArray⟩ : ByteArray) = s3 := hs3.symm
  rw [e3] at HC3
  have z3 : s3.size ≤ 20 := by rw [hs3, ofL_size]; exact num_size (by omega)
  have q0 : (9223372036854775807 < 5 + s0.size) = False := by simp; omega
  have q1 : (9223372036854775807 < 5 + s0.size + 1) = False := by simp; omega
  have q2 : (9223372036854775807 < 5 + s0.size + 1 + s1.size) = False := by simp; omega
  have q3 : (9223372036854775807 < 10 + s2.size) = False := by simp; omega
  have q4 : (9223372036854775807 < 5 + s3.size) = False := by simp; omega
  have HLN := hide (fun W (hW : Mid B g L w W) => line_new hW hL ((((⟨#[112, 111, 114, 116, 32]⟩ : ByteArray) ++ s0) ++ ⟨#[32]⟩) ++ s1) [((⟨#[112, 97, 114, 116, 105, 116, 105, 111, 110, 32]⟩ : ByteArray) ++ s2), (⟨#[111, 117, 116, 112, 117, 116]⟩ : ByteArray), (⟨#[113, 117, 101, 117, 105, 110, 103]⟩ : ByteArray), ((⟨#[115, 105, 122, 101, 32]⟩ : ByteArray) ++ s3)] (by simp) (by
    refine Nat.le_trans (join_len _) ?_
    simp only [List.map_cons, List.map_nil, List.sum_cons, List.sum_nil, List.length_cons, List.length_nil, list_size, ByteArray.size_append]
    simp only [lit_size, List.length_cons, List.length_nil]
    omega) (by simp only [ByteArray.size_append]; simp only [lit_size, List.length_cons, List.length_nil]; omega))
  have HE : ofL (lnB (((((⟨#[112, 111, 114, 116, 32]⟩ : ByteArray) ++ s0) ++ ⟨#[32]⟩) ++ s1)).data.toList ([((⟨#[112, 97, 114, 116, 105, 116, 105, 111, 110, 32]⟩ : ByteArray) ++ s2), (⟨#[111, 117, 116, 112, 117, 116]⟩ : ByteArray), (⟨#[113, 117, 101, 117, 105, 110, 103]⟩ : ByteArray), ((⟨#[115, 105, 122, 101, 32]⟩ : ByteArray) ++ s3)].map (·.data.toList))) = ofL (portLn ⟨pid, part, nm, true, true, psz⟩) := by
    simp only [List.map_cons, List.map_nil, list_append, hs0, hs1, hs2, hs3, ofL_list]
    simp only [portLn, lnB, dirB, kindB, if_true, quoteN, List.cons_append, List.nil_append, List.append_assoc, numB]
  rw [HE] at HLN
  have HL2 : Hid (∀ W, Mid B g L w W → Calls Tryz.prog 118 #[.pointer (some ⟨g, 0, none⟩), .string ((((⟨#[112, 111, 114, 116, 32]⟩ : ByteArray) ++ s0) ++ ⟨#[32]⟩) ++ s1), .slice (some ⟨W.heap.size, 0, none⟩) 4 4] (W.alloc (.cells #[.string ((⟨#[112, 97, 114, 116, 105, 116, 105, 111, 110, 32]⟩ : ByteArray) ++ s2), .string (⟨#[111, 117, 116, 112, 117, 116]⟩ : ByteArray), .string (⟨#[113, 117, 101, 117, 105, 110, 103]⟩ : ByteArray), .string ((⟨#[115, 105, 122, 101, 32]⟩ : ByteArray) ++ s3)] 9)) (Wrote B w.heap.size g L (ofL (portLn ⟨pid, part, nm, true, true, psz⟩)) (W.alloc (.cells #[.string ((⟨#[112, 97, 114, 116, 105, 116, 105, 111, 110, 32]⟩ : ByteArray) ++ s2), .string (⟨#[111, 117, 116, 112, 117, 116]⟩ : ByteArray), .string (⟨#[113, 117, 101, 117, 105, 110, 103]⟩ : ByteArray), .string ((⟨#[115, 105, 122, 101, 32]⟩ : ByteArray) ++ s3)] 9)))) := HLN
  have HM1 := hide (hM0.alloc (.cells (portCs ⟨pid, part, nm, true, true, psz⟩) 74)).drew
  have HB1 := hide (Blk.new w 74 (portCs ⟨pid, part, nm, true, true, psz⟩)).drew
  unfold portCs at HM1 HB1 ⊢
  have HSX : Hid (∀ W, Blk W w.heap.size 74 #[.int .u16 (pid : Int), .int .u16 (part : Int), .string nm, .bool true, .bool true, .int .u32 (psz : Int)] → (W.cell? ⟨w.heap.size, 0, none⟩ = some (.int .u16 (pid : Int)) ∧ W.cell? ⟨w.heap.size, 1, none⟩ = some (.int .u16 (part : Int)) ∧ W.cell? ⟨w.heap.size, 2, none⟩ = some (.string nm) ∧ W.cell? ⟨w.heap.size, 3, none⟩ = some (.bool true) ∧ W.cell? ⟨w.heap.size, 4, none⟩ = some (.bool true) ∧ W.cell? ⟨w.heap.size, 5, none⟩ = some (.int .u32 (psz : Int)) ∧ Blk W w.heap.size 74 #[.int .u16 (pid : Int), .int .u16 (part : Int), .string nm, .bool true, .bool true, .int .u32 (psz : Int)])) := hide (fun W hW => ⟨hW.cell 0, hW.cell 1, hW.cell 2, hW.cell 3, hW.cell 4, hW.cell 5, hW⟩)
  have mixed := mixed_prog
  clear h hv hs0 hs1 hs2 hs3 e3 HE hM0 HLN h1 h2 h4
  go_enter Tryz.func61, Tryz.ntmps61
  go_wp2
  go_region_held3 (fun w' => (w'.cell? ⟨w.heap.size, 0, none⟩ = some (.int .u16 (pid : Int)) ∧ w'.cell? ⟨w.heap.size, 1, none⟩ = some (.int .u16 (part : Int)) ∧ w'.cell? ⟨w.heap.size, 2, none⟩ = some (.string nm) ∧ w'.cell? ⟨w.heap.size, 3, none⟩ = some (.bool true) ∧ w'.cell? ⟨w.heap.size, 4, none⟩ = some (.bool true) ∧ w'.cell? ⟨w.heap.size, 5, none⟩ = some (.int .u32 (psz : Int)) ∧ Blk w' w.heap.size 74 #[.int .u16 (pid : Int), .int .u16 (part : Int), .string nm, .bool true, .bool true, .int .u32 (psz : Int)]))
    (first | assumption | exact HSX.out _ HB1.out | exact HSX.out _ (by assumption) | exact HSX.out _ (Blk.alloc (And.right (And.right (And.right (And.right (And.right (And.right (by assumption))))))) _))
    (first
    | (go_at_call 119; (with_reducible first | refine (HC0.out _ (by assumption)).mono ?_ | refine (HC2.out _ (by assumption)).mono ?_); rintro e w2 ⟨rfl, hb⟩; have HM2 := hide (Mid.below (Hid.out (by assumption)) hb); have hx2 := Blk.below (And.right (And.right (And.right (And.right (And.right (And.right (by assumption))))))) hb (Blk.lt (And.right (And.right (And.right (And.right (And.right (And.right (by assumption)))))))))
    | (go_at_call 120; refine (HC1.out _ (by assumption)).mono ?_; rintro e w2 ⟨rfl, hb⟩; have HM2 := hide (Mid.below (Hid.out (by assumption)) hb); have hx2 := Blk.below (And.right (And.right (And.right (And.right (And.right (And.right (by assumption))))))) hb (Blk.lt (And.right (And.right (And.right (And.right (And.right (And.right (by assumption)))))))))
    | (go_at_call 27; refine (HC3.out _ (by assumption)).mono ?_; rintro e w2 ⟨rfl, hb⟩; have HM2 := hide (Mid.below (Hid.out (by assumption)) hb); have hx2 := Blk.below (And.right (And.right (And.right (And.right (And.right (And.right (by assumption))))))) hb (Blk.lt (And.right (And.right (And.right (And.right (And.right (And.right (by assumption)))))))))
    | (go_at_call 118; refine (HL2.out _ (Hid.out (by assumption))).mono ?_; rintro e w2 hw; have hwe := hw.1; subst hwe; have HW2 := hide (Mid.wrote (Mid.alloc (Hid.out (by assumption)) _) hw); have hx2 := blk_wrote (And.right (And.right (And.right (And.right (And.right (And.right (by assumption))))))) hw (Nat.le_refl _); clear hw))
  all_goals
    go_wp2
    go_end0
    exact HW2.out
theorem Wport_calls (B g : Nat) (L : List ByteArray) (x : PortR) (hx : x.Ok) (hnm : x.name.size ≤ 1000) (w : World) (h : WrAt B w.heap.size g L w) (hL : L.length ≤ 1000000) (hv : VarT w) (hG : TLow B) :
    Calls Tryz.prog 61 #[.pointer (some ⟨g, 0, none⟩), .agg (portCs x)] w (MethW B g L (ofL (portLn x)) w) := by
  obtain ⟨pid, part, nm, o, q, psz⟩ := x
  cases o <;> cases q
  · exact Wport00_calls B g L pid part nm psz hx hnm w h hL hv hG
  · exact Wport01_calls B g L pid part nm psz hx hnm w h hL hv hG
  · exact Wport10_calls B g L pid part nm psz hx hnm w h hL hv hG
  · exact Wport11_calls B g L pid part nm psz hx hnm w h hL hv hG
end Go.Proofs.YtcnihmlmaigkdaaGreatDoor
