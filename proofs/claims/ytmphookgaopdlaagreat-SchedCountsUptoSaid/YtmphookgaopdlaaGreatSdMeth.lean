/- sched: Window, Lookup, Until (chapter 21). -/
import Derived.Test.YtmphookgaopdlaaGreatSdFind
import Derived.Laws.ResultCell
import Derived.Laws.Rows
import Derived.Laws.Tables
namespace Go.Proofs.YtmphookgaopdlaaGreat
open Go.RowKit Go.Sort
set_option linter.unusedVariables false

def winD (l : List WinR) (x : Nat) : WinR := (winS l x).getD ⟨0, 0, 0⟩
def winB (l : List WinR) (x : Nat) : Bool := (winS l x).isSome
theorem res_cell_tmp {fn : Func} {p u : Tmp} {ty : TypeId} (h : fn.results = #[.cell p ty, .tmp u]) (tmps : Array Value) (w : World) (g : Nat) (cs : Array Value)
    (hp : tmps.getD p undef = .pointer (some ⟨g, 0, none⟩)) (hl : (loadVar ty ⟨g, 0, none⟩).run Tryz.prog w = .ok (.agg cs) w) :
    (results fn tmps).run Tryz.prog w = .ok (.tuple #[.agg cs, tmps.getD u undef]) w := by
  rw [results_cell_tmp h, hp]
  simp only [asAddr, Sem.run_pure, Result.andThen]
  rw [hl]
theorem load_win {w : World} {g : Nat} {cs : Array Value} (hg : Blk w g 38 cs) (hc : cs.size = 3) : (loadVar 38 ⟨g, 0, none⟩).run Tryz.prog w = .ok (.agg cs) w :=
  run_loadVar_row (P := Tryz.prog) w g 38 38 cs (0, 0) _ hg Tryz.underlying38 rfl (by rw [hc]; kernel_rfl)
theorem winS_find {F : Nat} {l : List WinR} (h : Sch F l) (x : Nat) : winS l x = match l[findI l x]? with | some y => if y.st ≤ x then some y else none | none => none := by
  rw [findI_get h]; rfl
theorem endS_find {F : Nat} {l : List WinR} (h : Sch F l) (x : Nat) : endS F l x = match l[findI l x]? with | some y => if x < y.st then y.st else y.st + y.len | none => F := by
  rw [findI_get h]; rfl
set_option maxRecDepth 100000 in
set_option maxHeartbeats 4000000 in
theorem Window_any (F : Nat) (l : List WinR) (a : Option Addr) (cap g t : Nat) (w : World) (h : SdAt F l a cap g w) (hS : Sch F l) (hl : l.length ≤ 1048576) :
    Calls Tryz.prog 14 #[.pointer (some ⟨g, 0, none⟩), .int .u64 (t : Int)] w fun e w' => e = .returned (.tuple #[.agg (winC (winD l (t % F))), .bool (winB l (t % F))]) ∧ Below w.heap.size w w' := by
  have hW := winS_find hS (t % F)
  have HFI := hide (fun x W (hW : SdAt F l a cap g W) => sfind_calls F l a cap g x W hW hS hl)
  have hm1 : (t : Int).tmod (F : Int) = ((t % F : Nat) : Int) := by rw [Int.ofNat_tmod]
  have hm2 : (t : Int) % (F : Int) = ((t % F : Nat) : Int) := by omega
  have hf0 : ((F : Int) == 0) = false := by rw [beq_eq_false_iff_ne]; have := hS.pos; omega
  have hle := findI_le l (t % F)
  have HS0 := hide (h.alloc (.cells #[.int .u64 0, .int .u64 0, .int .u16 0] 38))
  have HBL0 := hide (Blk.new w 38 #[.int .u64 0, .int .u64 0, .int .u16 0])
  have HB0 : Hid (Below w.heap.size w (w.alloc (.cells #[.int .u64 0, .int .u64 0, .int .u16 0] 38))) := hide ((Below.refl _ _).alloc (Nat.le_refl _) _)
  obtain ⟨s0, s1⟩ := h.cells
  have hgz := h.box.lt
  have hfp : (0 : Int) < (F : Int) := by have := hS.pos; omega
  have HCP : Hid (l.length ≤ cap) := hide h.row.2.1
  obtain ⟨n, hn⟩ : ∃ n, n = l.length := ⟨_, rfl⟩
  have HN := hide hn
  have hnI : (n : Int) ≤ 1048576 := by omega
  have hcI : (n : Int) ≤ (cap : Int) := by have := HCP.out; omega
  rw [← hn] at s1 hle
  have HCE := hide (fun W (hW : SdAt F l a cap g W) => hW.cells)
  rw [← hn] at HCE
  clear h hS hl hn
  generalize t % F = x at *
  have hF := hide (HFI.out x)
  obtain ⟨r, hrr⟩ : ∃ r, r = findI l x := ⟨_, rfl⟩
  rw [← hrr] at hF hle hW
  by_cases hr : r < n
  · have hrl : r < l.length := by have := HN.out; omega
    rw [List.getElem?_eq_getElem hrl] at hW
    simp only at hW
    have hr2 : (r : Int) < (n : Int) := by omega
    have HWA := hide (fun W (hW : SdAt F l a cap g W) => win_at hW.row r hrl)
    simp only at HWA
    by_cases hst : l[r].st ≤ x
    · rw [if_pos hst] at hW
      have hV : Hid (winD l x = l[r] ∧ winB l x = true) := hide (by unfold winD winB; rw [hW]; exact ⟨rfl, rfl⟩)
      rw [hV.out.1, hV.out.2]
      have e1 : decide ((l[r].st : Int) ≤ (x : Int)) = true := by simpa using hst
      have e2 : decide (l[r].st ≤ x) = true := by simpa using hst
      generalize l[r] = y at *
      obtain ⟨lo, len, pt⟩ := y
      simp only at HWA e1 e2 hst
      clear hW hrr hrl hle
      unfold winC
      go_enter Tryz.func14, Tryz.ntmps14
      go_wp2_with (go_at_call 34; refine (hF.out _ HS0.out).mono ?_; rintro e w1 ⟨rfl, hb⟩; have HS1 := hide (HS0.out.below hb); have HB1 := hide (HB0.out.trans (hb.mono HB0.out.size)); have HBL1 := hide (HBL0.out.below hb HBL0.out.lt); have hz1 : w.heap.size < w1.heap.size := HBL1.out.lt; clear s0 s1; obtain ⟨s0, s1⟩ := HCE.out w1 HS1.out; have hgz1 : g < w1.heap.size := HS1.out.box.lt; obtain ⟨bb, o, rfl, hbb, x0, x1, x2⟩ := HWA.out w1 HS1.out; have hbz : bb < w1.heap.size := cell_lt x0; have z0 : w1.cell? ⟨w.heap.size, 0, none⟩ = some (.int .u64 0) := HBL1.out.cell 0; have z1 : w1.cell? ⟨w.heap.size, 1, none⟩ = some (.int .u64 0) := HBL1.out.cell 1; have z2 : w1.cell? ⟨w.heap.size, 2, none⟩ = some (.int .u16 0) := HBL1.out.cell 2; have y0 : w1.frozen? ⟨w.heap.size, 0, none⟩ = false := HBL1.out.frozen 0; have y1 : w1.frozen? ⟨w.heap.size, 1, none⟩ = false := HBL1.out.frozen 1; have y2 : w1.frozen? ⟨w.heap.size, 2, none⟩ = false := HBL1.out.frozen 2; clear hb)
      have HR := hide (((HBL1.out.set_ 0 (.int .u64 (lo : Int))).set_ 1 (.int .u64 (len : Int))).set_ 2 (.int .u16 (pt : Int)))
      refine bodyPost_ret (res_cell_tmp rfl _ _ w.heap.size #[.int .u64 (lo : Int), .int .u64 (len : Int), .int .u16 (pt : Int)] rfl (load_win HR.out rfl)) rfl ⟨rfl, ?_⟩
      exact ((HB1.out.setCell (p := ⟨w.heap.size, 0, none⟩) (Nat.le_refl _) _).setCell (p := ⟨w.heap.size, 1, none⟩) (Nat.le_refl _) _).setCell (p := ⟨w.heap.size, 2, none⟩) (Nat.le_refl _) _
    · rw [if_neg hst] at hW
      have hV : Hid (winD l x = ⟨0, 0, 0⟩ ∧ winB l x = false) := hide (by unfold winD winB; rw [hW]; exact ⟨rfl, rfl⟩)
      rw [hV.out.1, hV.out.2]
      have e1 : decide ((l[r].st : Int) ≤ (x : Int)) = false := by simpa using hst
      have e2 : decide (l[r].st ≤ x) = false := by simpa using hst
      generalize l[r] = y at *
      obtain ⟨lo, len, pt⟩ := y
      simp only at HWA e1 e2 hst
      clear hW hrr hrl hle
      unfold winC
      go_enter Tryz.func14, Tryz.ntmps14
      go_wp2_with (go_at_call 34; refine (hF.out _ HS0.out).mono ?_; rintro e w1 ⟨rfl, hb⟩; have HS1 := hide (HS0.out.below hb); have HB1 := hide (HB0.out.trans (hb.mono HB0.out.size)); have HBL1 := hide (HBL0.out.below hb HBL0.out.lt); have hz1 : w.heap.size < w1.heap.size := HBL1.out.lt; clear s0 s1; obtain ⟨s0, s1⟩ := HCE.out w1 HS1.out; have hgz1 : g < w1.heap.size := HS1.out.box.lt; obtain ⟨bb, o, rfl, hbb, x0, x1, x2⟩ := HWA.out w1 HS1.out; have hbz : bb < w1.heap.size := cell_lt x0; have z0 : w1.cell? ⟨w.heap.size, 0, none⟩ = some (.int .u64 0) := HBL1.out.cell 0; have z1 : w1.cell? ⟨w.heap.size, 1, none⟩ = some (.int .u64 0) := HBL1.out.cell 1; have z2 : w1.cell? ⟨w.heap.size, 2, none⟩ = some (.int .u16 0) := HBL1.out.cell 2; have y0 : w1.frozen? ⟨w.heap.size, 0, none⟩ = false := HBL1.out.frozen 0; have y1 : w1.frozen? ⟨w.heap.size, 1, none⟩ = false := HBL1.out.frozen 1; have y2 : w1.frozen? ⟨w.heap.size, 2, none⟩ = false := HBL1.out.frozen 2; clear hb)
      have HR := hide (((HBL1.out.set_ 0 (.int .u64 0)).set_ 1 (.int .u64 0)).set_ 2 (.int .u16 0))
      refine bodyPost_ret (res_cell_tmp rfl _ _ w.heap.size #[.int .u64 0, .int .u64 0, .int .u16 0] rfl (load_win HR.out rfl)) rfl ⟨rfl, ?_⟩
      exact ((HB1.out.setCell (p := ⟨w.heap.size, 0, none⟩) (Nat.le_refl _) _).setCell (p := ⟨w.heap.size, 1, none⟩) (Nat.le_refl _) _).setCell (p := ⟨w.heap.size, 2, none⟩) (Nat.le_refl _) _
  · have hrl : l.length ≤ r := by have := HN.out; omega
    rw [List.getElem?_eq_none hrl] at hW
    simp only at hW
    have hr2 : decide ((r : Int) < (n : Int)) = false := by rw [decide_eq_false_iff_not]; omega
    have hr3 : decide (r < n) = false := by rw [decide_eq_false_iff_not]; omega
    have hV : Hid (winD l x = ⟨0, 0, 0⟩ ∧ winB l x = false) := hide (by unfold winD winB; rw [hW]; exact ⟨rfl, rfl⟩)
    rw [hV.out.1, hV.out.2]
    clear hW hrr hrl hle hr
    unfold winC
    go_enter Tryz.func14, Tryz.ntmps14
    go_wp2_with (go_at_call 34; refine (hF.out _ HS0.out).mono ?_; rintro e w1 ⟨rfl, hb⟩; have HS1 := hide (HS0.out.below hb); have HB1 := hide (HB0.out.trans (hb.mono HB0.out.size)); have HBL1 := hide (HBL0.out.below hb HBL0.out.lt); have hz1 : w.heap.size < w1.heap.size := HBL1.out.lt; clear s0 s1; obtain ⟨s0, s1⟩ := HCE.out w1 HS1.out; have hgz1 : g < w1.heap.size := HS1.out.box.lt; have z0 : w1.cell? ⟨w.heap.size, 0, none⟩ = some (.int .u64 0) := HBL1.out.cell 0; have z1 : w1.cell? ⟨w.heap.size, 1, none⟩ = some (.int .u64 0) := HBL1.out.cell 1; have z2 : w1.cell? ⟨w.heap.size, 2, none⟩ = some (.int .u16 0) := HBL1.out.cell 2; have y0 : w1.frozen? ⟨w.heap.size, 0, none⟩ = false := HBL1.out.frozen 0; have y1 : w1.frozen? ⟨w.heap.size, 1, none⟩ = false := HBL1.out.frozen 1; have y2 : w1.frozen? ⟨w.heap.size, 2, none⟩ = false := HBL1.out.frozen 2; clear hb)
    have HR := hide (((HBL1.out.set_ 0 (.int .u64 0)).set_ 1 (.int .u64 0)).set_ 2 (.int .u16 0))
    refine bodyPost_ret (res_cell_tmp rfl _ _ w.heap.size #[.int .u64 0, .int .u64 0, .int .u16 0] rfl (load_win HR.out rfl)) rfl ⟨rfl, ?_⟩
    exact ((HB1.out.setCell (p := ⟨w.heap.size, 0, none⟩) (Nat.le_refl _) _).setCell (p := ⟨w.heap.size, 1, none⟩) (Nat.le_refl _) _).setCell (p := ⟨w.heap.size, 2, none⟩) (Nat.le_refl _) _
set_option maxRecDepth 100000 in
set_option maxHeartbeats 2000000 in
theorem Lookup_any (F : Nat) (l : List WinR) (a : Option Addr) (cap g t : Nat) (w : World) (h : SdAt F l a cap g w) (hS : Sch F l) (hl : l.length ≤ 1048576) :
    Calls Tryz.prog 13 #[.pointer (some ⟨g, 0, none⟩), .int .u64 (t : Int)] w fun e w' => e = .returned (.tuple #[.int .u16 ((winD l (t % F)).part : Int), .bool (winB l (t % F))]) ∧ Below w.heap.size w w' := by
  have HW := hide (Window_any F l a cap g t w h hS hl)
  generalize winD l (t % F) = y at *
  generalize winB l (t % F) = b at *
  obtain ⟨lo, len, pt⟩ := y
  unfold winC at HW
  simp only at HW ⊢
  clear h hS hl
  go_enter Tryz.func13, Tryz.ntmps13
  go_wp2_with (go_at_call 14; refine HW.out.mono ?_; rintro e w1 ⟨rfl, hb⟩; have HB := hide hb; clear hb)
  go_ret2
  exact ⟨rfl, HB.out.alloc HB.out.size _⟩
set_option maxRecDepth 100000 in
set_option maxHeartbeats 2000000 in
theorem SLen_calls (F : Nat) (l : List WinR) (a : Option Addr) (cap g : Nat) (w : World) (h : SdAt F l a cap g w) :
    Calls Tryz.prog 17 #[.pointer (some ⟨g, 0, none⟩)] w fun e w' => e = .returned (.int .i64 (l.length : Int)) ∧ w = w' := by
  obtain ⟨s0, s1⟩ := h.cells
  have hgz := h.box.lt
  generalize l.length = n at *
  clear h
  go_enter Tryz.func17, Tryz.ntmps17
  go_wp2
  go_ret
  exact ⟨rfl, rfl⟩
theorem wrapU {a : Int} {n : Nat} (h : a = (n : Int)) (hn : n < 18446744073709551616) : IntKind.u64.wrap a = (n : Int) := by
  subst h
  simp only [IntKind.wrap, IntKind.bits, IntKind.signed]
  simp
  omega
set_option maxRecDepth 100000 in
set_option maxHeartbeats 4000000 in
theorem Until_calls (F : Nat) (l : List WinR) (a : Option Addr) (cap g t : Nat) (w : World) (h : SdAt F l a cap g w) (hS : Sch F l) (hl : l.length ≤ 1048576) (ht : t < 18446744073709551616) :
    Calls Tryz.prog 19 #[.pointer (some ⟨g, 0, none⟩), .int .u64 (t : Int)] w fun e w' => e = .returned (.int .u64 ((untilS F l t : Nat) : Int)) ∧ Below w.heap.size w w' := by
  have hW := endS_find hS (t % F)
  obtain ⟨q1, q2, _⟩ := endS_spec hS (Nat.mod_lt t hS.pos)
  have hFl := hS.lt
  have HFI := hide (fun x W (hW : SdAt F l a cap g W) => sfind_calls F l a cap g x W hW hS hl)
  have hm1 : (t : Int).tmod (F : Int) = ((t % F : Nat) : Int) := by rw [Int.ofNat_tmod]
  have hm2 : (t : Int) % (F : Int) = ((t % F : Nat) : Int) := by omega
  have hf0 : ((F : Int) == 0) = false := by rw [beq_eq_false_iff_ne]; have := hS.pos; omega
  have hle := findI_le l (t % F)
  have HS0 := hide h
  have HB0 : Hid (Below w.heap.size w w) := hide (Below.refl _ _)
  obtain ⟨s0, s1⟩ := h.cells
  have hgz := h.box.lt
  have hfp : (0 : Int) < (F : Int) := by have := hS.pos; omega
  have HCP : Hid (l.length ≤ cap) := hide h.row.2.1
  obtain ⟨n, hn⟩ : ∃ n, n = l.length := ⟨_, rfl⟩
  have HN := hide hn
  have hnI : (n : Int) ≤ 1048576 := by omega
  have hcI : (n : Int) ≤ (cap : Int) := by have := HCP.out; omega
  rw [← hn] at s1 hle
  have HCE := hide (fun W (hW : SdAt F l a cap g W) => hW.cells)
  rw [← hn] at HCE
  have hr0 : Hid (untilS F l t = cutT (endS F l (t % F) - t % F) t) := hide rfl
  rw [hr0.out]
  clear hr0
  have hx64 : t % F < 18446744073709551616 := by have := Nat.mod_le t F; omega
  clear h hl
  generalize t % F = x at *
  have hF := hide (HFI.out x)
  have hS2 := hide hS
  clear hS
  obtain ⟨E, hE⟩ : ∃ E, E = endS F l x := ⟨_, rfl⟩
  rw [← hE] at hW q1 q2 ⊢
  obtain ⟨d, hd⟩ : ∃ d, d = E - x := ⟨_, rfl⟩
  obtain ⟨d1, hd1⟩ : ∃ d1, d1 = d - 1 := ⟨_, rfl⟩
  obtain ⟨lf, hlf⟩ : ∃ lf, lf = 18446744073709551615 - t := ⟨_, rfl⟩
  have f1 : IntKind.u64.wrap ((E : Int) - (x : Int)) = (d : Int) := wrapU (by omega) (by omega)
  have f2 : IntKind.u64.wrap ((d : Int) - 1) = (d1 : Int) := wrapU (by omega) (by omega)
  have f3 : IntKind.u64.wrap (18446744073709551615 - (t : Int)) = (lf : Int) := wrapU (by omega) (by omega)
  rw [← hd]
  have hcut : cutT d t = if lf < d1 then lf + 1 else d := by unfold cutT; rw [hlf, hd1]
  obtain ⟨v, hv⟩ : ∃ v, v = cutT d t := ⟨_, rfl⟩
  rw [← hv]
  rw [← hv] at hcut
  have f4 : lf < d1 → IntKind.u64.wrap ((lf : Int) + 1) = (v : Int) := fun h0 => by rw [if_pos h0] at hcut; exact wrapU (by omega) (by omega)
  have f5 : ¬ lf < d1 → d = v := fun h0 => by rw [if_neg h0] at hcut; exact hcut.symm
  have HQ := hide (And.intro q1 q2)
  have hE64 : E < 18446744073709551616 := by omega
  have HE64 := hide hE64
  obtain ⟨r, hrr⟩ : ∃ r, r = findI l x := ⟨_, rfl⟩
  rw [← hrr] at hF hle hW
  clear hE hd hd1 hlf hcut hv hFl q1 q2 ht hx64 hE64
  by_cases hr : r < n
  · have hrl : r < l.length := by have := HN.out; omega
    rw [List.getElem?_eq_getElem hrl] at hW
    simp only at hW
    have hr2 : (r : Int) < (n : Int) := by omega
    have HWA := hide (fun W (hW : SdAt F l a cap g W) => win_at hW.row r hrl)
    simp only at HWA
    generalize l[r] = y at *
    obtain ⟨lo, len, pt⟩ := y
    simp only at HWA hW
    clear hrl hrr hle hn
    by_cases hst : x < lo
    · rw [if_pos hst] at hW
      obtain rfl : E = lo := hW
      have e1 : decide ((x : Int) < (E : Int)) = true := by simpa using hst
      have e2 : decide (x < E) = true := by simpa using hst
      clear hst
      by_cases hc : lf < d1
      · have g1 : decide ((lf : Int) < (d1 : Int)) = true := by simpa using hc
        have g2 : decide (lf < d1) = true := by simpa using hc
        have g3 := f4 hc
        clear f4 f5 hc
        go_enter Tryz.func19, Tryz.ntmps19
        go_wp2_with (go_at_call 34; refine (hF.out _ HS0.out).mono ?_; rintro e w1 ⟨rfl, hb⟩; have HS1 := hide (HS0.out.below hb); have HB1 := hide (HB0.out.trans (hb.mono HB0.out.size)); clear s0 s1; obtain ⟨s0, s1⟩ := HCE.out w1 HS1.out; have hgz1 : g < w1.heap.size := HS1.out.box.lt; obtain ⟨bb, o, rfl, hbb, x0, x1, x2⟩ := HWA.out w1 HS1.out; have hbz : bb < w1.heap.size := cell_lt x0; clear hb)
        go_ret
        exact ⟨rfl, HB1.out.alloc HB1.out.size _⟩
      · have g1 : decide ((lf : Int) < (d1 : Int)) = false := by simpa using hc
        have g2 : decide (lf < d1) = false := by simpa using hc
        obtain rfl : d = v := f5 hc
        clear f4 f5 hc
        go_enter Tryz.func19, Tryz.ntmps19
        go_wp2_with (go_at_call 34; refine (hF.out _ HS0.out).mono ?_; rintro e w1 ⟨rfl, hb⟩; have HS1 := hide (HS0.out.below hb); have HB1 := hide (HB0.out.trans (hb.mono HB0.out.size)); clear s0 s1; obtain ⟨s0, s1⟩ := HCE.out w1 HS1.out; have hgz1 : g < w1.heap.size := HS1.out.box.lt; obtain ⟨bb, o, rfl, hbb, x0, x1, x2⟩ := HWA.out w1 HS1.out; have hbz : bb < w1.heap.size := cell_lt x0; clear hb)
        go_ret
        exact ⟨rfl, HB1.out.alloc HB1.out.size _⟩
    · rw [if_neg hst] at hW
      have e1 : decide ((x : Int) < (lo : Int)) = false := by simpa using hst
      have e2 : decide (x < lo) = false := by simpa using hst
      have e3 : IntKind.u64.wrap ((lo : Int) + (len : Int)) = (E : Int) := wrapU (by omega) HE64.out
      clear hst hW
      by_cases hc : lf < d1
      · have g1 : decide ((lf : Int) < (d1 : Int)) = true := by simpa using hc
        have g2 : decide (lf < d1) = true := by simpa using hc
        have g3 := f4 hc
        clear f4 f5 hc
        go_enter Tryz.func19, Tryz.ntmps19
        go_wp2_with (go_at_call 34; refine (hF.out _ HS0.out).mono ?_; rintro e w1 ⟨rfl, hb⟩; have HS1 := hide (HS0.out.below hb); have HB1 := hide (HB0.out.trans (hb.mono HB0.out.size)); clear s0 s1; obtain ⟨s0, s1⟩ := HCE.out w1 HS1.out; have hgz1 : g < w1.heap.size := HS1.out.box.lt; obtain ⟨bb, o, rfl, hbb, x0, x1, x2⟩ := HWA.out w1 HS1.out; have hbz : bb < w1.heap.size := cell_lt x0; clear hb)
        go_ret
        exact ⟨rfl, HB1.out.alloc HB1.out.size _⟩
      · have g1 : decide ((lf : Int) < (d1 : Int)) = false := by simpa using hc
        have g2 : decide (lf < d1) = false := by simpa using hc
        obtain rfl : d = v := f5 hc
        clear f4 f5 hc
        go_enter Tryz.func19, Tryz.ntmps19
        go_wp2_with (go_at_call 34; refine (hF.out _ HS0.out).mono ?_; rintro e w1 ⟨rfl, hb⟩; have HS1 := hide (HS0.out.below hb); have HB1 := hide (HB0.out.trans (hb.mono HB0.out.size)); clear s0 s1; obtain ⟨s0, s1⟩ := HCE.out w1 HS1.out; have hgz1 : g < w1.heap.size := HS1.out.box.lt; obtain ⟨bb, o, rfl, hbb, x0, x1, x2⟩ := HWA.out w1 HS1.out; have hbz : bb < w1.heap.size := cell_lt x0; clear hb)
        go_ret
        exact ⟨rfl, HB1.out.alloc HB1.out.size _⟩
  · have hrl : l.length ≤ r := by have := HN.out; omega
    rw [List.getElem?_eq_none hrl] at hW
    simp only at hW
    obtain rfl : E = F := hW
    have hr2 : decide ((r : Int) < (n : Int)) = false := by rw [decide_eq_false_iff_not]; omega
    have hr3 : decide (r < n) = false := by rw [decide_eq_false_iff_not]; omega
    clear hrr hrl hle hr hn
    by_cases hc : lf < d1
    · have g1 : decide ((lf : Int) < (d1 : Int)) = true := by simpa using hc
      have g2 : decide (lf < d1) = true := by simpa using hc
      have g3 := f4 hc
      clear f4 f5 hc
      go_enter Tryz.func19, Tryz.ntmps19
      go_wp2_with (go_at_call 34; refine (hF.out _ HS0.out).mono ?_; rintro e w1 ⟨rfl, hb⟩; have HS1 := hide (HS0.out.below hb); have HB1 := hide (HB0.out.trans (hb.mono HB0.out.size)); clear s0 s1; obtain ⟨s0, s1⟩ := HCE.out w1 HS1.out; have hgz1 : g < w1.heap.size := HS1.out.box.lt; clear hb)
      go_ret
      exact ⟨rfl, HB1.out⟩
    · have g1 : decide ((lf : Int) < (d1 : Int)) = false := by simpa using hc
      have g2 : decide (lf < d1) = false := by simpa using hc
      obtain rfl : d = v := f5 hc
      clear f4 f5 hc
      go_enter Tryz.func19, Tryz.ntmps19
      go_wp2_with (go_at_call 34; refine (hF.out _ HS0.out).mono ?_; rintro e w1 ⟨rfl, hb⟩; have HS1 := hide (HS0.out.below hb); have HB1 := hide (HB0.out.trans (hb.mono HB0.out.size)); clear s0 s1; obtain ⟨s0, s1⟩ := HCE.out w1 HS1.out; have hgz1 : g < w1.heap.size := HS1.out.box.lt; clear hb)
      go_ret
      exact ⟨rfl, HB1.out⟩
theorem Window_calls (F : Nat) (l : List WinR) (a : Option Addr) (cap g t : Nat) (w : World) (h : SdAt F l a cap g w) (hS : Sch F l) (hl : l.length ≤ 1048576) (ht : t < 18446744073709551616) :
    Calls Tryz.prog 14 #[.pointer (some ⟨g, 0, none⟩), .int .u64 (t : Int)] w fun e w' => e = .returned (.tuple #[.agg (winC (winD l (t % F))), .bool (winB l (t % F))]) ∧ Below w.heap.size w w' := Window_any F l a cap g t w h hS hl
theorem Lookup_calls (F : Nat) (l : List WinR) (a : Option Addr) (cap g t : Nat) (w : World) (h : SdAt F l a cap g w) (hS : Sch F l) (hl : l.length ≤ 1048576) (ht : t < 18446744073709551616) :
    Calls Tryz.prog 13 #[.pointer (some ⟨g, 0, none⟩), .int .u64 (t : Int)] w fun e w' => e = .returned (.tuple #[.int .u16 ((winD l (t % F)).part : Int), .bool (winB l (t % F))]) ∧ Below w.heap.size w w' := Lookup_any F l a cap g t w h hS hl
end Go.Proofs.YtmphookgaopdlaaGreat
