/- show.each at the five kinds of records (chapter 08). Written by gensheach.py. -/
import Derived.Test.YtcnihmlmaigkdaaGreatDoorShMeth
namespace Go.Proofs.YtcnihmlmaigkdaaGreatDoor
open Go.RowKit Go.Lib Go.Sort
set_option linter.unusedVariables false

/-- Behind each: the lines of all records more. -/
def EachW (B g : Nat) (L : List ByteArray) (w : World) (e : Ending) (w' : World) : Prop :=
  e = .returned (.tuple #[]) ∧ WrAt B w'.heap.size g L w' ∧ Below B w w'
set_option maxRecDepth 100000 in
set_option maxHeartbeats 4000000 in
theorem each_part (B g : Nat) (L : List ByteArray) (r : Row PartR) (w : World) (hr : RowAt partL 4 B r w) (hn : r.l.length ≤ 1024) (h : WrAt B w.heap.size g L w) (hL : L.length ≤ 900000)
    (hm : ∀ x ∈ r.l, ∀ W L', Below B w W → WrAt B W.heap.size g L' W → L'.length ≤ 1000000 → Calls Tryz.prog 55 #[.pointer (some ⟨g, 0, none⟩), .agg (partCs x)] W (MethW B g L' (ofL (partLn x)) W)) :
    Calls Tryz.prog 54 #[.slice r.a r.l.length r.c, .func (.func 55) #[.pointer (some ⟨g, 0, none⟩)] #[]] w (EachW B g (L ++ r.l.map fun x => ofL (partLn x)) w) := by
  have HH := hide hr
  have HM := hide hm
  have HW0 := hide h
  have hcap := hr.2
  obtain ⟨n, hn2⟩ : ∃ n, n = r.l.length := ⟨_, rfl⟩
  obtain ⟨ra, hra⟩ : ∃ a, a = r.a := ⟨_, rfl⟩
  have HN := hide hn2
  have HRA := hide hra
  rw [← hn2] at hcap
  rw [← hn2, ← hra]
  have hnI : (n : Int) ≤ 1024 := by omega
  have hcI : (n : Int) ≤ (r.c : Int) := by omega
  have eF : ∀ args w, (callFunc 55 args).run Tryz.prog w = .ok (.enter 55 args) w := enters_of Tryz.func55 (by kernel_rfl) rfl
  clear hr hm h hn2 hra hcap
  go_enter Tryz.func54, Tryz.ntmps54
  go_wp2
  go_loopw [8] (fun i wr => ∃ k : Nat, k ≤ n ∧ i = .int .i64 (k : Int) ∧ Hid (WrAt B wr.heap.size g (L ++ (r.l.take k).map fun x => ofL (partLn x)) wr ∧ Below B w wr)) (fun i _ => n - (intOf i).toNat)
  case atStart => exact ⟨0, Nat.zero_le _, rfl, hide ⟨by simpa using HW0.out, Below.refl _ w⟩⟩
  case round =>
    obtain ⟨k, hk, rfl, hrel⟩ := hrel
    by_cases hlt : k < n
    · have hlt2 : (k : Int) < (n : Int) := by omega
      have hkl : k < r.l.length := by have := HN.out; omega
      obtain ⟨b, o, ha, hab, x0, x1, x2, x3⟩ := part_at (HH.out.below hrel.out.2) k hkl
      obtain rfl : ra = some ⟨b, o, none⟩ := HRA.out.trans ha
      have htk : (L ++ (r.l.take (k + 1)).map fun x => ofL (partLn x)) = (L ++ (r.l.take k).map fun x => ofL (partLn x)) ++ [ofL (partLn r.l[k])] := by
        rw [List.take_succ_eq_append_getElem hkl, List.map_append, ← List.append_assoc]; rfl
      have hll : (L ++ (r.l.take k).map fun x => ofL (partLn x)).length ≤ 1000000 := by simp; omega
      have HC := hide (fun o => HM.out r.l[k] (List.getElem_mem _) (wr.alloc o) _ (hrel.out.2.alloc hrel.out.1.le o) ((hrel.out.1.alloc o).more (by simp) (Nat.le_refl _)) hll)
      have HT := hide htk
      have HB0 := hide (fun o => hrel.out.2.alloc (w := wr) hrel.out.1.le o)
      clear hll htk ha hrel
      generalize r.l[k] = x at *
      obtain ⟨M, hM⟩ : ∃ M, M = (r.l.take (k + 1)).map (fun x => ofL (partLn x)) := ⟨_, rfl⟩
      rw [← hM] at HT
      have HMM := hide hM
      clear hM
      generalize (r.l.take k).map (fun x => ofL (partLn x)) = M0 at *
      unfold partCs at HC
      go_wp2_with (go_at_call 55; refine (HC.out _).mono ?_; rintro e w2 ⟨rfl, hw2, hb2⟩; have HR := hide (And.intro (show WrAt B w2.heap.size g (L ++ M) w2 by rw [HT.out]; exact hw2) ((HB0.out _).trans hb2)); clear hw2 hb2)
      go_roundw
      case rel => exact ⟨k + 1, by omega, by go_num, (by rw [← HMM.out]; exact HR)⟩
      case measure => simp [intOf]; omega
    · obtain rfl : k = n := by omega
      have hrel2 := hrel.out
      rw [List.take_of_length_le (by rw [HN.out]; exact Nat.le_refl _)] at hrel2
      have HF := hide hrel2
      clear hrel hrel2 hlt
      go_wp2
      go_end0
      exact ⟨rfl, HF.out⟩
set_option maxRecDepth 100000 in
set_option maxHeartbeats 4000000 in
theorem each_win (B g : Nat) (L : List ByteArray) (r : Row WinR) (w : World) (hr : RowAt winL 3 B r w) (hn : r.l.length ≤ 1024) (h : WrAt B w.heap.size g L w) (hL : L.length ≤ 900000)
    (hm : ∀ x ∈ r.l, ∀ W L', Below B w W → WrAt B W.heap.size g L' W → L'.length ≤ 1000000 → Calls Tryz.prog 57 #[.pointer (some ⟨g, 0, none⟩), .agg (winCs x)] W (MethW B g L' (ofL (winLn x)) W)) :
    Calls Tryz.prog 56 #[.slice r.a r.l.length r.c, .func (.func 57) #[.pointer (some ⟨g, 0, none⟩)] #[]] w (EachW B g (L ++ r.l.map fun x => ofL (winLn x)) w) := by
  have HH := hide hr
  have HM := hide hm
  have HW0 := hide h
  have hcap := hr.2
  obtain ⟨n, hn2⟩ : ∃ n, n = r.l.length := ⟨_, rfl⟩
  obtain ⟨ra, hra⟩ : ∃ a, a = r.a := ⟨_, rfl⟩
  have HN := hide hn2
  have HRA := hide hra
  rw [← hn2] at hcap
  rw [← hn2, ← hra]
  have hnI : (n : Int) ≤ 1024 := by omega
  have hcI : (n : Int) ≤ (r.c : Int) := by omega
  have eF : ∀ args w, (callFunc 57 args).run Tryz.prog w = .ok (.enter 57 args) w := enters_of Tryz.func57 (by kernel_rfl) rfl
  clear hr hm h hn2 hra hcap
  go_enter Tryz.func56, Tryz.ntmps56
  go_wp2
  go_loopw [8] (fun i wr => ∃ k : Nat, k ≤ n ∧ i = .int .i64 (k : Int) ∧ Hid (WrAt B wr.heap.size g (L ++ (r.l.take k).map fun x => ofL (winLn x)) wr ∧ Below B w wr)) (fun i _ => n - (intOf i).toNat)
  case atStart => exact ⟨0, Nat.zero_le _, rfl, hide ⟨by simpa using HW0.out, Below.refl _ w⟩⟩
  case round =>
    obtain ⟨k, hk, rfl, hrel⟩ := hrel
    by_cases hlt : k < n
    · have hlt2 : (k : Int) < (n : Int) := by omega
      have hkl : k < r.l.length := by have := HN.out; omega
      obtain ⟨b, o, ha, hab, x0, x1, x2⟩ := win_at (HH.out.below hrel.out.2) k hkl
      obtain rfl : ra = some ⟨b, o, none⟩ := HRA.out.trans ha
      have htk : (L ++ (r.l.take (k + 1)).map fun x => ofL (winLn x)) = (L ++ (r.l.take k).map fun x => ofL (winLn x)) ++ [ofL (winLn r.l[k])] := by
        rw [List.take_succ_eq_append_getElem hkl, List.map_append, ← List.append_assoc]; rfl
      have hll : (L ++ (r.l.take k).map fun x => ofL (winLn x)).length ≤ 1000000 := by simp; omega
      have HC := hide (fun o => HM.out r.l[k] (List.getElem_mem _) (wr.alloc o) _ (hrel.out.2.alloc hrel.out.1.le o) ((hrel.out.1.alloc o).more (by simp) (Nat.le_refl _)) hll)
      have HT := hide htk
      have HB0 := hide (fun o => hrel.out.2.alloc (w := wr) hrel.out.1.le o)
      clear hll htk ha hrel
      generalize r.l[k] = x at *
      obtain ⟨M, hM⟩ : ∃ M, M = (r.l.take (k + 1)).map (fun x => ofL (winLn x)) := ⟨_, rfl⟩
      rw [← hM] at HT
      have HMM := hide hM
      clear hM
      generalize (r.l.take k).map (fun x => ofL (winLn x)) = M0 at *
      unfold winCs at HC
      go_wp2_with (go_at_call 57; refine (HC.out _).mono ?_; rintro e w2 ⟨rfl, hw2, hb2⟩; have HR := hide (And.intro (show WrAt B w2.heap.size g (L ++ M) w2 by rw [HT.out]; exact hw2) ((HB0.out _).trans hb2)); clear hw2 hb2)
      go_roundw
      case rel => exact ⟨k + 1, by omega, by go_num, (by rw [← HMM.out]; exact HR)⟩
      case measure => simp [intOf]; omega
    · obtain rfl : k = n := by omega
      have hrel2 := hrel.out
      rw [List.take_of_length_le (by rw [HN.out]; exact Nat.le_refl _)] at hrel2
      have HF := hide hrel2
      clear hrel hrel2 hlt
      go_wp2
      go_end0
      exact ⟨rfl, HF.out⟩
set_option maxRecDepth 100000 in
set_option maxHeartbeats 4000000 in
theorem each_reg (B g : Nat) (L : List ByteArray) (r : Row RegR) (w : World) (hr : RowAt regL 5 B r w) (hn : r.l.length ≤ 1024) (h : WrAt B w.heap.size g L w) (hL : L.length ≤ 900000)
    (hm : ∀ x ∈ r.l, ∀ W L', Below B w W → WrAt B W.heap.size g L' W → L'.length ≤ 1000000 → Calls Tryz.prog 59 #[.pointer (some ⟨g, 0, none⟩), .agg (regCs x)] W (MethW B g L' (ofL (regLn x)) W)) :
    Calls Tryz.prog 58 #[.slice r.a r.l.length r.c, .func (.func 59) #[.pointer (some ⟨g, 0, none⟩)] #[]] w (EachW B g (L ++ r.l.map fun x => ofL (regLn x)) w) := by
  have HH := hide hr
  have HM := hide hm
  have HW0 := hide h
  have hcap := hr.2
  obtain ⟨n, hn2⟩ : ∃ n, n = r.l.length := ⟨_, rfl⟩
  obtain ⟨ra, hra⟩ : ∃ a, a = r.a := ⟨_, rfl⟩
  have HN := hide hn2
  have HRA := hide hra
  rw [← hn2] at hcap
  rw [← hn2, ← hra]
  have hnI : (n : Int) ≤ 1024 := by omega
  have hcI : (n : Int) ≤ (r.c : Int) := by omega
  have eF : ∀ args w, (callFunc 59 args).run Tryz.prog w = .ok (.enter 59 args) w := enters_of Tryz.func59 (by kernel_rfl) rfl
  clear hr hm h hn2 hra hcap
  go_enter Tryz.func58, Tryz.ntmps58
  go_wp2
  go_loopw [8] (fun i wr => ∃ k : Nat, k ≤ n ∧ i = .int .i64 (k : Int) ∧ Hid (WrAt B wr.heap.size g (L ++ (r.l.take k).map fun x => ofL (regLn x)) wr ∧ Below B w wr)) (fun i _ => n - (intOf i).toNat)
  case atStart => exact ⟨0, Nat.zero_le _, rfl, hide ⟨by simpa using HW0.out, Below.refl _ w⟩⟩
  case round =>
    obtain ⟨k, hk, rfl, hrel⟩ := hrel
    by_cases hlt : k < n
    · have hlt2 : (k : Int) < (n : Int) := by omega
      have hkl : k < r.l.length := by have := HN.out; omega
      obtain ⟨b, o, ha, hab, x0, x1, x2, x3, x4⟩ := reg_at (HH.out.below hrel.out.2) k hkl
      obtain rfl : ra = some ⟨b, o, none⟩ := HRA.out.trans ha
      have htk : (L ++ (r.l.take (k + 1)).map fun x => ofL (regLn x)) = (L ++ (r.l.take k).map fun x => ofL (regLn x)) ++ [ofL (regLn r.l[k])] := by
        rw [List.take_succ_eq_append_getElem hkl, List.map_append, ← List.append_assoc]; rfl
      have hll : (L ++ (r.l.take k).map fun x => ofL (regLn x)).length ≤ 1000000 := by simp; omega
      have HC := hide (fun o => HM.out r.l[k] (List.getElem_mem _) (wr.alloc o) _ (hrel.out.2.alloc hrel.out.1.le o) ((hrel.out.1.alloc o).more (by simp) (Nat.le_refl _)) hll)
      have HT := hide htk
      have HB0 := hide (fun o => hrel.out.2.alloc (w := wr) hrel.out.1.le o)
      clear hll htk ha hrel
      generalize r.l[k] = x at *
      obtain ⟨M, hM⟩ : ∃ M, M = (r.l.take (k + 1)).map (fun x => ofL (regLn x)) := ⟨_, rfl⟩
      rw [← hM] at HT
      have HMM := hide hM
      clear hM
      generalize (r.l.take k).map (fun x => ofL (regLn x)) = M0 at *
      unfold regCs at HC
      go_wp2_with (go_at_call 59; refine (HC.out _).mono ?_; rintro e w2 ⟨rfl, hw2, hb2⟩; have HR := hide (And.intro (show WrAt B w2.heap.size g (L ++ M) w2 by rw [HT.out]; exact hw2) ((HB0.out _).trans hb2)); clear hw2 hb2)
      go_roundw
      case rel => exact ⟨k + 1, by omega, by go_num, (by rw [← HMM.out]; exact HR)⟩
      case measure => simp [intOf]; omega
    · obtain rfl : k = n := by omega
      have hrel2 := hrel.out
      rw [List.take_of_length_le (by rw [HN.out]; exact Nat.le_refl _)] at hrel2
      have HF := hide hrel2
      clear hrel hrel2 hlt
      go_wp2
      go_end0
      exact ⟨rfl, HF.out⟩
set_option maxRecDepth 100000 in
set_option maxHeartbeats 4000000 in
theorem each_port (B g : Nat) (L : List ByteArray) (r : Row PortR) (w : World) (hr : RowAt portL 6 B r w) (hn : r.l.length ≤ 1024) (h : WrAt B w.heap.size g L w) (hL : L.length ≤ 900000)
    (hm : ∀ x ∈ r.l, ∀ W L', Below B w W → WrAt B W.heap.size g L' W → L'.length ≤ 1000000 → Calls Tryz.prog 61 #[.pointer (some ⟨g, 0, none⟩), .agg (portCs x)] W (MethW B g L' (ofL (portLn x)) W)) :
    Calls Tryz.prog 60 #[.slice r.a r.l.length r.c, .func (.func 61) #[.pointer (some ⟨g, 0, none⟩)] #[]] w (EachW B g (L ++ r.l.map fun x => ofL (portLn x)) w) := by
  have HH := hide hr
  have HM := hide hm
  have HW0 := hide h
  have hcap := hr.2
  obtain ⟨n, hn2⟩ : ∃ n, n = r.l.length := ⟨_, rfl⟩
  obtain ⟨ra, hra⟩ : ∃ a, a = r.a := ⟨_, rfl⟩
  have HN := hide hn2
  have HRA := hide hra
  rw [← hn2] at hcap
  rw [← hn2, ← hra]
  have hnI : (n : Int) ≤ 1024 := by omega
  have hcI : (n : Int) ≤ (r.c : Int) := by omega
  have eF : ∀ args w, (callFunc 61 args).run Tryz.prog w = .ok (.enter 61 args) w := enters_of Tryz.func61 (by kernel_rfl) rfl
  clear hr hm h hn2 hra hcap
  go_enter Tryz.func60, Tryz.ntmps60
  go_wp2
  go_loopw [8] (fun i wr => ∃ k : Nat, k ≤ n ∧ i = .int .i64 (k : Int) ∧ Hid (WrAt B wr.heap.size g (L ++ (r.l.take k).map fun x => ofL (portLn x)) wr ∧ Below B w wr)) (fun i _ => n - (intOf i).toNat)
  case atStart => exact ⟨0, Nat.zero_le _, rfl, hide ⟨by simpa using HW0.out, Below.refl _ w⟩⟩
  case round =>
    obtain ⟨k, hk, rfl, hrel⟩ := hrel
    by_cases hlt : k < n
    · have hlt2 : (k : Int) < (n : Int) := by omega
      have hkl : k < r.l.length := by have := HN.out; omega
      obtain ⟨b, o, ha, hab, x0, x1, x2, x3, x4, x5⟩ := port_at (HH.out.below hrel.out.2) k hkl
      obtain rfl : ra = some ⟨b, o, none⟩ := HRA.out.trans ha
      have htk : (L ++ (r.l.take (k + 1)).map fun x => ofL (portLn x)) = (L ++ (r.l.take k).map fun x => ofL (portLn x)) ++ [ofL (portLn r.l[k])] := by
        rw [List.take_succ_eq_append_getElem hkl, List.map_append, ← List.append_assoc]; rfl
      have hll : (L ++ (r.l.take k).map fun x => ofL (portLn x)).length ≤ 1000000 := by simp; omega
      have HC := hide (fun o => HM.out r.l[k] (List.getElem_mem _) (wr.alloc o) _ (hrel.out.2.alloc hrel.out.1.le o) ((hrel.out.1.alloc o).more (by simp) (Nat.le_refl _)) hll)
      have HT := hide htk
      have HB0 := hide (fun o => hrel.out.2.alloc (w := wr) hrel.out.1.le o)
      clear hll htk ha hrel
      generalize r.l[k] = x at *
      obtain ⟨M, hM⟩ : ∃ M, M = (r.l.take (k + 1)).map (fun x => ofL (portLn x)) := ⟨_, rfl⟩
      rw [← hM] at HT
      have HMM := hide hM
      clear hM
      generalize (r.l.take k).map (fun x => ofL (portLn x)) = M0 at *
      unfold portCs at HC
      go_wp2_with (go_at_call 61; refine (HC.out _).mono ?_; rintro e w2 ⟨rfl, hw2, hb2⟩; have HR := hide (And.intro (show WrAt B w2.heap.size g (L ++ M) w2 by rw [HT.out]; exact hw2) ((HB0.out _).trans hb2)); clear hw2 hb2)
      go_roundw
      case rel => exact ⟨k + 1, by omega, by go_num, (by rw [← HMM.out]; exact HR)⟩
      case measure => simp [intOf]; omega
    · obtain rfl : k = n := by omega
      have hrel2 := hrel.out
      rw [List.take_of_length_le (by rw [HN.out]; exact Nat.le_refl _)] at hrel2
      have HF := hide hrel2
      clear hrel hrel2 hlt
      go_wp2
      go_end0
      exact ⟨rfl, HF.out⟩
set_option maxRecDepth 100000 in
set_option maxHeartbeats 4000000 in
theorem each_chan (B g : Nat) (L : List ByteArray) (r : Row ChanR) (w : World) (hr : RowAt chanL 3 B r w) (hn : r.l.length ≤ 1024) (h : WrAt B w.heap.size g L w) (hL : L.length ≤ 900000)
    (hm : ∀ x ∈ r.l, ∀ W L', Below B w W → WrAt B W.heap.size g L' W → L'.length ≤ 1000000 → Calls Tryz.prog 63 #[.pointer (some ⟨g, 0, none⟩), .agg (chanCs x)] W (MethW B g L' (ofL (chanLn x)) W)) :
    Calls Tryz.prog 62 #[.slice r.a r.l.length r.c, .func (.func 63) #[.pointer (some ⟨g, 0, none⟩)] #[]] w (EachW B g (L ++ r.l.map fun x => ofL (chanLn x)) w) := by
  have HH := hide hr
  have HM := hide hm
  have HW0 := hide h
  have hcap := hr.2
  obtain ⟨n, hn2⟩ : ∃ n, n = r.l.length := ⟨_, rfl⟩
  obtain ⟨ra, hra⟩ : ∃ a, a = r.a := ⟨_, rfl⟩
  have HN := hide hn2
  have HRA := hide hra
  rw [← hn2] at hcap
  rw [← hn2, ← hra]
  have hnI : (n : Int) ≤ 1024 := by omega
  have hcI : (n : Int) ≤ (r.c : Int) := by omega
  have eF : ∀ args w, (callFunc 63 args).run Tryz.prog w = .ok (.enter 63 args) w := enters_of Tryz.func63 (by kernel_rfl) rfl
  clear hr hm h hn2 hra hcap
  go_enter Tryz.func62, Tryz.ntmps62
  go_wp2
  go_loopw [8] (fun i wr => ∃ k : Nat, k ≤ n ∧ i = .int .i64 (k : Int) ∧ Hid (WrAt B wr.heap.size g (L ++ (r.l.take k).map fun x => ofL (chanLn x)) wr ∧ Below B w wr)) (fun i _ => n - (intOf i).toNat)
  case atStart => exact ⟨0, Nat.zero_le _, rfl, hide ⟨by simpa using HW0.out, Below.refl _ w⟩⟩
  case round =>
    obtain ⟨k, hk, rfl, hrel⟩ := hrel
    by_cases hlt : k < n
    · have hlt2 : (k : Int) < (n : Int) := by omega
      have hkl : k < r.l.length := by have := HN.out; omega
      obtain ⟨b, o, ha, hab, x0, x1, x2⟩ := chan_at (HH.out.below hrel.out.2) k hkl
      obtain rfl : ra = some ⟨b, o, none⟩ := HRA.out.trans ha
      have htk : (L ++ (r.l.take (k + 1)).map fun x => ofL (chanLn x)) = (L ++ (r.l.take k).map fun x => ofL (chanLn x)) ++ [ofL (chanLn r.l[k])] := by
        rw [List.take_succ_eq_append_getElem hkl, List.map_append, ← List.append_assoc]; rfl
      have hll : (L ++ (r.l.take k).map fun x => ofL (chanLn x)).length ≤ 1000000 := by simp; omega
      have HC := hide (fun o => HM.out r.l[k] (List.getElem_mem _) (wr.alloc o) _ (hrel.out.2.alloc hrel.out.1.le o) ((hrel.out.1.alloc o).more (by simp) (Nat.le_refl _)) hll)
      have HT := hide htk
      have HB0 := hide (fun o => hrel.out.2.alloc (w := wr) hrel.out.1.le o)
      clear hll htk ha hrel
      generalize r.l[k] = x at *
      obtain ⟨M, hM⟩ : ∃ M, M = (r.l.take (k + 1)).map (fun x => ofL (chanLn x)) := ⟨_, rfl⟩
      rw [← hM] at HT
      have HMM := hide hM
      clear hM
      generalize (r.l.take k).map (fun x => ofL (chanLn x)) = M0 at *
      unfold chanCs at HC
      go_wp2_with (go_at_call 63; refine (HC.out _).mono ?_; rintro e w2 ⟨rfl, hw2, hb2⟩; have HR := hide (And.intro (show WrAt B w2.heap.size g (L ++ M) w2 by rw [HT.out]; exact hw2) ((HB0.out _).trans hb2)); clear hw2 hb2)
      go_roundw
      case rel => exact ⟨k + 1, by omega, by go_num, (by rw [← HMM.out]; exact HR)⟩
      case measure => simp [intOf]; omega
    · obtain rfl : k = n := by omega
      have hrel2 := hrel.out
      rw [List.take_of_length_le (by rw [HN.out]; exact Nat.le_refl _)] at hrel2
      have HF := hide hrel2
      clear hrel hrel2 hlt
      go_wp2
      go_end0
      exact ⟨rfl, HF.out⟩
end Go.Proofs.YtcnihmlmaigkdaaGreatDoor
