/- The walk of the reference lexer's Next (chapter 06). -/
import Derived.Test.YtjkglbgenbnjoaaGreatDoorLxRefRun
import Derived.Test.YtjkglbgenbnjoaaGreatDoorLxNext
import Derived.Test.YtjkglbgenbnjoaaGreatDoorNuRefParse
import Derived.Test.YtjkglbgenbnjoaaGreatDoorNmRefScan
import Derived.BigGuardPart
namespace Go.Proofs.YtjkglbgenbnjoaaGreatDoor
open Go.RowKit Go.Lib

theorem res_cell_3 {fn : Func} {p u v : Tmp} {ty : TypeId} (h : fn.results = #[.cell p ty, .tmp u, .tmp v]) (tmps : Array Value) (w : World) (g : Nat) (cs : Array Value)
    (hp : tmps.getD p undef = .pointer (some ⟨g, 0, none⟩)) (hl : (loadVar ty ⟨g, 0, none⟩).run Tryz.prog w = .ok (.agg cs) w) :
    (results fn tmps).run Tryz.prog w = .ok (.tuple #[.agg cs, tmps.getD u undef, tmps.getD v undef]) w := by
  have hp' : tmps[p]?.getD undef = .pointer (some ⟨g, 0, none⟩) := by simpa using hp
  simp [results, h, hp', asAddr, hl]
theorem load_rtok {w : World} {g : Nat} {cs : Array Value} (hg : Blk w g 33 cs) (hc : cs.size = 5) : (loadVar 33 ⟨g, 0, none⟩).run Tryz.prog w = .ok (.agg cs) w :=
  run_loadVar_row (P := Tryz.prog) w g 33 33 cs (0, 0) _ hg Tryz.underlying33 rfl (by rw [hc]; kernel_rfl)
theorem ext_piece (s : ByteArray) (J n : Nat) (x : ByteArray) (hx : x = s.extract J (J + n)) : x = ⟨((s.data.toList.drop J).take n).toArray⟩ := by
  rw [hx]
  apply ByteArray.ext
  have h2 := extract_piece s J (J + n)
  unfold piece at h2
  rw [Nat.add_sub_cancel_left] at h2
  rw [← h2]
/-- Behind the reference's Next. -/
def RefNextT (P : Nat × Nat) (T : Tk) (w : World) (e : Ending) (w' : World) : Prop :=
  Below w.heap.size w w' ∧
  match T with
  | .tok kind text v stop => e = .returned (.tuple #[.agg (tokC kind ⟨text.toArray⟩ v P.1 P.2), .int .i64 (stop : Int), .int .i64 0])
  | .bad code => e = .returned (.tuple #[.agg (tokC 0 ⟨#[]⟩ 0 P.1 P.2), .int .i64 0, .int .i64 (code : Int)])

set_option maxHeartbeats 4000000 in
theorem RefNext_calls (s : ByteArray) (k : Nat) (hk : k ≤ s.size) (hs : s.size ≤ 100000000000000) (w : World) :
    Calls Tryz.prog 7 #[.string s, .int .i64 (k : Int)] w (RefNextT (placeAt s (skipAt s k)) (tokAt s (skipAt s k)) w) := by
  have hS := fun W => RefSkip_calls s k hk hs W
  obtain ⟨J, hJ⟩ : ∃ J, J = skipAt s k := ⟨_, rfl⟩
  have hJs : J ≤ s.size := by rw [hJ]; exact skipAt_le s k hk
  rw [← hJ] at hS ⊢
  have hP := fun W => RefPlace_calls s (J : Int) (WalkArith.wf_i64 (by omega)) hs W
  have hpv : placeV s (J : Int) = placeAt s J := by unfold placeV; rw [if_pos (by omega)]; rfl
  unfold PlaceV at hP
  rw [hpv] at hP
  obtain ⟨P, hPe⟩ : ∃ P, P = placeAt s J := ⟨_, rfl⟩
  rw [← hPe] at hP ⊢
  obtain ⟨P1, P2⟩ := P
  have HS := hide hS
  have HP := hide hP
  clear hS hP hpv hPe hJ
  have hsz := Lib.size_eq s
  unfold RefNextT
  rcases Nat.lt_or_ge J s.size with hlt | hge
  · have hd := at_data s J hlt
    have hne : ((J : Int) == (s.size : Int)) = false := by simp; omega
    have hix : (J : Int) < (s.size : Int) := by omega
    have hL := fun W => letter_calls s[J] W
    have hD := fun W => digit06_calls s[J] W
    by_cases h1 : isLet s[J] = true
    · obtain ⟨n, hn⟩ : ∃ n, n = runLen isLet (s.data.toList.drop J) := ⟨_, rfl⟩
      have e1 : tokAt s J = .tok 1 ((s.data.toList.drop J).take n) 0 (J + n) := by
        rw [hn]; unfold tokAt; rw [hd]; simp only; rw [if_pos h1]
      have hR := fun W => run_let s J hJs hs W
      have hes : J + n ≤ s.size := by rw [hn]; exact run_le isLet s J hJs
      rw [← hn] at hR
      rw [h1] at hL
      rw [e1]
      obtain ⟨x, hx⟩ : ∃ x, x = s.extract J (J + n) := ⟨_, rfl⟩
      have hpc := hide (show x = ⟨((s.data.toList.drop J).take n).toArray⟩ from ext_piece s J n x hx)
      obtain ⟨E, hE⟩ : ∃ E, E = J + n := ⟨_, rfl⟩
      rw [← hE] at hR hes hx ⊢
      have hje : J ≤ E := by omega
      have hxs : s.extract J E = x := hx.symm
      have HL := hide hL
      have HR := hide hR
      clear hL hR hD h1 e1 hd hn hE hx hsz
      go_enter Tryz.func7, Tryz.ntmps7
      go_wp2_with (first
        | (go_at_call 15; refine (HS.out _).mono ?_; rintro e w2 ⟨rfl, rfl⟩)
        | (go_at_call 16; refine (HP.out _).mono ?_; rintro e w3 ⟨rfl, rfl⟩)
        | (go_at_call 17; refine (HL.out _).mono ?_; rintro e w3 ⟨rfl, rfl⟩)
        | (go_at_call 18; refine (HR.out _).mono ?_; rintro e w3 ⟨rfl, rfl⟩))
      refine bodyPost_ret (res_cell_3 (p := 4) (u := 5) (v := 6) rfl _ _ w.heap.size _ rfl (load_rtok ((Blk.new w _ _).alloc _) rfl)) rfl ⟨((Below.refl _ w).alloc (Nat.le_refl _) _).alloc (by simp) _, by rw [hpc.out]; rfl⟩
    · have h1f : isLet s[J] = false := by simpa using h1
      by_cases h2 : isDig s[J] = true
      · obtain ⟨n, hn⟩ : ∃ n, n = runLen isAl (s.data.toList.drop J) := ⟨_, rfl⟩
        have e1 : tokAt s J = (match parseN ((s.data.toList.drop J).take n) with | some v => .tok 2 ((s.data.toList.drop J).take n) v (J + n) | none => .bad 5) := by
          rw [hn]; unfold tokAt; rw [hd]; simp only; rw [if_neg h1, if_pos h2]; rfl
        have hR := fun W => run_al s J hJs hs W
        have hes : J + n ≤ s.size := by rw [hn]; exact run_le isAl s J hJs
        rw [← hn] at hR
        rw [h1f] at hL
        rw [h2] at hD
        rw [e1]
        obtain ⟨x, hx⟩ : ∃ x, x = s.extract J (J + n) := ⟨_, rfl⟩
        have hpx := ext_piece s J n x hx
        have hpc := hide hpx
        have hQ := fun W => RefParse_calls x W
        rw [show x.data.toList = (s.data.toList.drop J).take n by rw [hpx], ← parse_same] at hQ
        unfold FoldV at hQ
        obtain ⟨E, hE⟩ : ∃ E, E = J + n := ⟨_, rfl⟩
        rw [← hE] at hR hes hx ⊢
        have hje : J ≤ E := by omega
        have hxs : s.extract J E = x := hx.symm
        have HL := hide hL
        have HD := hide hD
        have HR := hide hR
        have hWT := hide (show Blk ((w.alloc (.cells #[.int .i64 0, .string ⟨#[]⟩, .int .u64 0, .int .i64 0, .int .i64 0] 33)).alloc (.cells (tokC 0 ⟨#[]⟩ 0 P1 P2) 33)) (w.heap.size + 1) 33 (tokC 0 ⟨#[]⟩ 0 P1 P2) from by
          have h0 := Blk.new (w.alloc (.cells #[.int .i64 0, .string ⟨#[]⟩, .int .u64 0, .int .i64 0, .int .i64 0] 33)) 33 (tokC 0 ⟨#[]⟩ 0 P1 P2)
          simpa using h0)
        cases hr : parseN ((s.data.toList.drop J).take n) with
        | none =>
          rw [hr, optV] at hQ
          have HQ := hide hQ
          clear hL hR hD h1 h2 h1f e1 hd hn hE hx hsz hQ hr hpx
          go_enter Tryz.func7, Tryz.ntmps7
          go_wp2_with (first
            | (go_at_call 15; refine (HS.out _).mono ?_; rintro e w2 ⟨rfl, rfl⟩)
            | (go_at_call 16; refine (HP.out _).mono ?_; rintro e w3 ⟨rfl, rfl⟩)
            | (go_at_call 17; refine (HL.out _).mono ?_; rintro e w3 ⟨rfl, rfl⟩)
            | (go_at_call 19; refine (HD.out _).mono ?_; rintro e w3 ⟨rfl, rfl⟩)
            | (go_at_call 18; refine (HR.out _).mono ?_; rintro e w3 ⟨rfl, rfl⟩)
            | (go_at_call 20; refine (HQ.out _).mono ?_; rintro e w4 ⟨rfl, hb4⟩; have Hbr := hide (((Blk.new w 33 #[.int .i64 0, .string ⟨#[]⟩, .int .u64 0, .int .i64 0, .int .i64 0]).alloc (.cells (tokC 0 ⟨#[]⟩ 0 P1 P2) 33)).below hb4 (by simp; omega)); have Hbt := hide (hWT.out.below hb4 (by simp)); have br0 : w4.cell? ⟨w.heap.size, 0, none⟩ = some (.int .i64 0) := Hbr.out.cell 0; have br1 : w4.cell? ⟨w.heap.size, 1, none⟩ = some (.string ⟨#[]⟩) := Hbr.out.cell 1; have br2 : w4.cell? ⟨w.heap.size, 2, none⟩ = some (.int .u64 0) := Hbr.out.cell 2; have br3 : w4.cell? ⟨w.heap.size, 3, none⟩ = some (.int .i64 0) := Hbr.out.cell 3; have br4 : w4.cell? ⟨w.heap.size, 4, none⟩ = some (.int .i64 0) := Hbr.out.cell 4; have bt0 : w4.cell? ⟨w.heap.size + 1, 0, none⟩ = some (.int .i64 0) := Hbt.out.cell 0; have bt1 : w4.cell? ⟨w.heap.size + 1, 1, none⟩ = some (.string ⟨#[]⟩) := Hbt.out.cell 1; have bt2 : w4.cell? ⟨w.heap.size + 1, 2, none⟩ = some (.int .u64 0) := Hbt.out.cell 2; have bt3 : w4.cell? ⟨w.heap.size + 1, 3, none⟩ = some (.int .i64 (P1 : Int)) := Hbt.out.cell 3; have bt4 : w4.cell? ⟨w.heap.size + 1, 4, none⟩ = some (.int .i64 (P2 : Int)) := Hbt.out.cell 4; have fr := fun i => Hbr.out.frozen i; have ft := fun i => Hbt.out.frozen i; have HB4 := hide ((((Below.refl _ w).alloc (Nat.le_refl _) (.cells #[.int .i64 0, .string ⟨#[]⟩, .int .u64 0, .int .i64 0, .int .i64 0] 33)).alloc (by simp) (.cells (tokC 0 ⟨#[]⟩ 0 P1 P2) 33)).trans (hb4.mono (by simp; omega))); clear hb4))
          have HX := hide ((((((Hbr.out.set_ 0 (.int .i64 0)).set_ 1 (.string ⟨#[]⟩)).set_ 2 (.int .u64 0)).set_ 3 (.int .i64 (P1 : Int))).set_ 4 (.int .i64 (P2 : Int))) : Blk _ w.heap.size 33 (tokC 0 ⟨#[]⟩ 0 P1 P2))
          refine bodyPost_ret (res_cell_3 (p := 4) (u := 5) (v := 6) rfl _ _ w.heap.size _ rfl (load_rtok HX.out rfl)) rfl ⟨(((((HB4.out.setCell (p := ⟨w.heap.size, 0, none⟩) (Nat.le_refl _) (.int .i64 0)).setCell (p := ⟨w.heap.size, 1, none⟩) (Nat.le_refl _) (.string ⟨#[]⟩)).setCell (p := ⟨w.heap.size, 2, none⟩) (Nat.le_refl _) (.int .u64 0)).setCell (p := ⟨w.heap.size, 3, none⟩) (Nat.le_refl _) (.int .i64 (P1 : Int))).setCell (p := ⟨w.heap.size, 4, none⟩) (Nat.le_refl _) (.int .i64 (P2 : Int))), rfl⟩
        | some v =>
          rw [hr, optV] at hQ
          have HQ := hide hQ
          clear hL hR hD h1 h2 h1f e1 hd hn hE hx hsz hQ hr hpx
          go_enter Tryz.func7, Tryz.ntmps7
          go_wp2_with (first
            | (go_at_call 15; refine (HS.out _).mono ?_; rintro e w2 ⟨rfl, rfl⟩)
            | (go_at_call 16; refine (HP.out _).mono ?_; rintro e w3 ⟨rfl, rfl⟩)
            | (go_at_call 17; refine (HL.out _).mono ?_; rintro e w3 ⟨rfl, rfl⟩)
            | (go_at_call 19; refine (HD.out _).mono ?_; rintro e w3 ⟨rfl, rfl⟩)
            | (go_at_call 18; refine (HR.out _).mono ?_; rintro e w3 ⟨rfl, rfl⟩)
            | (go_at_call 20; refine (HQ.out _).mono ?_; rintro e w4 ⟨rfl, hb4⟩; have Hbr := hide (((Blk.new w 33 #[.int .i64 0, .string ⟨#[]⟩, .int .u64 0, .int .i64 0, .int .i64 0]).alloc (.cells (tokC 0 ⟨#[]⟩ 0 P1 P2) 33)).below hb4 (by simp; omega)); have Hbt := hide (hWT.out.below hb4 (by simp)); have br0 : w4.cell? ⟨w.heap.size, 0, none⟩ = some (.int .i64 0) := Hbr.out.cell 0; have br1 : w4.cell? ⟨w.heap.size, 1, none⟩ = some (.string ⟨#[]⟩) := Hbr.out.cell 1; have br2 : w4.cell? ⟨w.heap.size, 2, none⟩ = some (.int .u64 0) := Hbr.out.cell 2; have br3 : w4.cell? ⟨w.heap.size, 3, none⟩ = some (.int .i64 0) := Hbr.out.cell 3; have br4 : w4.cell? ⟨w.heap.size, 4, none⟩ = some (.int .i64 0) := Hbr.out.cell 4; have bt0 : w4.cell? ⟨w.heap.size + 1, 0, none⟩ = some (.int .i64 0) := Hbt.out.cell 0; have bt1 : w4.cell? ⟨w.heap.size + 1, 1, none⟩ = some (.string ⟨#[]⟩) := Hbt.out.cell 1; have bt2 : w4.cell? ⟨w.heap.size + 1, 2, none⟩ = some (.int .u64 0) := Hbt.out.cell 2; have bt3 : w4.cell? ⟨w.heap.size + 1, 3, none⟩ = some (.int .i64 (P1 : Int)) := Hbt.out.cell 3; have bt4 : w4.cell? ⟨w.heap.size + 1, 4, none⟩ = some (.int .i64 (P2 : Int)) := Hbt.out.cell 4; have fr := fun i => Hbr.out.frozen i; have ft := fun i => Hbt.out.frozen i; have HB4 := hide ((((Below.refl _ w).alloc (Nat.le_refl _) (.cells #[.int .i64 0, .string ⟨#[]⟩, .int .u64 0, .int .i64 0, .int .i64 0] 33)).alloc (by simp) (.cells (tokC 0 ⟨#[]⟩ 0 P1 P2) 33)).trans (hb4.mono (by simp; omega))); clear hb4))
          have HX := hide (((((((((Hbr.out.far (p := ⟨w.heap.size + 1, 0, none⟩) (Nat.ne_of_lt (Nat.lt_succ_self _)) (.int .i64 2)).far (p := ⟨w.heap.size + 1, 1, none⟩) (Nat.ne_of_lt (Nat.lt_succ_self _)) (.string x)).far (p := ⟨w.heap.size + 1, 2, none⟩) (Nat.ne_of_lt (Nat.lt_succ_self _)) (.int .u64 (v : Int))).set_ 0 (.int .i64 2)).set_ 1 (.string x)).set_ 2 (.int .u64 (v : Int))).set_ 3 (.int .i64 (P1 : Int))).set_ 4 (.int .i64 (P2 : Int))) : Blk _ w.heap.size 33 (tokC 2 x v P1 P2))
          refine bodyPost_ret (res_cell_3 (p := 4) (u := 5) (v := 6) rfl _ _ w.heap.size _ rfl (load_rtok HX.out rfl)) rfl ⟨((((((((HB4.out.setCell (p := ⟨w.heap.size + 1, 0, none⟩) (Nat.le_succ _) (.int .i64 2)).setCell (p := ⟨w.heap.size + 1, 1, none⟩) (Nat.le_succ _) (.string x)).setCell (p := ⟨w.heap.size + 1, 2, none⟩) (Nat.le_succ _) (.int .u64 (v : Int))).setCell (p := ⟨w.heap.size, 0, none⟩) (Nat.le_refl _) (.int .i64 2)).setCell (p := ⟨w.heap.size, 1, none⟩) (Nat.le_refl _) (.string x)).setCell (p := ⟨w.heap.size, 2, none⟩) (Nat.le_refl _) (.int .u64 (v : Int))).setCell (p := ⟨w.heap.size, 3, none⟩) (Nat.le_refl _) (.int .i64 (P1 : Int))).setCell (p := ⟨w.heap.size, 4, none⟩) (Nat.le_refl _) (.int .i64 (P2 : Int))), ?_⟩
          rw [hpc.out]; rfl
      · have h2f : isDig s[J] = false := by simpa using h2
        rw [h1f] at hL
        rw [h2f] at hD
        have HL := hide hL
        have HD := hide hD
        by_cases h3 : s[J] = 34
        · have e1 : tokAt s J = (if (scanR s (J : Int)).2.2 = 0 then .tok 3 (scanR s (J : Int)).1 0 (scanR s (J : Int)).2.1 else .bad 6) := by
            unfold tokAt; rw [hd]; simp only; rw [if_neg h1, if_neg h2, if_pos h3]
          rw [e1]
          have hb : ((s[J].toNat : Int) == 34) = true := by rw [h3]; rfl
          have hQ := fun W => RefScan_calls s (J : Int) W hs
          unfold scanV at hQ
          generalize scanR s (J : Int) = r at hQ ⊢
          obtain ⟨x, stop, code⟩ := r
          simp only at hQ ⊢
          by_cases hc : code = 0
          · subst hc
            rw [if_pos rfl]
            have HQ := hide hQ
            clear hL hD h1 h2 h1f h2f e1 hd hsz hQ h3
            go_enter Tryz.func7, Tryz.ntmps7
            go_wp2_with (first
              | (go_at_call 15; refine (HS.out _).mono ?_; rintro e w2 ⟨rfl, rfl⟩)
              | (go_at_call 16; refine (HP.out _).mono ?_; rintro e w3 ⟨rfl, rfl⟩)
              | (go_at_call 17; refine (HL.out _).mono ?_; rintro e w3 ⟨rfl, rfl⟩)
              | (go_at_call 19; refine (HD.out _).mono ?_; rintro e w3 ⟨rfl, rfl⟩)
              | (go_at_call 21; refine (HQ.out _).mono ?_; rintro e w4 ⟨rfl, rfl⟩))
            refine bodyPost_ret (res_cell_3 (p := 4) (u := 5) (v := 6) rfl _ _ w.heap.size _ rfl (load_rtok ((Blk.new w _ _).alloc _) rfl)) rfl ⟨((Below.refl _ w).alloc (Nat.le_refl _) _).alloc (by simp) _, rfl⟩
          · rw [if_neg hc]
            have hcn : ((code : Int) != 0) = true := by simp; omega
            have HQ := hide hQ
            clear hL hD h1 h2 h1f h2f e1 hd hsz hQ h3
            go_enter Tryz.func7, Tryz.ntmps7
            go_wp2_with (first
              | (go_at_call 15; refine (HS.out _).mono ?_; rintro e w2 ⟨rfl, rfl⟩)
              | (go_at_call 16; refine (HP.out _).mono ?_; rintro e w3 ⟨rfl, rfl⟩)
              | (go_at_call 17; refine (HL.out _).mono ?_; rintro e w3 ⟨rfl, rfl⟩)
              | (go_at_call 19; refine (HD.out _).mono ?_; rintro e w3 ⟨rfl, rfl⟩)
              | (go_at_call 21; refine (HQ.out _).mono ?_; rintro e w4 ⟨rfl, rfl⟩))
            refine bodyPost_ret (res_cell_3 (p := 4) (u := 5) (v := 6) rfl _ _ w.heap.size _ rfl (load_rtok ((Blk.new w _ _).alloc _) rfl)) rfl ⟨((Below.refl _ w).alloc (Nat.le_refl _) _).alloc (by simp) _, rfl⟩
        · have hb : ((s[J].toNat : Int) == 34) = false := by
            have : s[J].toNat ≠ 34 := fun e => h3 (UInt8.toNat_inj.1 (by rw [e]; rfl))
            simp; omega
          have e1 : tokAt s J = (if isSign s[J] = true then .tok 4 [s[J]] 0 (J + 1) else .bad 3) := by
            unfold tokAt; rw [hd]; simp only; rw [if_neg h1, if_neg h2, if_neg h3]
          rw [e1]
          cases hsg : isSign s[J]
          · rw [if_neg (by decide)]
            have hq : ∀ b : UInt8, isSign b = true → ((s[J].toNat : Int) == (b.toNat : Int)) = false := fun b hbs => by
              have : s[J] ≠ b := fun e => by rw [e, hbs] at hsg; cases hsg
              have : s[J].toNat ≠ b.toNat := fun e => this (UInt8.toNat_inj.1 e)
              simp; omega
            have q1 : ((s[J].toNat : Int) == 123) = false := hq 123 (by decide)
            have q2 : ((s[J].toNat : Int) == 125) = false := hq 125 (by decide)
            have q3 : ((s[J].toNat : Int) == 59) = false := hq 59 (by decide)
            have q4 : ((s[J].toNat : Int) == 44) = false := hq 44 (by decide)
            clear hL hD h1 h2 h1f h2f e1 hd hsz h3 hq hsg
            go_enter Tryz.func7, Tryz.ntmps7
            go_wp2_with (first
              | (go_at_call 15; refine (HS.out _).mono ?_; rintro e w2 ⟨rfl, rfl⟩)
              | (go_at_call 16; refine (HP.out _).mono ?_; rintro e w3 ⟨rfl, rfl⟩)
              | (go_at_call 17; refine (HL.out _).mono ?_; rintro e w3 ⟨rfl, rfl⟩)
              | (go_at_call 19; refine (HD.out _).mono ?_; rintro e w3 ⟨rfl, rfl⟩))
            refine bodyPost_ret (res_cell_3 (p := 4) (u := 5) (v := 6) rfl _ _ w.heap.size _ rfl (load_rtok ((Blk.new w _ _).alloc _) rfl)) rfl ⟨((Below.refl _ w).alloc (Nat.le_refl _) _).alloc (by simp) _, rfl⟩
          · rw [if_pos rfl]
            have hex := extract_byte s J hlt
            have hd4 : s[J] = 123 ∨ s[J] = 125 ∨ s[J] = 59 ∨ s[J] = 44 := by
              unfold isSign at hsg
              simp only [Bool.or_eq_true, beq_iff_eq] at hsg
              rcases hsg with ((h | h) | h) | h
              · exact .inl h
              · exact .inr (.inl h)
              · exact .inr (.inr (.inl h))
              · exact .inr (.inr (.inr h))
            clear hL hD h1 h2 h1f h2f e1 hd hsz h3 hsg
            rcases hd4 with hc | hc | hc | hc
            · have q1 : ((s[J].toNat : Int) == 123) = true := by rw [hc]; rfl
              clear hc
              go_enter Tryz.func7, Tryz.ntmps7
              go_wp2_with (first
                | (go_at_call 15; refine (HS.out _).mono ?_; rintro e w2 ⟨rfl, rfl⟩)
                | (go_at_call 16; refine (HP.out _).mono ?_; rintro e w3 ⟨rfl, rfl⟩)
                | (go_at_call 17; refine (HL.out _).mono ?_; rintro e w3 ⟨rfl, rfl⟩)
                | (go_at_call 19; refine (HD.out _).mono ?_; rintro e w3 ⟨rfl, rfl⟩))
              refine bodyPost_ret (res_cell_3 (p := 4) (u := 5) (v := 6) rfl _ _ w.heap.size _ rfl (load_rtok ((Blk.new w _ _).alloc _) rfl)) rfl ⟨((Below.refl _ w).alloc (Nat.le_refl _) _).alloc (by simp) _, rfl⟩
            · have q1 : ((s[J].toNat : Int) == 123) = false := by rw [hc]; rfl
              have q2 : ((s[J].toNat : Int) == 125) = true := by rw [hc]; rfl
              clear hc
              go_enter Tryz.func7, Tryz.ntmps7
              go_wp2_with (first
                | (go_at_call 15; refine (HS.out _).mono ?_; rintro e w2 ⟨rfl, rfl⟩)
                | (go_at_call 16; refine (HP.out _).mono ?_; rintro e w3 ⟨rfl, rfl⟩)
                | (go_at_call 17; refine (HL.out _).mono ?_; rintro e w3 ⟨rfl, rfl⟩)
                | (go_at_call 19; refine (HD.out _).mono ?_; rintro e w3 ⟨rfl, rfl⟩))
              refine bodyPost_ret (res_cell_3 (p := 4) (u := 5) (v := 6) rfl _ _ w.heap.size _ rfl (load_rtok ((Blk.new w _ _).alloc _) rfl)) rfl ⟨((Below.refl _ w).alloc (Nat.le_refl _) _).alloc (by simp) _, rfl⟩
            · have q1 : ((s[J].toNat : Int) == 123) = false := by rw [hc]; rfl
              have q2 : ((s[J].toNat : Int) == 125) = false := by rw [hc]; rfl
              have q3 : ((s[J].toNat : Int) == 59) = true := by rw [hc]; rfl
              clear hc
              go_enter Tryz.func7, Tryz.ntmps7
              go_wp2_with (first
                | (go_at_call 15; refine (HS.out _).mono ?_; rintro e w2 ⟨rfl, rfl⟩)
                | (go_at_call 16; refine (HP.out _).mono ?_; rintro e w3 ⟨rfl, rfl⟩)
                | (go_at_call 17; refine (HL.out _).mono ?_; rintro e w3 ⟨rfl, rfl⟩)
                | (go_at_call 19; refine (HD.out _).mono ?_; rintro e w3 ⟨rfl, rfl⟩))
              refine bodyPost_ret (res_cell_3 (p := 4) (u := 5) (v := 6) rfl _ _ w.heap.size _ rfl (load_rtok ((Blk.new w _ _).alloc _) rfl)) rfl ⟨((Below.refl _ w).alloc (Nat.le_refl _) _).alloc (by simp) _, rfl⟩
            · have q1 : ((s[J].toNat : Int) == 123) = false := by rw [hc]; rfl
              have q2 : ((s[J].toNat : Int) == 125) = false := by rw [hc]; rfl
              have q3 : ((s[J].toNat : Int) == 59) = false := by rw [hc]; rfl
              have q4 : ((s[J].toNat : Int) == 44) = true := by rw [hc]; rfl
              clear hc
              go_enter Tryz.func7, Tryz.ntmps7
              go_wp2_with (first
                | (go_at_call 15; refine (HS.out _).mono ?_; rintro e w2 ⟨rfl, rfl⟩)
                | (go_at_call 16; refine (HP.out _).mono ?_; rintro e w3 ⟨rfl, rfl⟩)
                | (go_at_call 17; refine (HL.out _).mono ?_; rintro e w3 ⟨rfl, rfl⟩)
                | (go_at_call 19; refine (HD.out _).mono ?_; rintro e w3 ⟨rfl, rfl⟩))
              refine bodyPost_ret (res_cell_3 (p := 4) (u := 5) (v := 6) rfl _ _ w.heap.size _ rfl (load_rtok ((Blk.new w _ _).alloc _) rfl)) rfl ⟨((Below.refl _ w).alloc (Nat.le_refl _) _).alloc (by simp) _, rfl⟩
  · have hd : s.data.toList.drop J = [] := List.drop_of_length_le (by omega)
    have e1 : tokAt s J = .tok 0 [] 0 J := by unfold tokAt; rw [hd]
    rw [e1]
    have hne : ((J : Int) == (s.size : Int)) = true := by simp; omega
    clear e1 hd hsz
    go_enter Tryz.func7, Tryz.ntmps7
    go_wp2_with (first
      | (go_at_call 15; refine (HS.out _).mono ?_; rintro e w2 ⟨rfl, rfl⟩)
      | (go_at_call 16; refine (HP.out _).mono ?_; rintro e w3 ⟨rfl, rfl⟩))
    refine bodyPost_ret (res_cell_3 (p := 4) (u := 5) (v := 6) rfl _ _ w.heap.size _ rfl (load_rtok ((Blk.new w _ _).alloc _) rfl)) rfl ⟨((Below.refl _ w).alloc (Nat.le_refl _) _).alloc (by simp) _, rfl⟩
end Go.Proofs.YtjkglbgenbnjoaaGreatDoor
