/- The walk of the library's replacer for bytes, at longer strings. -/
import Derived.Test.YtgjdhndlbhbjhaaGreatReplSpec2
import Derived.Test.YtgjdhndlbhbjhaaGreatNmSpec
import Derived.Test.YtgjdhndlbhbjhaaGreatChecked
import Derived.Test.YtgjdhndlbhbjhaaGreatShelf
import Derived.WalkKit
import Derived.BigGuardPart
import Derived.WalkSpells
import Derived.WalkLawsBesides
import Derived.Handy
import Derived.Outline
import Derived.BigQuiet
import Derived.Deep.QuietTactic
import Derived.Lib.SliceRun
import Derived.Deep.RegionLaw
import Derived.BigRegion
namespace Go.Proofs.YtgjdhndlbhbjhaaGreat
open Go.RowKit Go.Lib

set_option maxRecDepth 100000 in
set_option maxHeartbeats 1600000 in
theorem Replace_long (G : Nat) (cs : Array Value) (s0 s1 : Value) (s : ByteArray) (w : World) (hS : Stage G w 2 cs s0 s1) (hs : s.size ≤ 100) (h16 : 16 ≤ s.size) :
    Calls Tryz.prog 114 #[.pointer (some ⟨G + 1, 0, none⟩), .string s] w fun e w' => e = .returned (.string ⟨(quoteL s.data.toList).toArray⟩) ∧ Below w.heap.size w w' := by
  have r2 := (hS.blk.cell 256).trans hS.last
  have hd : decide ((16 : Int) ≤ (s.size : Int)) = true := by simp; omega
  have hS' := hide hS
  clear hS
  go_enter Tryz.func114, Tryz.ntmps114
  go_wp2_with fail
  go_loopw [5, 6, 8, 9, 32] (fun n b _ _ i wr => ∃ k : Nat, ∃ d : Nat, k ≤ 2 ∧ wr = w.drewN d ∧ i = .int .i64 k ∧ n = .int .i64 ((s.size + cntTo s k : Nat) : Int) ∧ b = .bool (decide (0 < cntTo s k))) (fun _ _ _ _ i _ => 2 - (intOf i).toNat)
  case atStart => exact ⟨0, 0, by omega, rfl, rfl, rfl, rfl⟩
  case round =>
    obtain ⟨k, d, hk, rfl, rfl, rfl, rfl⟩ := hrel
    have he := cntTo_le s k
    have q0 : w.cell? ⟨G, 0, none⟩ = some (.string ⟨#[34]⟩) := by rw [hS'.out.row.cell, ← hS'.out.first (by omega)]; rfl
    have q1 : w.cell? ⟨G, 1, none⟩ = some (.string ⟨#[92]⟩) := by rw [hS'.out.row.cell, ← hS'.out.second (by omega)]; rfl
    obtain ⟨g, cap, _, _, hc, _, _⟩ := hS'.out.esc 34 rfl
    obtain ⟨g', cap', _, _, hc', _, _⟩ := hS'.out.esc 92 rfl
    have x34 : ∀ h, ((⟨#[34]⟩ : ByteArray)[0]'h).toNat = 34 := fun _ => rfl
    have x92 : ∀ h, ((⟨#[92]⟩ : ByteArray)[0]'h).toNat = 92 := fun _ => rfl
    obtain rfl | rfl | rfl : k = 0 ∨ k = 1 ∨ k = 2 := by omega
    · have hn : Hid (cntTo s 1 = s.data.toList.count 34) := rfl
      have hle : s.data.toList.count 34 ≤ s.size := cntTo_le s 1
      have hcnt := Tryz.strings_Count_one s 34
      unfold Lib.countByte at hcnt
      have hz : Hid (cntTo s 0 = 0) := rfl
      generalize s.data.toList.count 34 = c at *
      skip
      have Hcnt := hide hcnt
      clear hcnt
      have cc : w.cell? ⟨G + 1, 34, none⟩ = some (.slice (some ⟨g, 0, none⟩) 2 cap) := hc
      generalize cntTo s 0 = z at *
      obtain rfl : z = 0 := hz.out
      clear hz
      by_cases hc0 : c = 0
      · have hcn : ((c : Int) != 0) = false := by simp; omega
        have HC := hide hc0
        clear hc0
        go_wp2_with (go_at_call 116; refine (Hcnt.out _).mono ?_; rintro e w' ⟨rfl, rfl⟩)
        go_roundw
        case rel => exact ⟨1, d, by omega, rfl, rfl, by rw [hn.out, HC.out]; rfl, by rw [hn.out, HC.out]; rfl⟩
        case measure => simp [intOf]
      · have hcn : ((c : Int) != 0) = true := by simp; omega
        have hpos : 0 < c := by omega
        have HP := hide hpos
        clear hpos
        go_wp2_with (go_at_call 116; refine (Hcnt.out _).mono ?_; rintro e w' ⟨rfl, rfl⟩)
        go_quiet (fail)
        go_wp2
        go_roundw
        case rel => exact ⟨1, d + nq, by omega, rfl, rfl, by rw [hn.out]; go_num, by rw [hn.out]; simp [HP.out]⟩
        case measure => simp [intOf]
    · have hn : Hid (cntTo s 2 = s.data.toList.count 34 + s.data.toList.count 92) := rfl
      have hle : s.data.toList.count 34 + s.data.toList.count 92 ≤ s.size := cntTo_le s 2
      have hcnt := Tryz.strings_Count_one s 92
      unfold Lib.countByte at hcnt
      have hz : Hid (cntTo s 1 = s.data.toList.count 34) := rfl
      generalize s.data.toList.count 92 = c at *
      generalize s.data.toList.count 34 = z0 at *
      have Hcnt := hide hcnt
      clear hcnt
      have cc : w.cell? ⟨G + 1, 92, none⟩ = some (.slice (some ⟨g', 0, none⟩) 2 cap') := hc'
      generalize cntTo s 1 = z at *
      obtain rfl : z = z0 := hz.out
      clear hz
      by_cases hc0 : c = 0
      · have hcn : ((c : Int) != 0) = false := by simp; omega
        have HC := hide hc0
        clear hc0
        go_wp2_with (go_at_call 116; refine (Hcnt.out _).mono ?_; rintro e w' ⟨rfl, rfl⟩)
        go_roundw
        case rel => exact ⟨2, d, by omega, rfl, rfl, by rw [hn.out, HC.out]; rfl, by rw [hn.out, HC.out]; rfl⟩
        case measure => simp [intOf]
      · have hcn : ((c : Int) != 0) = true := by simp; omega
        have hpos : 0 < z + c := by omega
        have HP := hide hpos
        clear hpos
        go_wp2_with (go_at_call 116; refine (Hcnt.out _).mono ?_; rintro e w' ⟨rfl, rfl⟩)
        go_quiet (fail)
        go_wp2
        go_roundw
        case rel => exact ⟨2, d + nq, by omega, rfl, rfl, by rw [hn.out]; go_num, by rw [hn.out]; simp [HP.out]⟩
        case measure => simp [intOf]
    · rw [cntTo_two] at he ⊢
      have hz : cntTo s 2 = escN s s.size := cntTo_two s
      obtain ⟨W, hW⟩ : ∃ W, W = w.drewN d := ⟨_, rfl⟩
      have hSW : Hid (Stage G W 2 cs s0 s1) := by rw [hW]; exact hS'.out.drewN d
      have hbW : Below w.heap.size w W := by rw [hW]; exact below_drewN (Below.refl _ _) d
      have hszW : W.heap.size = w.heap.size := by rw [hW]; rfl
      have HbW := hide hbW
      have HszW := hide hszW
      rw [← hW]
      clear hW hbW hszW hz
      have hlen := hide (quoteL_take_len s s.size (Nat.le_refl _))
      have hid := hide (quoteL_id s.data.toList)
      by_cases h0 : escN s s.size = 0
      · have h0' : decide (0 < escN s s.size) = false := by simp [h0]
        have H0 := hide h0
        clear h0
        go_wp2
        go_ret
        refine ⟨?_, HbW.out⟩
        have h1 : quoteL s.data.toList = s.data.toList := by
          apply hid.out
          have h2 := H0.out
          unfold escN at h2
          rwa [List.take_of_length_le (by simp)] at h2
        rw [h1]; rfl
      · have h0' : decide (0 < escN s s.size) = true := by simp; omega
        have hmono := hide (escN_mono s)
        have hmk := make_bytes (s.size + escN s s.size) (by omega)
        simp only [Int.natCast_add] at hmk
        clear h0
        generalize hE : escN s s.size = E at *
        have HE := hide hE
        clear hE
        go_wp2
        clear hmk h0' r2
        go_loopw [13, 14, 15] (fun j i _ wr => ∃ k : Nat, k ≤ s.size ∧ i = .int .i64 k ∧ j = .int .i64 ((k + escN s k : Nat) : Int) ∧ Below W.heap.size W wr ∧ Filling wr W.heap.size (s.size + E) (quoteL (s.data.toList.take k))) (fun _ i _ _ => s.size - (intOf i).toNat)
        case atStart => exact ⟨0, by omega, rfl, by rw [escN_zero]; rfl, (Below.refl _ _).alloc (Nat.le_refl _) _, filling_made W _⟩
        case round =>
          obtain ⟨k, hk, rfl, rfl, hb, hF⟩ := hrel
          have hek := escN_le s k
          have hll := hide (quoteL_take_len s k hk)
          by_cases hlt : k < s.size
          · have hn := hide (escN_succ s k hlt)
            have hm1 := hmono.out (k + 1)
            have hq := hide (quoteL_take_succ s k hlt)
            have h256 := UInt8.toNat_lt s[k]
            cases hx : isEsc s[k]
            · have hc := (hSW.out.below hb).nil_ s[k] hx
              have hm2 : k + escN s k < s.size + E := by rw [escN_succ s k hlt, hx] at hm1; simp at hm1; omega
              obtain ⟨v, hv, hf⟩ := hF.cell (k + escN s k) hm2
              have Hx := hide hx
              have HF := hide hF
              have hbs := hb.size
              have Hb := hide hb
              clear hx hF hb hm1
              generalize escN s k = e at *
              go_wp2
              go_roundw
              case rel =>
                have h2 := hn.out
                rw [Hx.out] at h2
                have h3 := HF.out.set_ (by rw [hll.out]; exact hm2) s[k]
                rw [hll.out] at h3
                refine ⟨k + 1, by omega, by go_num, by rw [h2]; go_num, Hb.out.setCell (p := ⟨W.heap.size, k + e, none⟩) (Nat.le_refl _) _, ?_⟩
                rw [hq.out, quoteB_eq, Hx.out]
                exact h3
              case measure => simp [intOf]; omega
            · obtain ⟨g, cap, hg1, hg2, hc, hc0, hc1⟩ := (hSW.out.below hb).esc s[k] hx
              have hm2 : k + escN s k + 1 < s.size + E := by rw [escN_succ s k hlt, hx] at hm1; simp at hm1; omega
              have Hx := hide hx
              have HF := hide hF
              have hbs := hb.size
              have Hb := hide hb
              clear hx hF hb hm1
              generalize escN s k = e at *
              have hne : ¬ s.size + E = k + e := by omega
              have hb1 : (0 : Int) ≤ (k : Int) + (e : Int) := by omega
              have hb2 : (k : Int) + (e : Int) ≤ (s.size : Int) + (E : Int) := by omega
              go_wp2
              obtain ⟨cur, hh1, hh2, hh3⟩ := HF.out
              have hh3' := hide hh3
              clear hh3
              have hsz5 : (Tryz.prog.info? 5).map (·.size) = some 1 := by kernel_rfl
              have hnn : [byteV 92, byteV s[k]].length = Nat.min 2 (s.size + E - (k + e)) := by show (2 : Nat) = Min.min 2 (s.size + E - (k + e)); omega
              have hsrc : ∀ j v, [byteV 92, byteV s[k]][j]? = some v → wr.cell? ((⟨g, 0, none⟩ : Addr).add j) = some v := by
                intro j v hj
                match j, hj with
                | 0, hj => simp at hj; rw [← hj]; exact hc0
                | 1, hj => simp at hj; rw [← hj]; exact hc1
                | j + 2, hj => simp at hj
              have hfit : k + e + [byteV 92, byteV s[k]].length ≤ cur.length := by simp; omega
              have h1c : ∀ v ∈ [byteV 92, byteV s[k]], v.oneCell' = true := by intro v hv; simp at hv; rcases hv with rfl | rfl <;> rfl
              have HP := hide (And.intro hh1 (And.intro hh2 (And.intro hnn (And.intro hsrc (And.intro hfit h1c)))))
              clear hh1 hh2 hnn hsrc hfit h1c
              have hb3 : ((s[k].toNat : Nat) : Int) < 256 := by omega
              have ht : ((k : Int) + (e : Int)).toNat = k + e := by omega
              go_region_law (refine step_copy_splice rfl (.tmp 105) (.tmp 111) 40 40 rfl 5 Tryz.underlying40 hsz5 (some ⟨W.heap.size, k + e, none⟩) (some ⟨g, 0, none⟩) (s.size + E - (k + e)) (s.size + E - (k + e)) 2 cap rfl rfl W.heap.size (k + e) cur 5 HP.out.1 [byteV 92, byteV s[k]] HP.out.2.2.1 (fun _ => ⟨rfl, _, rfl, HP.out.2.2.2.1⟩) HP.out.2.2.2.2.1 HP.out.2.2.2.2.2 W.heap.size W Hb.out.drew (Nat.le_refl _) ?_; intro w4 hg4 hb4)
              have hF4 : Filling w4 W.heap.size (s.size + E) (quoteL (s.data.toList.take (k + 1))) := by
                rw [hq.out, quoteB_eq, Hx.out]
                have h3 := hg4.out
                rw [← hll.out] at h3
                exact Filling.more (r := [92, s[k]]) HP.out.2.1 hh3'.out (by rw [hll.out]; simp; omega) h3
              have h2 := hn.out
              rw [Hx.out] at h2
              have H2 := hide h2
              have HF4 := hide hF4
              have Hb4 := hide hb4
              clear hF4 hb4 h2 hb1 hb2 hb3 ht
              go_wp2
              go_roundw
              case rel => exact ⟨k + 1, by omega, by go_num, by rw [H2.out]; simp only [if_true]; go_num, Hb4.out, HF4.out⟩
              case measure => simp [intOf]; omega
          · obtain rfl : k = s.size := by omega
            have htk : s.data.toList.take s.size = s.data.toList := List.take_of_length_le (by simp)
            rw [htk] at hF
            have hl2 : (quoteL s.data.toList).length = s.size + E := by have := hlen.out; rwa [htk] at this
            have hcb := run_convert_bytes_back (P := Tryz.prog) wr 40 9 5 ⟨W.heap.size, 0, none⟩ (s.size + E) (quoteL s.data.toList) Tryz.underlying40 Tryz.underlying5 Tryz.underlying9 (fun j hj => hF.full hl2 j hj)
            rw [hl2] at hcb
            have Hb := hide hb
            clear hF hl2 hb htk
            obtain ⟨q, hqq⟩ : ∃ q, q = quoteL s.data.toList := ⟨_, rfl⟩
            rw [← hqq] at hcb
            have HQ := hide hqq
            clear hqq
            go_wp2
            go_ret
            exact ⟨by rw [← HQ.out]; rfl, HbW.out.trans (HszW.out ▸ Hb.out)⟩
end Go.Proofs.YtgjdhndlbhbjhaaGreat
