/- The walk of the law NamePads. -/
import Derived.Test.YtjmbpnakifefeaaNmUnpad
import Derived.Test.YtjmbpnakifefeaaNmRefUnpad
namespace Go.Proofs.Ytjmbpnakifefeaa
open Go.RowKit Go.Lib

theorem arr_eql (x y : List UInt8) (hx : x.length = 30) (hy : y.length = 30) (w : World) : (binOp .eql 32 (.agg (x.map byteV).toArray) (.agg (y.map byteV).toArray)).run Try.prog w = .ok (.bool (x == y)) w := by
  have h := run_equalIn_bytes (P := Try.prog) w 9998 32 5 30 Try.underlying32 Try.underlying5 Try.sizeOf5 x y hx hy
  simp only [binOp]
  simp only [Op.equal, Op.maxDepth, Sem.run_bind]
  exact (congrArg (fun r => Result.andThen r _) h)
theorem validL_zeros (n : Nat) (k : Nat) : validL ((zeros n).take k) = false := by
  rw [zeros, List.take_replicate]
  cases min k n with
  | zero => decide
  | succ m => 
    have h2 : (List.replicate (m + 1) (0 : UInt8)).all okByte = false := by
      rw [List.replicate_succ, List.all_cons, show okByte 0 = false from by decide]; rfl
    unfold validL; rw [h2]; simp
theorem unpad_zeros (s : ByteArray) : unpadV (zeros 30) (s.size : Int) = .tuple #[.string ⟨#[]⟩, .bool false] :=
  unpadV_no _ _ (by unfold unpadOk; rw [validL_zeros]; rfl)
theorem unpad_padL (s : ByteArray) (hv : validS s = true) : unpadV (padL s) (s.size : Int) = .tuple #[.string s, .bool true] := by
  have hs := validS_size s hv
  have hl : s.data.toList.length = s.size := by simp
  have h1 : (padL s).take s.size = s.data.toList := by rw [padL, if_pos hv, List.take_left' hl]
  have h2 : (padL s).drop s.size = zeros (30 - s.size) := by rw [padL, if_pos hv, List.drop_left' hl]
  rw [unpadV_yes _ _ (by omega) (by unfold unpadOk; rw [h1, h2]; simp; exact hv), h1]

theorem wpList_load_rowG {P : Program} {ops : Array Oper} {rest : List Oper} {o : Oper} {a : Act} {w : World} {Q : Exit → Act → World → Prop} (hw : Region.wanted o (yielded ops a.tmps) = true) (ty : TypeId) (x : Operand) (ho : o.op = .load ty x)
    (g : Nat) (hx : a.eval x = .pointer (some ⟨g, 0, none⟩)) (t : TypeId) (cs : Array Value) (fr : Nat × Nat) (d : TypeDesc) (hg : w.heap[g]? = some (.cells cs t fr))
    (hu : P.underlying ty = some d) (hd : (match d with | .struct _ | .array _ _ => true | _ => false) = true) (hi : (P.info? ty).map (·.size) = some cs.size)
    (h : wpList P ops Q rest (a.put o.dst (.agg cs)) w) : wpList P ops Q (o :: rest) a w :=
  wpList_step fun _ hK => by rw [if_pos hw]; exact wp_load_row ty x ho g hx t cs fr d hg hu hd hi (hK _ _ h)

set_option maxRecDepth 100000 in
set_option maxHeartbeats 1000000 in
theorem NamePads_calls (s : ByteArray) (w : World) (hs : s.size ≤ 9223372036854775807) :
    Calls Try.prog 6 #[.string s] w fun e w' => e = .returned (.bool true) ∧ Below w.heap.size w w' := by
  by_cases h1000 : (s.size : Int) ≤ 1000
  · have hUp := fun W => Unpad_calls (padL s) (padL_length s) (s.size : Int) W
    have hPd := fun W => Pad_calls s W
    cases hv : validS s
    · have hp : padL s = zeros 30 := by rw [padL, hv]; rfl
      rw [hp, unpad_zeros] at hUp
      rw [hp] at hPd
      have hz : arrV (zeros 30) = .agg zrow := rfl
      rw [hz] at hUp hPd
      have heq := fun w => arr_eql (zeros 30) (zeros 30) (by simp [zeros]) (by simp [zeros]) w
      have hzr : ((zeros 30).map byteV).toArray = zrow := rfl
      rw [hzr, beq_self_eq_true] at heq
      have hz : ∀ w, (zeroValue 32).run Try.prog w = .ok (.agg zrow) w := fun w => by rw [← zrow_is]; exact Try.zeroValue32 w
      have Hv := hide hv
      have HUp := hide hUp
      have HPd := hide hPd
      have hi30 : ∀ cs : Array Value, cs.size = 30 → (Try.prog.info? 32).map (·.size) = some cs.size := fun cs h => by rw [h]; exact arr_info
      have Hi := hide hi30
      clear hv hUp hPd hp hi30
      go_enter Try.func6, Try.ntmps6
      go_wp2_with (first
        | (go_at_call 8; refine (alive_calls _).mono ?_; rintro e w1 ⟨rfl, hb1⟩; have HR4 := hide (HR3.out.below hb1 HR3.out.lt))
        | (go_at_call 10; refine (RefValid_calls _ _ hs).mono ?_; rintro e w3 ⟨rfl, rfl⟩; rw [Hv.out])
        | (go_at_call 15; refine (HPd.out _).mono ?_; rintro e w4 ⟨rfl, hb4⟩; have HR := hide (Blk.new w4 32 zrow); have HR2 := hide (setRow_blk (cs' := zrow) HR.out))
        | (go_at_call 16; refine (HUp.out _).mono ?_; rintro e w5 ⟨rfl, hb5⟩; have HR3 := hide (HR2.out.below hb5 HR2.out.lt))
        | (refine wpList_store_row rfl 32 (.tmp 3) (.tmp 12) rfl w4.heap.size zrow rfl rfl 32 zrow HR.out (Hi.out _ zrow_size) rfl (row_one _) ?_)
        | (refine wpList_load_row rfl 32 (.tmp 3) rfl w4.heap.size rfl 32 zrow (0, 0) _ HR2.out Try.underlying32 rfl (Hi.out _ zrow_size) ?_)
        | (refine wpList_load_rowG (by rfl) 32 (.tmp 3) rfl w4.heap.size rfl 32 zrow (0, 0) _ HR4.out Try.underlying32 rfl (Hi.out _ zrow_size) ?_))
      have h5 : Below w.heap.size w ((w4.alloc (Obj.cells zrow 32)).setRow w4.heap.size zrow) := below_setRow (hb4.alloc hb4.size _) hb4.size _
      have h6 := h5.trans (hb5.mono h5.size)
      go_ret
      exact ⟨rfl, h6.trans (hb1.mono h6.size)⟩
    · obtain ⟨pr, hpr⟩ : ∃ pr, pr = ((padL s).map byteV).toArray := ⟨_, rfl⟩
      have hps : pr.size = 30 := by rw [hpr]; simp [padL_length]
      have hone := row_one (padL s)
      have hcp := fun w B h => copy_pad w B s hv h
      have heq := fun w => arr_eql (padL s) (padL s) (padL_length s) (padL_length s) w
      have hz : arrV (padL s) = .agg pr := by rw [hpr]; rfl
      rw [unpad_padL s hv] at hUp
      rw [hz] at hUp hPd
      rw [← hpr] at hone hcp heq
      rw [beq_self_eq_true] at heq
      have hz : ∀ w, (zeroValue 32).run Try.prog w = .ok (.agg zrow) w := fun w => by rw [← zrow_is]; exact Try.zeroValue32 w
      have hi30 : ∀ cs : Array Value, cs.size = 30 → (Try.prog.info? 32).map (·.size) = some cs.size := fun cs h => by rw [h]; exact arr_info
      have Hi := hide hi30
      have Hv := hide hv
      have HUp := hide hUp
      have HPd := hide hPd
      have Hps := hide hps
      have Hone := hide hone
      have Hcp := hide hcp
      clear hv hUp hPd hi30 hps hone hcp hpr
      go_enter Try.func6, Try.ntmps6
      go_wp2_with (first
        | (go_at_call 8; refine (alive_calls _).mono ?_; rintro e w1 ⟨rfl, hb1⟩; have HR4 := hide (HR3b.out.below hb1 HR3b.out.lt); have HR5 := hide (HW2.out.below hb1 HW2.out.lt))
        | (go_at_call 10; refine (RefValid_calls _ _ hs).mono ?_; rintro e w3 ⟨rfl, rfl⟩; rw [Hv.out])
        | (go_at_call 15; refine (HPd.out _).mono ?_; rintro e w4 ⟨rfl, hb4⟩; have HR := hide (Blk.new w4 32 zrow); have HR2 := hide (setRow_blk (cs' := pr) HR.out))
        | (go_at_call 16; refine (HUp.out _).mono ?_; rintro e w5 ⟨rfl, hb5⟩; have HR3 := hide (HR2.out.below hb5 HR2.out.lt); have HW := hide (Blk.new w5 32 zrow); have hcp := Hcp.out _ _ HW.out; have HW2 := hide (setRow_blk (cs' := pr) HW.out); have HR3b := hide (setRow_far (cs' := pr) (HR3.out.alloc (.cells zrow 32)) (Nat.ne_of_lt HR3.out.lt)))
        | (refine wpList_store_row rfl 32 (.tmp 3) (.tmp 12) rfl w4.heap.size pr rfl rfl 32 zrow HR.out (Hi.out _ Hps.out) (zrow_size.trans Hps.out.symm) Hone.out ?_)
        | (refine wpList_load_row rfl 32 (.tmp 3) rfl w4.heap.size rfl 32 pr (0, 0) _ HR2.out Try.underlying32 rfl (Hi.out _ Hps.out) ?_)
        | (refine wpList_load_rowG (by rfl) 32 (.tmp 3) rfl w4.heap.size rfl 32 pr (0, 0) _ HR4.out Try.underlying32 rfl (Hi.out _ Hps.out) ?_)
        | (refine wpList_load_rowG (by rfl) 32 (.tmp 6) rfl w5.heap.size rfl 32 pr (0, 0) _ HR5.out Try.underlying32 rfl (Hi.out _ Hps.out) ?_))
      have h5 : Below w.heap.size w ((w4.alloc (Obj.cells zrow 32)).setRow w4.heap.size pr) := below_setRow (hb4.alloc hb4.size _) hb4.size _
      have h6 := h5.trans (hb5.mono h5.size)
      have h7 : Below w.heap.size w ((w5.alloc (Obj.cells zrow 32)).setRow w5.heap.size pr) := below_setRow (h6.alloc h6.size _) h6.size _
      go_ret
      exact ⟨rfl, h7.trans (hb1.mono h7.size)⟩
  · go_enter Try.func6, Try.ntmps6
    go_wp2_with (go_at_call 8; refine (alive_calls _).mono ?_; rintro e w1 ⟨rfl, hb1⟩)
    go_ret
    exact ⟨rfl, hb1.mono (by simp) |>.trans (Below.refl _ _)⟩
end Go.Proofs.Ytjmbpnakifefeaa
