/- The walk of name.Pad: the bytes of a name in an array of 30 bytes, with zero bytes behind them. -/
import Derived.Test.YtjmbpnakifefeaaNmAlive
import Derived.Lib.BufferWrite
import Derived.Laws.Tables
import Derived.Stop.BytesEq
import Derived.Laws.CopyOwn
namespace Go.Proofs.Ytjmbpnakifefeaa
open Go.RowKit Go.Lib

/-- An array of bytes as a value. -/
def arrV (l : List UInt8) : Value := .agg (l.map byteV).toArray
def zeros (n : Nat) : List UInt8 := List.replicate n 0
def padL (s : ByteArray) : List UInt8 := if validS s = true then s.data.toList ++ zeros (30 - s.size) else zeros 30
theorem padL_length (s : ByteArray) : (padL s).length = 30 := by
  unfold padL
  split
  · have := validS_size s (by assumption)
    simp [zeros]; omega
  · simp [zeros]
theorem arr_info : (Try.prog.info? 32).map (·.size) = some 30 := by kernel_rfl
theorem byte_size : (Try.prog.info? 5).map (·.size) = some 1 := by kernel_rfl
def zrow : Array Value := ((zeros 30).map byteV).toArray
theorem zrow_size : zrow.size = 30 := by simp [zrow, zeros]
theorem zrow_is : (#[.int .u8 0, .int .u8 0, .int .u8 0, .int .u8 0, .int .u8 0, .int .u8 0, .int .u8 0, .int .u8 0, .int .u8 0, .int .u8 0, .int .u8 0, .int .u8 0, .int .u8 0, .int .u8 0, .int .u8 0, .int .u8 0, .int .u8 0, .int .u8 0, .int .u8 0, .int .u8 0, .int .u8 0, .int .u8 0, .int .u8 0, .int .u8 0, .int .u8 0, .int .u8 0, .int .u8 0, .int .u8 0, .int .u8 0, .int .u8 0] : Array Value) = zrow := rfl
theorem row_one (l : List UInt8) : ((l.map byteV).toArray).all (·.oneCell') = true := by
  rw [← Array.all_toList, List.all_eq_true]
  intro x hx
  simp at hx
  obtain ⟨c, _, rfl⟩ := hx
  rfl

set_option maxRecDepth 100000 in
/-- A string's bytes over a row of zero bytes. -/
theorem copy_pad (w : World) (B : Nat) (s : ByteArray) (hv : validS s = true) (hg : w.heap[B]? = some (.cells zrow 32 (0, 0))) :
    (Builtin.copy_ #[36, 9] 3 #[.slice (some ⟨B, 0, none⟩) 30 30, .string s]).run Try.prog w = .ok (.int .i64 (s.size : Int)) (w.setRow B ((padL s).map byteV).toArray) := by
  have hs := validS_size s hv
  have h := run_copy_row_string (P := Try.prog) w 36 9 3 5 B 0 30 30 s zrow 32 Try.underlying36 byte_size hg (by omega) (by rw [zrow_size]; omega)
  have e : (zrow.toList.take 0 ++ byteCells s.data.toList ++ zrow.toList.drop (0 + s.size)).toArray = ((padL s).map byteV).toArray := by
    rw [padL, if_pos hv, List.map_append, List.take_zero, List.nil_append]
    congr 1
    have e2 : zrow.toList.drop (0 + s.size) = (zeros (30 - s.size)).map byteV := by
      show ((zeros 30).map byteV).drop (0 + s.size) = _
      rw [← List.map_drop, zeros, List.drop_replicate, Nat.zero_add]; rfl
    rw [e2]
    rfl
  rw [e] at h
  exact h

theorem setRow_blk {w : World} {B : Nat} {t : TypeId} {cs cs' : Array Value} (h : Blk w B t cs) : Blk (w.setRow B cs') B t cs' := setRow_heap w B cs cs' t (0, 0) h
theorem setRow_far {w : World} {B g : Nat} {t : TypeId} {cs cs' : Array Value} (h : Blk w g t cs) (hne : g ≠ B) : Blk (w.setRow B cs') g t cs := (setRow_other w B g cs' hne).trans h

set_option maxRecDepth 100000 in
set_option maxHeartbeats 1000000 in
theorem Pad_calls (s : ByteArray) (w : World) :
    Calls Try.prog 15 #[.string s] w fun e w' => e = .returned (arrV (padL s)) ∧ Below w.heap.size w w' := by
  have hz : ∀ w, (zeroValue 32).run Try.prog w = .ok (.agg zrow) w := fun w => by rw [← zrow_is]; exact Try.zeroValue32 w
  have hi30 : ∀ cs : Array Value, cs.size = 30 → (Try.prog.info? 32).map (·.size) = some cs.size := fun cs h => by rw [h]; exact arr_info
  have Hi := hide hi30
  clear hi30
  cases hv : validS s
  · have hp : Hid (padL s = zeros 30) := by show _ = _; rw [padL, hv]; rfl
    have Hv := hide hv
    clear hv
    go_enter Try.func15, Try.ntmps15
    go_wp2_with (first
      | (go_at_call 9; refine (Valid_calls _ _).mono ?_; rintro e w1 ⟨rfl, hb1⟩; rw [Hv.out]; have hR := ((Blk.new w 32 zrow).alloc (.cells zrow 32)).below hb1 (by simp; omega); have hB : Blk w1 (w.heap.size + 1) 32 zrow := Blk.below (by have := Blk.new (w.alloc (.cells zrow 32)) 32 zrow; rwa [World.size_alloc] at this) hb1 (by simp); have hbl := ((((Below.refl _ w).alloc (Nat.le_refl _) (.cells zrow 32)).alloc (by simp) (.cells zrow 32)).trans (hb1.mono (by simp; omega))); have HR := hide hR; have HB := hide hB; have Hbl := hide hbl; clear hb1 hR hB hbl)
      | (refine wpList_load_row rfl 32 (.tmp 3) rfl (w.heap.size + 1) rfl 32 zrow (0, 0) _ HB.out Try.underlying32 rfl (Hi.out _ zrow_size) ?_)
      | (refine wpList_store_row rfl 32 (.tmp 2) (.tmp 9) rfl w.heap.size zrow rfl rfl 32 zrow HR.out (Hi.out _ zrow_size) rfl (row_one _) ?_))
    have hR2 : (w1.setRow w.heap.size zrow).heap[w.heap.size]? = some (.cells zrow 32 (0, 0)) := setRow_blk HR.out
    refine bodyPost_ret (v := .agg zrow) (results_cell_row rfl _ _ w.heap.size 32 zrow (0, 0) _ rfl hR2 Try.underlying32 rfl (Hi.out _ zrow_size)) rfl ⟨?_, below_setRow Hbl.out (Nat.le_refl _) _⟩
    rw [arrV, hp.out]; rfl
  · have hp2 : (((padL s).map byteV).toArray).size = 30 := by simp [padL_length]
    have Hv := hide hv
    have Hp2 := hide hp2
    obtain ⟨pr, hpr⟩ : ∃ pr, pr = ((padL s).map byteV).toArray := ⟨_, rfl⟩
    have hcp := copy_pad
    rw [← hpr] at hp2
    have hone := row_one (padL s)
    rw [← hpr] at hone
    have Hcp := hide (fun w B h => (copy_pad w B s hv h))
    have Hpr := hide hpr
    have Hps := hide hp2
    have Hone := hide hone
    clear hv hp2 hcp hone hpr
    go_enter Try.func15, Try.ntmps15
    go_wp2_with (first
      | (go_at_call 9; refine (Valid_calls _ _).mono ?_; rintro e w1 ⟨rfl, hb1⟩; rw [Hv.out]; have hR := ((Blk.new w 32 zrow).alloc (.cells zrow 32)).below hb1 (by simp; omega); have hB : Blk w1 (w.heap.size + 1) 32 zrow := Blk.below (by have := Blk.new (w.alloc (.cells zrow 32)) 32 zrow; rwa [World.size_alloc] at this) hb1 (by simp); have hbl := ((((Below.refl _ w).alloc (Nat.le_refl _) (.cells zrow 32)).alloc (by simp) (.cells zrow 32)).trans (hb1.mono (by simp; omega))); have HR := hide hR; have HB := hide hB; have Hbl := hide hbl; have hcp := Hcp.out w1 (w.heap.size + 1) hB; rw [← Hpr.out] at hcp; have HB2 := hide (setRow_blk (cs' := pr) hB); have HR2 := hide (setRow_far (B := w.heap.size + 1) (cs' := pr) hR (by omega)); clear hb1 hR hB hbl)
      | (refine wpList_load_row rfl 32 (.tmp 3) rfl (w.heap.size + 1) rfl 32 pr (0, 0) _ HB2.out Try.underlying32 rfl (Hi.out _ Hps.out) ?_)
      | (refine wpList_store_row rfl 32 (.tmp 2) (.tmp 9) rfl w.heap.size pr rfl rfl 32 zrow HR2.out (Hi.out _ Hps.out) (zrow_size.trans Hps.out.symm) Hone.out ?_))
    have hR3 : ((w1.setRow (w.heap.size + 1) pr).setRow w.heap.size pr).heap[w.heap.size]? = some (.cells pr 32 (0, 0)) := setRow_blk HR2.out
    refine bodyPost_ret (v := .agg pr) (results_cell_row rfl _ _ w.heap.size 32 pr (0, 0) _ rfl hR3 Try.underlying32 rfl (Hi.out _ Hps.out)) rfl ⟨?_, below_setRow (below_setRow Hbl.out (by omega) _) (Nat.le_refl _) _⟩
    rw [arrV, ← Hpr.out]
end Go.Proofs.Ytjmbpnakifefeaa
