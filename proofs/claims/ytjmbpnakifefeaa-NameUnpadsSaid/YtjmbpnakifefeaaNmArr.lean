/- An array of 30 bytes as an argument: read, and read back. -/
import Derived.Test.YtjmbpnakifefeaaNmUnpads
import Derived.OpenShut
import Derived.DataShut
namespace Go.Proofs.Ytjmbpnakifefeaa
open Go.RowKit Go.Lib

theorem list_of_each {R : Nat → UInt8 → Prop} : ∀ n, (∀ i, i < n → ∃ c, R i c) → ∃ l : List UInt8, l.length = n ∧ ∀ i, i < n → ∃ c, l[i]? = some c ∧ R i c := by
  intro n
  induction n with
  | zero => intro _; exact ⟨[], rfl, fun i h => absurd h (by omega)⟩
  | succ n ih =>
    intro h
    obtain ⟨l, hl, hR⟩ := ih (fun i hi => h i (by omega))
    obtain ⟨c, hc⟩ := h n (by omega)
    refine ⟨l ++ [c], by simp [hl], fun i hi => ?_⟩
    by_cases hin : i < n
    · obtain ⟨c', h1, h2⟩ := hR i hin
      exact ⟨c', by rw [List.getElem?_append_left (by omega)]; exact h1, h2⟩
    · obtain rfl : i = n := by omega
      exact ⟨c, by rw [← hl]; simp, hc⟩

section
variable {H : Type} {enc : TypeId × Value → H} {w : World} {base : Nat} {spare : Nat → Bool} {held : Bool}
def arrD (H : Type) (b : List UInt8) : DataW H := .agg (b.map fun c => .lit (.int .u8 (c.toNat : Int)))
theorem cells_arr : Try.prog.cellsOf 32 = 30 := by kernel_rfl
theorem cells_byte : Try.prog.cellsOf 5 = 1 := by kernel_rfl
theorem byte_wf (c : UInt8) : (Lit.int .u8 (c.toNat : Int)).wf = true := by
  have := UInt8.toNat_lt c
  exact WalkArith.wf_u8 (by omega)

set_option maxRecDepth 100000 in
theorem open_arr {r : Reach} {b0 : Nat} {v : Value} {d : DataW H} {ps : List MemPlace} (hval : Value.okWide Try.prog w r b0 32 v) (hd : DataW.Trod enc Try.prog w base spare held 32 v d ps) :
    ∃ b : List UInt8, b.length = 30 ∧ v = arrV b ∧ d = arrD H b ∧ ps = [] := by
  unfold Value.okWide at hval
  rw [Try.underlying32] at hval
  obtain ⟨cs, rfl, hsz, _⟩ := hval
  rw [cells_arr] at hsz
  obtain ⟨fuel, hf⟩ := hd
  obtain ⟨xs, m, _, hx, _, hl, hi⟩ := DataW.trod_array Try.underlying32 hf
  have hcl : (Value.agg cs).cells.toList = cs.toList := rfl
  rw [hcl] at hi
  have each : ∀ i, i < 30 → ∃ c : UInt8, cs[i]? = some (byteV c) ∧ xs[i]? = some (.lit (.int .u8 (c.toNat : Int)), []) := by
    intro i h30
    have h1 := hi i h30
    obtain ⟨y, hy⟩ : ∃ y, xs[i]? = some y := ⟨xs[i], List.getElem?_eq_getElem (by omega)⟩
    rw [hy] at h1
    obtain ⟨n, hn, hn2, hwf⟩ := DataW.trod_int Try.underlying5 h1
    rw [cells_byte, Nat.mul_one] at hn
    have h0 : ((cs.toList.drop i).take 1)[0]? = some (.int .u8 n) := by rw [hn]; rfl
    rw [List.getElem?_take, if_pos (by omega), List.getElem?_drop, Nat.add_zero, Array.getElem?_toList] at h0
    have hr : 0 ≤ n ∧ n ≤ 255 := bounds_u8 hwf
    have hb : ((UInt8.ofNat n.toNat).toNat : Int) = n := by
      rw [UInt8.toNat_ofNat']; omega
    refine ⟨UInt8.ofNat n.toNat, ?_, ?_⟩
    · rw [h0, byteV, hb]
    · rw [hy, hn2, hb]
  obtain ⟨b, hb, hbe⟩ := list_of_each 30 each
  refine ⟨b, hb, ?_, ?_, ?_⟩
  · rw [arrV]
    congr 1
    apply Array.ext_getElem?
    intro i
    by_cases h30 : i < 30
    · obtain ⟨c, h1, h2, _⟩ := hbe i h30
      rw [h2]; simp [h1]
    · rw [Array.getElem?_eq_none (by rw [hsz]; omega), Array.getElem?_eq_none (by simp; omega)]
  · have h9 : d = _ := congrArg Prod.fst hx
    rw [h9, arrD]
    show DataW.agg _ = DataW.agg _
    congr 1
    apply List.ext_getElem?
    intro i
    by_cases h30 : i < 30
    · obtain ⟨c, h1, _, h2⟩ := hbe i h30
      simp [h1, h2]
    · rw [List.getElem?_eq_none (by simp; omega), List.getElem?_eq_none (by simp; omega)]
  · have h9 : ps = _ := congrArg Prod.snd hx
    rw [h9]
    show List.flatMap _ _ = []
    rw [List.flatMap_eq_nil_iff]
    intro y hy
    obtain ⟨i, hi2⟩ := List.getElem?_of_mem hy
    have h30 : i < 30 := by
      rcases Nat.lt_or_ge i 30 with h | h
      · exact h
      · rw [List.getElem?_eq_none (by omega)] at hi2; cases hi2
    obtain ⟨c, _, _, h2⟩ := hbe i h30
    rw [hi2] at h2
    injection h2 with h2
    rw [h2]

set_option maxRecDepth 100000 in
theorem shut_arr (b : List UInt8) (hb : b.length = 30) : DataW.Trod enc Try.prog w base spare held 32 (arrV b) (arrD H b) [] := by
  refine ⟨2, ?_⟩
  have hcl : (arrV b).cells.toList = b.map byteV := by rw [arrV]; rfl
  rw [hcl]
  unfold DataW.trod
  rw [Try.underlying32]
  simp only [List.length_map, hb, cells_arr, if_true]
  have hm : ((List.range 30).mapM fun i => DataW.trod enc Try.prog w base spare held 1 5 (((b.map byteV).drop (i * Try.prog.cellsOf 5)).take (Try.prog.cellsOf 5))) = some (b.map fun c => ((.lit (.int .u8 (c.toNat : Int)) : DataW H), ([] : List MemPlace))) := by
    apply mapM_some_of_get
    · simp [hb]
    · intro i x hx
      have hx2 : i < 30 ∧ x = i := by
        rw [List.getElem?_eq_some_iff] at hx
        obtain ⟨h1, h2⟩ := hx
        rw [List.getElem_range] at h2
        exact ⟨by simpa using h1, h2.symm⟩
      obtain ⟨h30, rfl⟩ := hx2
      have hlt : x < b.length := by omega
      rw [cells_byte, Nat.mul_one]
      have h1 : ((b.map byteV).drop x).take 1 = [byteV b[x]] := by
        rw [← List.map_drop, ← List.map_take, List.drop_eq_getElem_cons hlt]; rfl
      rw [h1]
      simp [DataW.trod, Try.underlying5, byteV, byte_wf, hlt]
  rw [hm]
  simp [arrD, Function.comp_def]
end
end Go.Proofs.Ytjmbpnakifefeaa
