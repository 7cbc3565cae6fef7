/- A configuration of the parser's own in memory: loaded whole, and kept where a lower cell is set (chapter 07). -/
import Derived.Test.YtcnihmlmaigkdaaGreatDoorMCfD
import Derived.Test.YtcnihmlmaigkdaaGreatDoorProg
import Derived.WalkKit
import Derived.BigGuardPart
import Derived.Laws.ResultCell
namespace Go.Proofs.YtcnihmlmaigkdaaGreatDoor
open Go.RowKit
set_option linter.unusedVariables false

theorem load_cfgP {w : World} {g : Nat} {cs : Array Value} (hg : Blk w g 29 cs) (hc : cs.size = 6) : (loadVar 29 ⟨g, 0, none⟩).run Tryz.prog w = .ok (.agg cs) w :=
  run_loadVar_row (P := Tryz.prog) w g 29 29 cs (0, 0) _ hg Tryz.underlying29 rfl (by rw [hc]; kernel_rfl)
theorem own_setLowP {w : World} {base size n : Nat} {e : TypeId} {v : Value} {xs : List Value} (h : w.ownsRow base e size v n xs) {p : Addr} (hp : p.block < base) (u : Value) : (w.setCell p u).ownsRow base e size v n xs :=
  own_but h (But.setCell (M := fun k => k = p.block) (But.refl _ w) (.inl rfl) u) (fun k hk e => by have := (h.lt k hk).1; omega)
theorem OwnC.setLowP {B : Nat} {c : Cfg} {w : World} (h : OwnC B c w) {p : Addr} (hp : p.block < B) (u : Value) : OwnC B c (w.setCell p u) :=
  ⟨own_setLowP h.parts hp u, own_setLowP h.wins hp u, own_setLowP h.regs hp u, own_setLowP h.ports hp u, own_setLowP h.chans hp u, fun x hx => own_setLowP (h.dests x hx) hp u⟩
end Go.Proofs.YtcnihmlmaigkdaaGreatDoor
