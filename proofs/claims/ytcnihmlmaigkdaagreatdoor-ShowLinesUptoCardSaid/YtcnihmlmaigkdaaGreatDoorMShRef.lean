/- The reference's num, rights, word; its state in Lines (chapter 08). show: the writer's methods region and channel (chapter 08). Written by genshchan.py. How long the lines and the texts of a configuration of few records are (chapter 08). No program in sight. show.lines, Print, Records (chapter 08). Few records within limits: what small says (chapter 08). show.Line (chapter 08). -/
import Derived.Test.YtcnihmlmaigkdaaGreatDoorShMeth
import Derived.Test.YtcnihmlmaigkdaaGreatDoorMNuParse
import Derived.Test.YtcnihmlmaigkdaaGreatDoorMNmRefs
import Derived.Test.YtcnihmlmaigkdaaGreatDoorMPost
import Derived.Test.YtcnihmlmaigkdaaGreatDoorMShWr
import Derived.Test.YtcnihmlmaigkdaaGreatDoorShEach
import Derived.Test.YtcnihmlmaigkdaaGreatDoorShMethA
import Derived.Test.YtcnihmlmaigkdaaGreatDoorMC5Cnt
namespace Go.Proofs.YtcnihmlmaigkdaaGreatDoor
open Go.RowKit Go.Lib Go.Sort
set_option linter.unusedVariables false

theorem RNum_calls (x : Nat) (hx : x < 18446744073709551616) (w : World) :
    Calls Tryz.prog 29 #[.int .u64 (x : Int)] w fun e w' => e = .returned (.string (ofL (numB x))) ∧ Below w.heap.size w w' := by
  have H := hide (RefDecimal_calls x hx w)
  clear hx
  go_enter Tryz.func29, Tryz.ntmps29
  go_wp2_with (go_at_call 64; refine H.out.mono ?_; rintro e w' ⟨rfl, hb⟩)
  go_ret
  exact ⟨rfl, hb⟩
theorem RWord_calls (q : Bool) (a b : ByteArray) (w : World) :
    Calls Tryz.prog 36 #[.bool q, .string a, .string b] w fun e w' => e = .returned (.string (if q then b else a)) ∧ w = w' := by
  cases q
  · go_enter Tryz.func36, Tryz.ntmps36
    go_wp2
    go_ret
    exact ⟨rfl, rfl⟩
  · go_enter Tryz.func36, Tryz.ntmps36
    go_wp2
    go_ret
    exact ⟨rfl, rfl⟩
set_option maxRecDepth 100000 in
theorem RRights_calls (r : Nat) (hr : r ≤ 7) (w : World) :
    Calls Tryz.prog 35 #[.int .u8 (r : Int)] w fun e w' => e = .returned (.string (ofL (rightsW r))) ∧ w = w' := by
  have e1 : ((⟨#[]⟩ : ByteArray) ++ ⟨#[114]⟩).toList.isEmpty = false := by decide +kernel
  have e2 : ((⟨#[]⟩ : ByteArray) ++ ⟨#[119]⟩).toList.isEmpty = false := by decide +kernel
  have e3 : ((⟨#[]⟩ : ByteArray) ++ ⟨#[114]⟩ ++ ⟨#[119]⟩).toList.isEmpty = false := by decide +kernel
  have e4 : ((⟨#[]⟩ : ByteArray) ++ ⟨#[120]⟩).toList.isEmpty = false := by decide +kernel
  have e5 : ((⟨#[]⟩ : ByteArray) ++ ⟨#[114]⟩ ++ ⟨#[120]⟩).toList.isEmpty = false := by decide +kernel
  have e6 : ((⟨#[]⟩ : ByteArray) ++ ⟨#[119]⟩ ++ ⟨#[120]⟩).toList.isEmpty = false := by decide +kernel
  have e7 : ((⟨#[]⟩ : ByteArray) ++ ⟨#[114]⟩ ++ ⟨#[119]⟩ ++ ⟨#[120]⟩).toList.isEmpty = false := by decide +kernel
  have : r = 0 ∨ r = 1 ∨ r = 2 ∨ r = 3 ∨ r = 4 ∨ r = 5 ∨ r = 6 ∨ r = 7 := by omega
  rcases this with rfl | rfl | rfl | rfl | rfl | rfl | rfl | rfl
  all_goals
    go_enter Tryz.func35, Tryz.ntmps35
    go_wp2
    go_ret
    exact ⟨ret_s (by decide +kernel), rfl⟩
/-- Few records with short names. -/
structure FewC (c : Cfg) : Prop where
  parts : c.parts.l.length ≤ 1024
  wins : c.wins.l.length ≤ 1024
  regs : c.regs.l.length ≤ 1024
  ports : c.ports.l.length ≤ 1024
  chans : c.chans.l.length ≤ 1024
  links : ∀ x ∈ c.chans.l, x.dests.length ≤ 1024
  pnames : ∀ x ∈ c.parts.l, x.name.size ≤ 1000
  qnames : ∀ x ∈ c.ports.l, x.name.size ≤ 1000
  rights : ∀ x ∈ c.regs.l, x.rights ≤ 7
/-- Behind the lines. -/
def LinesW (L : List ByteArray) (w : World) (e : Ending) (w' : World) : Prop :=
  ∃ a k, e = .returned (.slice a L.length k) ∧ w'.ownsRow w.heap.size 9 1 (.slice a L.length k) L.length (strsV L) ∧ Below w.heap.size w w'
def linesS (c : Cfg) : List ByteArray := c.parts.l.map (fun x => ofL (partLn x)) ++ c.wins.l.map (fun x => ofL (winLn x)) ++ c.regs.l.map (fun x => ofL (regLn x)) ++ c.ports.l.map (fun x => ofL (portLn x)) ++ c.chans.l.map (fun x => ofL (chanLn x))
/-- In the reference's Lines. -/
def LnS (w : World) (c : Cfg) (L : List ByteArray) (a : Option Addr) (m cap : Nat) (W : World) : Prop :=
  Boxed1 w c W ∧ m = L.length ∧ W.ownsRow (w.heap.size + 1) 9 1 (.slice a m cap) m (strsV L)
section
variable {w W W' : World} {c : Cfg} {L : List ByteArray} {a : Option Addr} {m cap : Nat}
theorem LnS.below (h : LnS w c L a m cap W) (hb : Below W.heap.size W W') : LnS w c L a m cap W' := ⟨h.1.below hb, h.2.1, own_below h.2.2 hb⟩
theorem LnS.alloc (h : LnS w c L a m cap W) (o : Obj) : LnS w c L a m cap (W.alloc o) := h.below ((Below.refl _ W).alloc (Nat.le_refl _) o)
theorem LnS.drew (h : LnS w c L a m cap W) : LnS w c L a m cap W.drew := h.below (Below.drew (Below.refl _ W))
theorem LnS.start (w : World) (c : Cfg) : LnS w c [] none 0 0 (w.alloc (.cells (cfgC c) 29)) := ⟨Boxed1.start w c, rfl, World.ownsRow_nil _ _ _ _⟩
theorem LnS.base_alloc (h : LnS w c L a m cap W) (o : Obj) : w.heap.size + 1 ≤ (W.alloc o).heap.size := by have := h.1.2.lt; rw [World.size_alloc]; omega
theorem LnS.pushed {s : ByteArray} {o : Obj} {v : Value} (h : LnS w c L a m cap W) (ho : W'.ownsRow (w.heap.size + 1) 9 1 v (m + 1) (strsV L ++ [.string s])) (hg : (W.alloc o).grownBy W' (Value.slice a m cap).ownBlock) :
    ∃ a4 c4, v = .slice a4 (m + 1) c4 ∧ LnS w c (L ++ [s]) a4 (m + 1) c4 W' := by
  obtain ⟨a4, c4, rfl⟩ := own_slice ho
  have hol := own_lt2 h.2.2
  refine ⟨a4, c4, rfl, ⟨(h.1.1.alloc h.1.1.size o).grown hg (Nat.le_trans h.1.1.size (by simp)) (fun r hr => by have := (hol r hr).1; omega), Blk.grown (h.1.2.alloc o) hg (fun e => by have := (hol _ e.symm).1; omega)⟩, by rw [List.length_append, ← h.2.1]; rfl, ?_⟩
  rw [strsV_snoc]
  exact ho
end
theorem str_reads (w : World) (s : ByteArray) : Reads (w.alloc (.cells #[.string s] 9)) (w.heap.size + 1) 1 (some ⟨w.heap.size, 0, none⟩) 1 [.string s] :=
  ⟨rfl, fun _ => ⟨_, rfl, by simp, cell_one_new w _ _⟩⟩
theorem take_map_snoc {α : Type} (f : α → ByteArray) (L : List ByteArray) (l : List α) (k : Nat) (h : k < l.length) : (L ++ (l.take (k + 1)).map f) = (L ++ (l.take k).map f) ++ [f l[k]] := by
  rw [List.take_succ_eq_append_getElem h, List.map_append, ← List.append_assoc]; rfl
end Go.Proofs.YtcnihmlmaigkdaaGreatDoor
namespace Go.Proofs.YtcnihmlmaigkdaaGreatDoor
open Go.RowKit Go.Lib Go.Sort
set_option linter.unusedVariables false

theorem Mid.grown {B g : Nat} {L : List ByteArray} {w W W' : World} {row : Option Nat} (h : Mid B g L w W) (hg : W.grownBy W' row) (hr : ∀ r, row = some r → w.heap.size ≤ r) : Mid B g L w W' := by
  obtain ⟨⟨v, h1, h2, h3, h4, h5, h6⟩, hb⟩ := h
  refine ⟨⟨v, Blk.grown h1 hg (fun e => by have := hr g e.symm; omega), h2.kept hg ?_, h3, h4, Nat.le_trans h5 hg.size, h6⟩, hb.grown hg (by omega) (fun r e => by have := hr r e; omega)⟩
  cases ho : v.ownBlock with
  | none => exact .inl rfl
  | some k =>
    right
    intro e
    have h7 := h6 k ho
    have h8 := hr k e.symm
    omega
/-- The line of a method, its fields in a row of the call's own. -/
theorem line_own {B g : Nat} {L : List ByteArray} {w W : World} (h : Mid B g L w W) (hL : L.length ≤ 1000000) (head : ByteArray) (fs : List ByteArray) (A : Option Addr) (n c base : Nat) (hfn : n = fs.length)
    (ho : W.ownsRow base 9 1 (.slice A n c) n (strsV fs)) (hp : 0 < fs.length) (hn : fs.length ≤ 1000)
    (hj : (Lib.join (fs.map (·.data.toList)) [59, 32]).length ≤ 1000000) (hh : head.size ≤ 1000000) :
    Calls Tryz.prog 118 #[.pointer (some ⟨g, 0, none⟩), .string head, .slice A n c] W (MethW B g L (ofL (lnB head.data.toList (fs.map (·.data.toList)))) w) := by
  subst hfn
  obtain ⟨b, cap, hv, h1, h2, h3, h4, h5, _⟩ := own_form ho hp
  injection hv with e1 e2 e3
  subst e1 e3
  exact (line_calls B w.heap.size g L head fs b c W h.1 hL (fun j x hx => h5 j _ (by simp [strsV, hx])) h2 h3 (by omega) hj hh).mono fun e w' hw => h.wrote hw
theorem dest_cellC {x : ChanR} {B : Nat} {w : World} (h : DestsAt B x w) (k : Nat) (hk : k < x.dests.length) :
    ∃ b o, x.at_ = some ⟨b, o, none⟩ ∧ b < B ∧ w.cell? ⟨b, o + k, none⟩ = some (.int .u16 (x.dests[k] : Int)) := by
  have hr : RowAt (fun x => [destL x]) 1 B ⟨x.dests, x.at_, x.cap⟩ w := ⟨by rw [flat_one]; exact h.1, h.2⟩
  obtain ⟨b, o, e, hb, hc⟩ := hr.at_ (fun _ => rfl) (by omega) k hk
  have h0 := hc 0 (by omega)
  rw [Nat.mul_one, Nat.add_zero] at h0
  exact ⟨b, o, e, hb, h0⟩
/-- In channel: the strings of the first k destinations. -/
def ChW (B g : Nat) (L : List ByteArray) (w : World) (cid src n : Nat) (dat : Option Addr) (dcp : Nat) (ds : List Nat) (k : Nat) (a : Option Addr) (cap : Nat) (W : World) : Prop :=
  Mid B g L w W ∧ Blk W w.heap.size 57 #[.int .u16 (cid : Int), .int .u16 (src : Int), .slice dat n dcp] ∧ W.ownsRow (w.heap.size + 1) 9 1 (.slice a k cap) k (strsV ((ds.take k).map fun d => ofL (numB d)))
section
variable {B g cid src n dcp k cap : Nat} {L : List ByteArray} {w W W' : World} {dat a : Option Addr} {ds : List Nat}
theorem ChW.below (h : ChW B g L w cid src n dat dcp ds k a cap W) (hb : Below W.heap.size W W') : ChW B g L w cid src n dat dcp ds k a cap W' := ⟨h.1.below hb, h.2.1.below hb h.2.1.lt, own_below h.2.2 hb⟩
theorem ChW.base (h : ChW B g L w cid src n dat dcp ds k a cap W) (o : Obj) : w.heap.size + 1 ≤ (W.alloc o).heap.size := by have := h.2.1.lt; rw [World.size_alloc]; omega
theorem ChW.pushed {s : ByteArray} {o : Obj} {v : Value} (h : ChW B g L w cid src n dat dcp ds k a cap W) (ho : W'.ownsRow (w.heap.size + 1) 9 1 v (k + 1) (strsV ((ds.take k).map fun d => ofL (numB d)) ++ [.string s])) (hg : (W.alloc o).grownBy W' (Value.slice a k cap).ownBlock)
    (hs : strsV ((ds.take (k + 1)).map fun d => ofL (numB d)) = strsV ((ds.take k).map fun d => ofL (numB d)) ++ [.string s]) : ∃ a4 c4, v = .slice a4 (k + 1) c4 ∧ ChW B g L w cid src n dat dcp ds (k + 1) a4 c4 W' := by
  obtain ⟨a4, c4, rfl⟩ := own_slice ho
  have hol := own_lt2 h.2.2
  exact ⟨a4, c4, rfl, Mid.grown (h.1.alloc o) hg (fun r hr => by have := (hol r hr).1; omega), Blk.grown (h.2.1.alloc o) hg (fun e => by have := (hol _ e.symm).1; omega), by rw [hs]; exact ho⟩
end
theorem join_len2 (sep : List UInt8) (l : List (List UInt8)) : (Lib.join l sep).length ≤ (l.map List.length).sum + sep.length * l.length := by
  cases l with
  | nil => simp [Lib.join]
  | cons x l =>
    rw [join_cons, List.length_append, joinTail_len]
    simp only [List.map_cons, List.sum_cons, List.length_cons, Nat.mul_succ]
    omega
theorem sum_num : ∀ ds : List Nat, (∀ d ∈ ds, d < 65536) → ((ds.map numB).map List.length).sum ≤ 20 * ds.length
  | [], _ => Nat.le_refl _
  | d :: ds, h => by
    have h1 := sum_num ds (fun x hx => h x (List.mem_cons_of_mem _ hx))
    have h2 : (numB d).length ≤ 20 := num_size (by have := h d List.mem_cons_self; omega)
    simp only [List.map_cons, List.sum_cons, List.length_cons]
    omega

set_option maxRecDepth 100000 in
set_option maxHeartbeats 8000000 in
theorem Wregion_calls (B g : Nat) (L : List ByteArray) (x : RegR) (hx : x.Ok) (hrt : x.rights ≤ 7) (w : World) (h : WrAt B w.heap.size g L w) (hL : L.length ≤ 1000000) (hv : VarT w) (hG : TLow B) :
    Calls Tryz.prog 59 #[.pointer (some ⟨g, 0, none⟩), .agg (regCs x)] w (MethW B g L (ofL (regLn x)) w) := by
  obtain ⟨ba, sz, part, ri, sh⟩ := x
  obtain ⟨h1, h2, h3, _⟩ := hx
  simp only at h1 h2 h3 hrt
  have hM0 := Mid.start h
  obtain ⟨i0, hi, hz0, hz1, hz2⟩ := info_parts string_info
  have HI := hide hi
  have HV := hide (fun W (hW : Mid B g L w W) => (hv.only hG hW.2).1)
  have HV2 := hide (fun W (hW : Mid B g L w W) => (hv.only hG hW.2).2)
  have HC0 := hide (fun W (hW : Hid (Mid B g L w W)) => Hex_calls ba h1 W (HV2.out W hW.out))
  obtain ⟨s0, hs0⟩ : ∃ s, s = ofL (hexL ba) := ⟨_, rfl⟩
  have e0 : (⟨(hexL ba).toArray⟩ : ByteArray) = s0 := hs0.symm
  rw [e0] at HC0
  have z0 : s0.size ≤ 20 := by rw [hs0, ofL_size]; have := hex_size h1; omega
  have HC1 := hide (fun W (hW : Hid (Mid B g L w W)) => Decimal_calls sz h2 W (HV.out W hW.out))
  obtain ⟨s1, hs1⟩ : ∃ s, s = ofL (numB sz) := ⟨_, rfl⟩
  have e1 : (⟨(digL 10 sz).toArray⟩ : ByteArray) = s1 := hs1.symm
  rw [e1] at HC1
  have z1 : s1.size ≤ 20 := by rw [hs1, ofL_size]; exact num_size (by omega)
  have HC2 := hide (fun W (hW : Hid (Mid B g L w W)) => Word_calls ri hrt W)
  obtain ⟨s2, hs2⟩ : ∃ s, s = ofL (rightsW ri) := ⟨_, rfl⟩
  rw [← hs2] at HC2
  have z2 : s2.size ≤ 20 := by rw [hs2, ofL_size]; have := word_size hrt; omega
  have HC3 := hide (fun W (hW : Hid (Mid B g L w W)) => id_calls part h3 W (HV.out W hW.out))
  obtain ⟨s3, hs3⟩ : ∃ s, s = ofL (numB part) := ⟨_, rfl⟩
  rw [← hs3] at HC3
  have z3 : s3.size ≤ 20 := by rw [hs3, ofL_size]; exact num_size (by omega)
  have q0 : (9223372036854775807 < 5 + s0.size) = False := by simp; omega
  have q1 : (9223372036854775807 < 5 + s1.size) = False := by simp; omega
  have q2 : (9223372036854775807 < 7 + s2.size) = False := by simp; omega
  have q3 : (9223372036854775807 < 7 + s3.size) = False := by simp; omega
  obtain ⟨f0, hf0⟩ : ∃ f, f = (⟨#[98, 97, 115, 101, 32]⟩ : ByteArray) ++ s0 := ⟨_, rfl⟩
  have zf0 : f0.size ≤ 30 := by rw [hf0, ByteArray.size_append]; simp only [lit_size, List.length_cons, List.length_nil]; omega
  have HF0 := hide hf0
  obtain ⟨f1, hf1⟩ : ∃ f, f = (⟨#[115, 105, 122, 101, 32]⟩ : ByteArray) ++ s1 := ⟨_, rfl⟩
  have zf1 : f1.size ≤ 30 := by rw [hf1, ByteArray.size_append]; simp only [lit_size, List.length_cons, List.length_nil]; omega
  have HF1 := hide hf1
  obtain ⟨f2, hf2⟩ : ∃ f, f = (⟨#[114, 105, 103, 104, 116, 115, 32]⟩ : ByteArray) ++ s2 := ⟨_, rfl⟩
  have zf2 : f2.size ≤ 30 := by rw [hf2, ByteArray.size_append]; simp only [lit_size, List.length_cons, List.length_nil]; omega
  have HF2 := hide hf2
  have HLf : Hid (∀ W A c, Mid B g L w W → W.ownsRow (w.heap.size + 1) 9 1 (.slice A 3 c) 3 (strsV [f0, f1, f2]) → Calls Tryz.prog 118 #[.pointer (some ⟨g, 0, none⟩), .string ((⟨#[114, 101, 103, 105, 111, 110, 32]⟩ : ByteArray) ++ s3), .slice A 3 c] W (MethW B g L (ofL (regLn ⟨ba, sz, part, ri, false⟩)) w)) := hide (fun W A c hW ho => by
    have hl := line_own hW hL ((⟨#[114, 101, 103, 105, 111, 110, 32]⟩ : ByteArray) ++ s3) [f0, f1, f2] A 3 c (w.heap.size + 1) rfl ho (by simp) (by simp) (by
      refine Nat.le_trans (join_len _) ?_
      simp only [List.map_cons, List.map_nil, List.sum_cons, List.sum_nil, List.length_cons, List.length_nil, list_size]
      first | omega | (simp only [lit_size, List.length_cons, List.length_nil]; omega) | (simp; omega)) (by simp only [ByteArray.size_append]; simp only [lit_size, List.length_cons, List.length_nil]; omega)
    have he : ofL (lnB ((⟨#[114, 101, 103, 105, 111, 110, 32]⟩ : ByteArray) ++ s3).data.toList ([f0, f1, f2].map (·.data.toList))) = ofL (regLn ⟨ba, sz, part, ri, false⟩) := by
      simp only [List.map_cons, List.map_nil, hf0, hf1, hf2, list_append, hs0, hs1, hs2, hs3, ofL_list]
      simp [regLn, regF, lnB]
    rw [he] at hl
    exact hl)
  have HLt : Hid (∀ W A c, Mid B g L w W → W.ownsRow (w.heap.size + 1) 9 1 (.slice A 4 c) 4 (strsV [f0, f1, f2, (⟨#[115, 104, 97, 114, 101, 100]⟩ : ByteArray)]) → Calls Tryz.prog 118 #[.pointer (some ⟨g, 0, none⟩), .string ((⟨#[114, 101, 103, 105, 111, 110, 32]⟩ : ByteArray) ++ s3), .slice A 4 c] W (MethW B g L (ofL (regLn ⟨ba, sz, part, ri, true⟩)) w)) := hide (fun W A c hW ho => by
    have hl := line_own hW hL ((⟨#[114, 101, 103, 105, 111, 110, 32]⟩ : ByteArray) ++ s3) [f0, f1, f2, (⟨#[115, 104, 97, 114, 101, 100]⟩ : ByteArray)] A 4 c (w.heap.size + 1) rfl ho (by simp) (by simp) (by
      refine Nat.le_trans (join_len _) ?_
      simp only [List.map_cons, List.map_nil, List.sum_cons, List.sum_nil, List.length_cons, List.length_nil, list_size]
      first | omega | (simp only [lit_size, List.length_cons, List.length_nil]; omega) | (simp; omega)) (by simp only [ByteArray.size_append]; simp only [lit_size, List.length_cons, List.length_nil]; omega)
    have he : ofL (lnB ((⟨#[114, 101, 103, 105, 111, 110, 32]⟩ : ByteArray) ++ s3).data.toList ([f0, f1, f2, (⟨#[115, 104, 97, 114, 101, 100]⟩ : ByteArray)].map (·.data.toList))) = ofL (regLn ⟨ba, sz, part, ri, true⟩) := by
      simp only [List.map_cons, List.map_nil, hf0, hf1, hf2, list_append, hs0, hs1, hs2, hs3, ofL_list]
      simp [regLn, regF, lnB]
    rw [he] at hl
    exact hl)
  have HM1 := hide (hM0.alloc (.cells (regCs ⟨ba, sz, part, ri, sh⟩) 54)).drew
  have HB1 := hide (Blk.new w 54 (regCs ⟨ba, sz, part, ri, sh⟩)).drew
  unfold regCs at HM1 HB1 ⊢
  have HSX : Hid (∀ W, Blk W w.heap.size 54 #[.int .u64 (ba : Int), .int .u64 (sz : Int), .int .u16 (part : Int), .int .u8 (ri : Int), .bool sh] → (W.cell? ⟨w.heap.size, 0, none⟩ = some (.int .u64 (ba : Int)) ∧ W.cell? ⟨w.heap.size, 1, none⟩ = some (.int .u64 (sz : Int)) ∧ W.cell? ⟨w.heap.size, 3, none⟩ = some (.int .u8 (ri : Int)) ∧ Blk W w.heap.size 54 #[.int .u64 (ba : Int), .int .u64 (sz : Int), .int .u16 (part : Int), .int .u8 (ri : Int), .bool sh])) := hide (fun W hW => ⟨hW.cell 0, hW.cell 1, hW.cell 3, hW⟩)
  have mixed := mixed_prog
  clear h hv hs0 hs1 hs2 hs3 e0 e1 hM0 h1 h2 h3 hrt hi hf0 hf1 hf2
  go_enter Tryz.func59, Tryz.ntmps59
  go_wp2
  go_region_held3 (fun w' => (w'.cell? ⟨w.heap.size, 0, none⟩ = some (.int .u64 (ba : Int)) ∧ w'.cell? ⟨w.heap.size, 1, none⟩ = some (.int .u64 (sz : Int)) ∧ w'.cell? ⟨w.heap.size, 3, none⟩ = some (.int .u8 (ri : Int)) ∧ Blk w' w.heap.size 54 #[.int .u64 (ba : Int), .int .u64 (sz : Int), .int .u16 (part : Int), .int .u8 (ri : Int), .bool sh]))
    (first | with_reducible assumption | with_reducible exact HSX.out _ HB1.out | with_reducible exact HSX.out _ (by with_reducible assumption) | with_reducible exact HSX.out _ (Blk.alloc (And.right (And.right (And.right (by assumption)))) _))
    (first
    | (go_at_call 121; refine (HC0.out _ (by assumption)).mono ?_; rintro e w2 ⟨rfl, hb⟩; have HM2 := hide (Mid.below (Hid.out (by assumption)) hb); have hx2 := Blk.below (And.right (And.right (And.right (by assumption)))) hb (Blk.lt (And.right (And.right (And.right (by assumption))))))
    | (go_at_call 27; refine (HC1.out _ (by assumption)).mono ?_; rintro e w2 ⟨rfl, hb⟩; have HM2 := hide (Mid.below (Hid.out (by assumption)) hb); have hx2 := Blk.below (And.right (And.right (And.right (by assumption)))) hb (Blk.lt (And.right (And.right (And.right (by assumption))))))
    | (go_at_call 122; refine (HC2.out _ (by assumption)).mono ?_; rintro e w2 ⟨rfl, hb⟩; have HM2 := hide (Mid.below (Hid.out (by assumption)) hb); have hx2 := Blk.below (And.right (And.right (And.right (by assumption)))) hb (Blk.lt (And.right (And.right (And.right (by assumption)))))))
  all_goals
    rw [← HF0.out, ← HF1.out, ← HF2.out]
    have HM9 := hide ((Hid.out (by with_reducible assumption : Hid (Mid B g L w w2))).alloc (.cells #[.string f0, .string f1, .string f2] 9))
    have HB9 := hide (Blk.alloc hx2 (.cells #[.string f0, .string f1, .string f2] 9))
    have HK9 : Hid ((w2.alloc (.cells #[.string f0, .string f1, .string f2] 9)).ownsRow (w.heap.size + 1) 9 1 (.slice (some ⟨w2.heap.size, 0, none⟩) 3 3) 3 [.string f0, .string f1, .string f2]) := hide (own_new w2 (w.heap.size + 1) 9 #[.string f0, .string f1, .string f2] (Blk.lt hx2) (by simp [maxLen]))
    have hN9 : w2.heap.size < (w2.alloc (.cells #[.string f0, .string f1, .string f2] 9)).heap.size := by simp
    have hwg := Blk.lt hx2
    clear hx2
    generalize hW9 : w2.alloc (.cells #[.string f0, .string f1, .string f2] 9) = W9 at *
    obtain ⟨g9, hg9⟩ : ∃ n, n = w2.heap.size := ⟨_, rfl⟩
    rw [← hg9] at HK9 hN9 hwg ⊢
    clear hg9 hW9
    have y2 : W9.cell? ⟨w.heap.size, 2, none⟩ = some (.int .u16 (part : Int)) := HB9.out.cell 2
    have y4 : W9.cell? ⟨w.heap.size, 4, none⟩ = some (.bool sh) := HB9.out.cell 4
    cases sh
    · go_wp2_with (first
        | (go_at_call 119; refine (HC3.out _ HM9).mono ?_; rintro e w3 ⟨rfl, hb3⟩; have HM3 := hide (HM9.out.below hb3); have HK3 := hide (own_below HK9.out hb3); clear hb3)
        | (go_at_call 118; refine (HLf.out w3 _ _ HM3.out HK3.out).mono ?_; rintro e w4 hm; have hme := hm.1; subst hme; have HFN := hide hm; clear hm))
      go_end0
      exact HFN.out
    · go_wp2_with (first
        | (at_builtin; go_must (refine wpList_append_any _ rfl (.tmp 20) (.tmp 21) 34 rfl (w.heap.size + 1) 9 i0 _ 1 16 Tryz.underlying34 HI.out hz0 hz1 hz2 rfl (by decide) (.slice (some ⟨g9, 0, none⟩) 3 3) 3 [.string f0, .string f1, .string f2] rfl (HK9.out.alloc _) (W9.heap.size + 1) (some ⟨W9.heap.size, 0, none⟩) 1 1 [.string (⟨#[115, 104, 97, 114, 101, 100]⟩ : ByteArray)] rfl (str_reads W9 _) (strs_one _) (by decide) (by decide) (by simp; omega) ?_); intro v4 w4 ho4 hg4 hat4; obtain ⟨a4, c4, hv4⟩ := own_slice ho4; subst hv4; have HM4 := hide (Mid.grown (HM9.out.alloc _) hg4 (fun r hr => by have := (own_lt2 HK9.out r hr).1; omega)); have hB4 := Blk.grown (HB9.out.alloc _) hg4 (fun e => by have := (own_lt2 HK9.out _ e.symm).1; omega); have z2 : w4.cell? ⟨w.heap.size, 2, none⟩ = some (.int .u16 (part : Int)) := hB4.cell 2; have HK4 : Hid (w4.ownsRow (w.heap.size + 1) 9 1 (.slice a4 4 c4) 4 (strsV [f0, f1, f2, (⟨#[115, 104, 97, 114, 101, 100]⟩ : ByteArray)])) := hide ho4; clear ho4 hg4 hat4 hB4)
        | (go_at_call 119; refine (HC3.out _ HM4).mono ?_; rintro e w5 ⟨rfl, hb5⟩; have HM5 := hide (HM4.out.below hb5); have HK5 := hide (own_below HK4.out hb5); clear hb5)
        | (go_at_call 118; refine (HLt.out w5 _ _ HM5.out HK5.out).mono ?_; rintro e w6 hm; have hme := hm.1; subst hme; have HFN := hide hm; clear hm))
      go_end0
      exact HFN.out
set_option maxRecDepth 100000 in
set_option maxHeartbeats 8000000 in
theorem Wchannel_calls (B g : Nat) (L : List ByteArray) (x : ChanR) (hx : x.Ok) (hlk : x.dests.length ≤ 1024) (w : World) (h : WrAt B w.heap.size g L w) (hL : L.length ≤ 1000000) (hv : VarT w) (hG : TLow B) (hds : DestsAt B x w) :
    Calls Tryz.prog 63 #[.pointer (some ⟨g, 0, none⟩), .agg (chanCs x)] w (MethW B g L (ofL (chanLn x)) w) := by
  obtain ⟨cid, src, ds, dat, dcp⟩ := x
  obtain ⟨h1, h2, h3⟩ := hx
  simp only at h1 h2 h3 hlk
  have hBw := h.le
  have hM0 := Mid.start h
  obtain ⟨i0, hi, hz0, hz1, hz2⟩ := info_parts string_info
  have HI := hide hi
  have HV := hide (fun W (hW : Mid B g L w W) => (hv.only hG hW.2).1)
  have HID := hide (fun y (hy : y < 65536) W (hW : Mid B g L w W) => id_calls y hy W (HV.out W hW))
  have HDC := hide (fun W (hW : Mid B g L w W) k (hk : k < ds.length) => dest_cellC (hds.below hW.2) k hk)
  have hcapD := hds.2
  simp only at hcapD HDC
  have H3 := hide h3
  have HC0 := hide (fun W (hW : Hid (Mid B g L w W)) => id_calls cid h1 W (HV.out W hW.out))
  obtain ⟨s0, hs0⟩ : ∃ s, s = ofL (numB cid) := ⟨_, rfl⟩
  rw [← hs0] at HC0
  have z0 : s0.size ≤ 20 := by rw [hs0, ofL_size]; exact num_size (by omega)
  have HC1 := hide (fun W (hW : Hid (Mid B g L w W)) => id_calls src h2 W (HV.out W hW.out))
  obtain ⟨s1, hs1⟩ : ∃ s, s = ofL (numB src) := ⟨_, rfl⟩
  rw [← hs1] at HC1
  have z1 : s1.size ≤ 20 := by rw [hs1, ofL_size]; exact num_size (by omega)
  have q0 : (9223372036854775807 < 8 + s0.size) = False := by simp; omega
  have q1 : (9223372036854775807 < 7 + s1.size) = False := by simp; omega
  have HLN : Hid (∀ T, T.size ≤ 50000 → T = ofL (toB ds) → ∀ W, Mid B g L w W → Calls Tryz.prog 118 #[.pointer (some ⟨g, 0, none⟩), .string ((⟨#[99, 104, 97, 110, 110, 101, 108, 32]⟩ : ByteArray) ++ s0), .slice (some ⟨W.heap.size, 0, none⟩) 2 2] (W.alloc (.cells #[.string ((⟨#[115, 111, 117, 114, 99, 101, 32]⟩ : ByteArray) ++ s1), .string T] 9)) (Wrote B w.heap.size g L (ofL (chanLn ⟨cid, src, ds, dat, dcp⟩)) (W.alloc (.cells #[.string ((⟨#[115, 111, 117, 114, 99, 101, 32]⟩ : ByteArray) ++ s1), .string T] 9)))) := hide (fun T hT hTe W hW => by
    have hl := line_new hW hL ((⟨#[99, 104, 97, 110, 110, 101, 108, 32]⟩ : ByteArray) ++ s0) [((⟨#[115, 111, 117, 114, 99, 101, 32]⟩ : ByteArray) ++ s1), T] (by simp) (by
      refine Nat.le_trans (join_len _) ?_
      simp only [List.map_cons, List.map_nil, List.sum_cons, List.sum_nil, List.length_cons, List.length_nil, list_size, ByteArray.size_append]
      simp only [lit_size, List.length_cons, List.length_nil]
      omega) (by simp only [ByteArray.size_append]; simp only [lit_size, List.length_cons, List.length_nil]; omega)
    have he : ofL (lnB ((⟨#[99, 104, 97, 110, 110, 101, 108, 32]⟩ : ByteArray) ++ s0).data.toList ([((⟨#[115, 111, 117, 114, 99, 101, 32]⟩ : ByteArray) ++ s1), T].map (·.data.toList))) = ofL (chanLn ⟨cid, src, ds, dat, dcp⟩) := by
      simp only [List.map_cons, List.map_nil, hTe, list_append, hs0, hs1, ofL_list]
      simp [chanLn, lnB]
    rw [he] at hl
    exact hl)
  have HM1 := hide (hM0.alloc (.cells (chanCs ⟨cid, src, ds, dat, dcp⟩) 57))
  have HB1 := hide (Blk.new w 57 (chanCs ⟨cid, src, ds, dat, dcp⟩))
  unfold chanCs at HM1 HB1 ⊢
  obtain ⟨n, hn⟩ : ∃ n, n = ds.length := ⟨_, rfl⟩
  have HN := hide hn
  have hnI : (n : Int) ≤ 1024 := by omega
  have hcI : (n : Int) ≤ (dcp : Int) := by omega
  simp only [← hn] at HM1 HB1 ⊢
  have HJN : Hid (n = 0 → ds = []) := hide (fun e => List.eq_nil_of_length_eq_zero (by omega))
  have HJL : Hid ((Lib.join (ds.map numB) [44, 32]).length ≤ 22 * n) := hide (by
    have h8 := join_len2 [44, 32] (ds.map numB)
    have h9 := sum_num ds h3
    simp only [List.length_map, List.length_cons, List.length_nil] at h8
    omega)
  have mixed := mixed_prog
  clear h hv hM0 hi h3 hds hn h1 h2 hs0 hs1
  go_enter Tryz.func63, Tryz.ntmps63
  go_wp2
  have HS0 : Hid (ChW B g L w cid src n dat dcp ds 0 none 0 (w.alloc (.cells #[.int .u16 (cid : Int), .int .u16 (src : Int), .slice dat n dcp] 57))) := hide ⟨HM1.out, HB1.out, World.ownsRow_nil _ _ _ _⟩
  generalize (w.alloc (.cells #[.int .u16 (cid : Int), .int .u16 (src : Int), .slice dat n dcp] 57)) = W0 at *
  go_loopw [5, 11] (fun o v wr => ∃ (k : Nat) (a : Option Addr) (cap : Nat), k ≤ n ∧ v = .int .i64 (k : Int) ∧ o = .slice a k cap ∧ Hid (ChW B g L w cid src n dat dcp ds k a cap wr)) (fun _ v _ => n - (intOf v).toNat)
  case atStart => exact ⟨0, none, 0, Nat.zero_le _, rfl, rfl, HS0⟩
  case round =>
    obtain ⟨k, a, cap, hk, rfl, rfl, hrel⟩ := hrel
    by_cases hlt : k < n
    · have hlt2 : (k : Int) < (n : Int) := by omega
      have hkl : k < ds.length := by have := HN.out; omega
      obtain ⟨b, o, ha, hbB, x0⟩ := HDC.out wr hrel.out.1 k hkl
      subst ha
      have HC := hide (HID.out ds[k] (H3.out _ (List.getElem_mem _)))
      obtain ⟨s, hs⟩ : ∃ s, s = ofL (numB ds[k]) := ⟨_, rfl⟩
      rw [← hs] at HC
      have HTK : Hid (strsV ((ds.take (k + 1)).map fun d => ofL (numB d)) = strsV ((ds.take k).map fun d => ofL (numB d)) ++ [.string s]) := hide (by rw [List.take_succ_eq_append_getElem hkl, List.map_append, hs]; simp [strsV])
      clear hs
      generalize ds[k] = d at *
      go_wp2_with (first
        | (go_at_call 119; refine (HC.out _ hrel.out.1).mono ?_; rintro e w2 ⟨rfl, hb⟩; have HR2 := hide (ChW.below hrel.out hb); clear hb)
        | (at_builtin; go_must (refine wpList_append_any _ rfl (.tmp 15) (.tmp 18) 34 rfl (w.heap.size + 1) 9 i0 _ 1 16 Tryz.underlying34 HI.out hz0 hz1 hz2 rfl (by decide) (.slice a k cap) k _ rfl (HR2.out.2.2.alloc _) (w2.heap.size + 1) (some ⟨w2.heap.size, 0, none⟩) 1 1 [.string s] rfl (str_reads w2 _) (strs_one _) (by simp only [maxLen]; omega) (by omega) (ChW.base HR2.out _) ?_); intro v4 w4 ho4 hg4 hat4; obtain ⟨a4, c4, hv4, hm4⟩ := ChW.pushed HR2.out ho4 hg4 HTK.out; subst hv4; have HM4 := hide hm4; clear ho4 hg4 hat4 hm4))
      go_roundw
      case rel => exact ⟨k + 1, a4, c4, by omega, by go_num, rfl, HM4⟩
      case measure => simp [intOf]; omega
    · obtain rfl : k = n := by omega
      have hfin := hrel.out
      rw [ChW, List.take_of_length_le (by rw [HN.out]; exact Nat.le_refl _)] at hfin
      have HMF := hide hfin.1
      have HBF := hide hfin.2.1
      have HOF := hide hfin.2.2
      clear hfin hrel hlt hk
      have HSX : Hid (∀ W, Blk W w.heap.size 57 #[.int .u16 (cid : Int), .int .u16 (src : Int), .slice dat k dcp] → (W.cell? ⟨w.heap.size, 0, none⟩ = some (.int .u16 (cid : Int)) ∧ W.cell? ⟨w.heap.size, 1, none⟩ = some (.int .u16 (src : Int)) ∧ Blk W w.heap.size 57 #[.int .u16 (cid : Int), .int .u16 (src : Int), .slice dat k dcp])) := hide (fun W hW => ⟨hW.cell 0, hW.cell 1, hW⟩)
      rcases Nat.eq_zero_or_pos k with hk0 | hk0
      · have hk1 : ¬ (0 : Int) < (k : Int) := by omega
        have HLT := hide (HLN.out ⟨#[116, 111]⟩ (by decide) (by rw [HJN.out hk0]; rfl))
        have HMG := HMF
        have HBG := HBF
        clear HJN HJL HOF HID HDC H3
        go_wp2
        have HM1 := hide (Mid.drew HMG.out)
        have HB9 := hide (Blk.drew HBG.out)
        go_region_held3 (fun w' => (w'.cell? ⟨w.heap.size, 0, none⟩ = some (.int .u16 (cid : Int)) ∧ w'.cell? ⟨w.heap.size, 1, none⟩ = some (.int .u16 (src : Int)) ∧ Blk w' w.heap.size 57 #[.int .u16 (cid : Int), .int .u16 (src : Int), .slice dat k dcp]))
          (first | with_reducible assumption | with_reducible exact HSX.out _ HB9.out | with_reducible exact HSX.out _ (by with_reducible assumption) | with_reducible exact HSX.out _ (Blk.alloc (And.right (And.right (by with_reducible assumption))) _))
          (first
          | (go_at_call 119; (with_reducible first | refine (HC0.out _ (by with_reducible assumption)).mono ?_ | refine (HC1.out _ (by with_reducible assumption)).mono ?_); rintro e w2 ⟨rfl, hb⟩; have HM2 := hide (Mid.below (Hid.out (by with_reducible assumption)) hb); have hx2 := Blk.below (And.right (And.right (by with_reducible assumption))) hb (Blk.lt (And.right (And.right (by with_reducible assumption)))))
          | (go_at_call 118; refine (HLT.out _ (Hid.out (by with_reducible assumption))).mono ?_; rintro e w2 hw; have hwe := hw.1; subst hwe; have HW2 := hide (Mid.wrote (Mid.alloc (Hid.out (by with_reducible assumption)) _) hw); have hx2 := blk_wrote (And.right (And.right (by with_reducible assumption))) hw (Nat.le_refl _); clear hw))
        all_goals
          go_wp2
          go_end0
          exact HW2.out
      · have hk1 : (0 : Int) < (k : Int) := by omega
        have hlm : (ds.map fun d => ofL (numB d)).length = k := by rw [List.length_map]; exact HN.out.symm
        obtain ⟨b, cap2, hv, _, hb2, hc2, _, hcell, _⟩ := own_form HOF.out hk0
        injection hv with e1 e2 e3
        subst e1
        subst e3
        have hmm : (ds.map fun d => ofL (numB d)).map (·.data.toList) = ds.map numB := by rw [List.map_map]; exact List.map_congr_left (fun d _ => ofL_list (numB d))
        have hjc := join_calls (ds.map fun d => ofL (numB d)) ⟨#[44, 32]⟩ b cap wr (fun j x hx => hcell j _ (by simp only [strsV, List.getElem?_map, hx, Option.map_some])) hb2 (by rw [hlm]; exact hc2) (by rw [hlm]; omega) (by rw [hmm]; have := HJL.out; exact Nat.le_trans this (by omega))
        rw [hlm, hmm] at hjc
        obtain ⟨j, hj⟩ : ∃ s, s = ofL (Lib.join (ds.map numB) [44, 32]) := ⟨_, rfl⟩
        have hjs : j.size ≤ 30000 := by rw [hj, ofL_size]; have := HJL.out; omega
        have HJ := hide (show Calls Tryz.prog 123 #[.slice (some ⟨b, 0, none⟩) k cap, .string ⟨#[44, 32]⟩] wr fun e w' => e = .returned (.string j) ∧ Below wr.heap.size wr w' by rw [hj]; exact hjc)
        have p0 : (9223372036854775807 < 1 + j.size) = False := by simp; omega
        have p1 : (9223372036854775807 < 2 + (1 + j.size)) = False := by simp; omega
        have hne : ds ≠ [] := fun e => by have := HN.out; rw [e] at this; simp at this; omega
        have HLT := hide (HLN.out ((⟨#[116, 111]⟩ : ByteArray) ++ ((⟨#[32]⟩ : ByteArray) ++ j)) (by simp only [ByteArray.size_append]; simp only [lit_size, List.length_cons, List.length_nil]; omega) (by
          apply bytes_eq
          simp only [list_append, hj, ofL_list, toB, if_neg hne]))
        clear hjc hmm hlm hcell hj hne HJN HJL HOF HID HDC H3
        go_wp2_with (go_at_call 123; refine HJ.out.mono ?_; rintro e w9 ⟨rfl, hb9⟩; have HMG := hide (Mid.below HMF.out hb9); have HBG := hide (Blk.below HBF.out hb9 (Blk.lt HBF.out)); clear hb9)
        have HM1 := hide (Mid.drew HMG.out)
        have HB9 := hide (Blk.drew HBG.out)
        go_region_held3 (fun w' => (w'.cell? ⟨w.heap.size, 0, none⟩ = some (.int .u16 (cid : Int)) ∧ w'.cell? ⟨w.heap.size, 1, none⟩ = some (.int .u16 (src : Int)) ∧ Blk w' w.heap.size 57 #[.int .u16 (cid : Int), .int .u16 (src : Int), .slice dat k dcp]))
          (first | with_reducible assumption | with_reducible exact HSX.out _ HB9.out | with_reducible exact HSX.out _ (by with_reducible assumption) | with_reducible exact HSX.out _ (Blk.alloc (And.right (And.right (by with_reducible assumption))) _))
          (first
          | (go_at_call 119; (with_reducible first | refine (HC0.out _ (by with_reducible assumption)).mono ?_ | refine (HC1.out _ (by with_reducible assumption)).mono ?_); rintro e w2 ⟨rfl, hb⟩; have HM2 := hide (Mid.below (Hid.out (by with_reducible assumption)) hb); have hx2 := Blk.below (And.right (And.right (by with_reducible assumption))) hb (Blk.lt (And.right (And.right (by with_reducible assumption)))))
          | (go_at_call 118; refine (HLT.out _ (Hid.out (by with_reducible assumption))).mono ?_; rintro e w2 hw; have hwe := hw.1; subst hwe; have HW2 := hide (Mid.wrote (Mid.alloc (Hid.out (by with_reducible assumption)) _) hw); have hx2 := blk_wrote (And.right (And.right (by with_reducible assumption))) hw (Nat.le_refl _); clear hw))
        all_goals
          go_wp2
          go_end0
          exact HW2.out
end Go.Proofs.YtcnihmlmaigkdaaGreatDoor
namespace Go.Proofs.YtcnihmlmaigkdaaGreatDoor
open Go.RowKit Go.Lib Go.Sort
set_option linter.unusedVariables false

theorem quoteN_len (s : ByteArray) : (quoteN s).length ≤ 2 * s.size + 2 := by unfold quoteN; rw [list_size]; exact quote_size s
theorem part_len {x : PartR} (hx : x.Ok) (hn : x.name.size ≤ 1000) : (partLn x).length ≤ 25000 := by
  obtain ⟨h1, _, h3, h4⟩ := hx
  have a1 : (numB x.id).length ≤ 20 := num_size (by omega)
  have a2 : (numB x.per).length ≤ 20 := num_size h3
  have a3 : (numB x.dur).length ≤ 20 := num_size h4
  have a4 := quoteN_len x.name
  have a5 := join_len [[112, 101, 114, 105, 111, 100, 32] ++ numB x.per, [100, 117, 114, 97, 116, 105, 111, 110, 32] ++ numB x.dur]
  unfold partLn lnB
  simp only [List.length_append, List.length_cons, List.length_nil, List.map_cons, List.map_nil, List.sum_cons, List.sum_nil] at a5 ⊢
  omega
theorem win_len {x : WinR} (hx : x.Ok) : (winLn x).length ≤ 25000 := by
  obtain ⟨h1, h2, h3⟩ := hx
  have a1 : (numB x.part).length ≤ 20 := num_size (by omega)
  have a2 : (numB x.st).length ≤ 20 := num_size h1
  have a3 : (numB x.len).length ≤ 20 := num_size h2
  have a5 := join_len [[115, 116, 97, 114, 116, 32] ++ numB x.st, [108, 101, 110, 103, 116, 104, 32] ++ numB x.len]
  unfold winLn lnB
  simp only [List.length_append, List.length_cons, List.length_nil, List.map_cons, List.map_nil, List.sum_cons, List.sum_nil] at a5 ⊢
  omega
theorem reg_len {x : RegR} (hx : x.Ok) (hr : x.rights ≤ 7) : (regLn x).length ≤ 25000 := by
  obtain ⟨h1, h2, h3, _⟩ := hx
  have a1 : (numB x.part).length ≤ 20 := num_size (by omega)
  have a2 : (numB x.size).length ≤ 20 := num_size h2
  have a3 := hex_size h1
  have a4 : (rightsW x.rights).length ≤ 4 := word_size hr
  have a5 := join_len (regF x)
  unfold regLn lnB
  unfold regF at a5 ⊢
  cases hs : x.shared <;> simp only [hs, Bool.false_eq_true, if_false, if_true, List.length_append, List.length_cons, List.length_nil, List.map_append, List.map_cons, List.map_nil, List.sum_append, List.sum_cons, List.sum_nil] at a5 ⊢ <;> omega
theorem port_len {x : PortR} (hx : x.Ok) (hn : x.name.size ≤ 1000) : (portLn x).length ≤ 25000 := by
  obtain ⟨h1, h2, _, h4⟩ := hx
  have a1 : (numB x.id).length ≤ 20 := num_size (by omega)
  have a2 : (numB x.part).length ≤ 20 := num_size (by omega)
  have a3 : (numB x.size).length ≤ 20 := num_size (by omega)
  have a4 := quoteN_len x.name
  have a6 : (dirB x.out).length ≤ 10 := by cases x.out <;> decide
  have a7 : (kindB x.que).length ≤ 10 := by cases x.que <;> decide
  have a5 := join_len [[112, 97, 114, 116, 105, 116, 105, 111, 110, 32] ++ numB x.part, dirB x.out, kindB x.que, [115, 105, 122, 101, 32] ++ numB x.size]
  unfold portLn lnB
  simp only [List.length_append, List.length_cons, List.length_nil, List.map_cons, List.map_nil, List.sum_cons, List.sum_nil] at a5 ⊢
  omega
theorem chan_len {x : ChanR} (hx : x.Ok) (hn : x.dests.length ≤ 1024) : (chanLn x).length ≤ 25000 := by
  obtain ⟨h1, h2, h3⟩ := hx
  have a1 : (numB x.id).length ≤ 20 := num_size (by omega)
  have a2 : (numB x.src).length ≤ 20 := num_size (by omega)
  have b1 := join_len2 [44, 32] (x.dests.map numB)
  have b2 := sum_num x.dests h3
  simp only [List.length_map, List.length_cons, List.length_nil] at b1
  have a3 : (toB x.dests).length ≤ 23000 := by
    unfold toB
    split
    · decide
    · simp only [List.length_append, List.length_cons, List.length_nil]; omega
  have a5 := join_len [[115, 111, 117, 114, 99, 101, 32] ++ numB x.src, toB x.dests]
  unfold chanLn lnB
  simp only [List.length_append, List.length_cons, List.length_nil, List.map_cons, List.map_nil, List.sum_cons, List.sum_nil] at a5 ⊢
  omega
theorem lines_len {c : Cfg} (hok : c.Ok) (hf : FewC c) : ∀ s ∈ linesS c, s.size ≤ 25000 := by
  intro s hs
  unfold linesS at hs
  simp only [List.mem_append, List.mem_map] at hs
  rcases hs with (((⟨x, hx, rfl⟩ | ⟨x, hx, rfl⟩) | ⟨x, hx, rfl⟩) | ⟨x, hx, rfl⟩) | ⟨x, hx, rfl⟩ <;> rw [ofL_size]
  · exact part_len (hok.parts x hx) (hf.pnames x hx)
  · exact win_len (hok.wins x hx)
  · exact reg_len (hok.regs x hx) (hf.rights x hx)
  · exact port_len (hok.ports x hx) (hf.qnames x hx)
  · exact chan_len (hok.chans x hx) (hf.links x hx)
theorem lines_num {c : Cfg} (hf : FewC c) : (linesS c).length ≤ 5120 := by
  unfold linesS
  simp only [List.length_append, List.length_map]
  have h1 := hf.parts
  have h2 := hf.wins
  have h3 := hf.regs
  have h4 := hf.ports
  have h5 := hf.chans
  omega
theorem textB_len (bf : List UInt8) (M : Nat) : ∀ l : List (List UInt8), (∀ s ∈ l, s.length ≤ M) → (textB bf l).length ≤ l.length * (M + bf.length + 1)
  | [], _ => Nat.zero_le _
  | x :: l, h => by
    have h1 := textB_len bf M l (fun s hs => h s (List.mem_cons_of_mem _ hs))
    have h2 := h x List.mem_cons_self
    have e : textB bf (x :: l) = bf ++ x ++ [10] ++ textB bf l := by simp [textB]
    rw [e]
    simp only [List.length_append, List.length_cons, List.length_nil, Nat.add_mul, Nat.one_mul]
    omega
theorem text_len (bf : List UInt8) (ls : List ByteArray) (hb : bf.length ≤ 1) (hn : ls.length ≤ 5121) (hs : ∀ s ∈ ls, s.size ≤ 25000) : (textB bf (bytesOf ls)).length ≤ 200000000 := by
  have h := textB_len bf 25000 (bytesOf ls) (fun s hs' => by
    unfold bytesOf at hs'
    obtain ⟨x, hx, rfl⟩ := List.mem_map.mp hs'
    rw [list_size]
    exact hs x hx)
  have e : (bytesOf ls).length = ls.length := by simp [bytesOf]
  rw [e] at h
  have h2 : ls.length * (25000 + bf.length + 1) ≤ 5121 * (25000 + 1 + 1) := Nat.mul_le_mul hn (by omega)
  omega
theorem linesS_eq (c : Cfg) : bytesOf (linesS c) = linesL c := by
  unfold linesS linesL bytesOf
  simp only [List.map_append, List.map_map, List.append_assoc]
  have e : ∀ {α : Type} (f : α → List UInt8) (l : List α), l.map ((fun x : ByteArray => x.data.toList) ∘ fun x => ofL (f x)) = l.map f := fun f l => List.map_congr_left (fun x _ => ofL_list (f x))
  rw [e, e, e, e, e]
end Go.Proofs.YtcnihmlmaigkdaaGreatDoor
namespace Go.Proofs.YtcnihmlmaigkdaaGreatDoor
open Go.RowKit Go.Lib Go.Sort
set_option linter.unusedVariables false

def WrS (w : World) (c : Cfg) (L : List ByteArray) (W : World) : Prop := WrAt (w.heap.size + 1) W.heap.size (w.heap.size + 1) L W ∧ Boxed1 w c W
theorem WrS.next {w W W' : World} {c : Cfg} {L L' : List ByteArray} {e : Ending} (h : WrS w c L W) (he : EachW (w.heap.size + 1) (w.heap.size + 1) L' W e W') : WrS w c L' W' :=
  ⟨he.2.1, h.2.1.trans (he.2.2.mono (by omega)), h.2.2.below he.2.2 (by omega)⟩
set_option maxRecDepth 100000 in
set_option maxHeartbeats 8000000 in
theorem lines_calls (c : Cfg) (w : World) (h : CfgAt w.heap.size c w) (hok : c.Ok) (hf : FewC c) (hv : VarT w) :
    Calls Tryz.prog 28 #[cfgV c] w (LinesW (linesS c) w) := by
  have hG : TLow (w.heap.size + 1) := hv.low (by omega)
  have HVR := hide (fun W (hW : Below w.heap.size w W) => (show VarT W from hv.below hW))
  have HCF := hide (fun W L (hW : WrS w c L W) => CfgAt.more (h.below hW.2.1) (Nat.le_succ w.heap.size))
  have HBC := hide (fun W L (hW : WrS w c L W) => hW.2.cells)
  obtain ⟨l1, hl1⟩ : ∃ l, l = c.parts.l.map fun x => ofL (partLn x) := ⟨_, rfl⟩
  obtain ⟨l2, hl2⟩ : ∃ l, l = c.wins.l.map fun x => ofL (winLn x) := ⟨_, rfl⟩
  obtain ⟨l3, hl3⟩ : ∃ l, l = c.regs.l.map fun x => ofL (regLn x) := ⟨_, rfl⟩
  obtain ⟨l4, hl4⟩ : ∃ l, l = c.ports.l.map fun x => ofL (portLn x) := ⟨_, rfl⟩
  obtain ⟨l5, hl5⟩ : ∃ l, l = c.chans.l.map fun x => ofL (chanLn x) := ⟨_, rfl⟩
  have n1 : l1.length ≤ 1024 := by rw [hl1, List.length_map]; exact hf.parts
  have n2 : l2.length ≤ 1024 := by rw [hl2, List.length_map]; exact hf.wins
  have n3 : l3.length ≤ 1024 := by rw [hl3, List.length_map]; exact hf.regs
  have n4 : l4.length ≤ 1024 := by rw [hl4, List.length_map]; exact hf.ports
  have hS : linesS c = l1 ++ l2 ++ l3 ++ l4 ++ l5 := by rw [hl1, hl2, hl3, hl4, hl5]; rfl
  rw [hS]
  have H1 := hide (fun W L (hW : WrS w c L W) (hL : L.length ≤ 900000) => each_part (w.heap.size + 1) (w.heap.size + 1) L c.parts W (HCF.out W L hW).parts hf.parts hW.1 hL (fun x hx V L' hV hw hl => Wpartition_calls (w.heap.size + 1) (w.heap.size + 1) L' x (hok.parts x hx) (hf.pnames x hx) V hw hl (HVR.out V (hW.2.1.trans (hV.mono (by omega)))) hG))
  have H2 := hide (fun W L (hW : WrS w c L W) (hL : L.length ≤ 900000) => each_win (w.heap.size + 1) (w.heap.size + 1) L c.wins W (HCF.out W L hW).wins hf.wins hW.1 hL (fun x hx V L' hV hw hl => Wwindow_calls (w.heap.size + 1) (w.heap.size + 1) L' x (hok.wins x hx) V hw hl (HVR.out V (hW.2.1.trans (hV.mono (by omega)))) hG))
  have H3 := hide (fun W L (hW : WrS w c L W) (hL : L.length ≤ 900000) => each_reg (w.heap.size + 1) (w.heap.size + 1) L c.regs W (HCF.out W L hW).regs hf.regs hW.1 hL (fun x hx V L' hV hw hl => Wregion_calls (w.heap.size + 1) (w.heap.size + 1) L' x (hok.regs x hx) (hf.rights x hx) V hw hl (HVR.out V (hW.2.1.trans (hV.mono (by omega)))) hG))
  have H4 := hide (fun W L (hW : WrS w c L W) (hL : L.length ≤ 900000) => each_port (w.heap.size + 1) (w.heap.size + 1) L c.ports W (HCF.out W L hW).ports hf.ports hW.1 hL (fun x hx V L' hV hw hl => Wport_calls (w.heap.size + 1) (w.heap.size + 1) L' x (hok.ports x hx) (hf.qnames x hx) V hw hl (HVR.out V (hW.2.1.trans (hV.mono (by omega)))) hG))
  have H5 := hide (fun W L (hW : WrS w c L W) (hL : L.length ≤ 900000) => each_chan (w.heap.size + 1) (w.heap.size + 1) L c.chans W (HCF.out W L hW).chans hf.chans hW.1 hL (fun x hx V L' hV hw hl => Wchannel_calls (w.heap.size + 1) (w.heap.size + 1) L' x (hok.chans x hx) (hf.links x hx) V hw hl (HVR.out V (hW.2.1.trans (hV.mono (by omega)))) hG (((HCF.out W L hW).dests x hx).below hV)))
  rw [← hl1] at H1
  rw [← hl2] at H2
  rw [← hl3] at H3
  rw [← hl4] at H4
  rw [← hl5] at H5
  have hb0 := Boxed1.start w c
  have HW0 : Hid (WrS w c [] ((w.alloc (.cells (cfgC c) 29)).alloc (.cells #[.slice none 0 0] 108))) := hide (by
    have hk := Blk.new (w.alloc (.cells (cfgC c) 29)) 108 #[.slice none 0 0]
    rw [World.size_alloc] at hk
    refine ⟨⟨_, hk, World.ownsRow_nil _ _ _ _, Nat.le_refl _, by simp, Nat.le_refl _, fun k hk => by simp [Value.ownBlock] at hk⟩, hb0.alloc _⟩)
  unfold cfgC at HW0
  unfold cfgV
  obtain ⟨LT, hLT⟩ : ∃ LT, LT = [] ++ l1 ++ l2 ++ l3 ++ l4 ++ l5 := ⟨_, rfl⟩
  have HLT := hide hLT
  have eS : l1 ++ l2 ++ l3 ++ l4 ++ l5 = LT := by rw [hLT]; simp
  have ES := hide eS
  clear h hok hf hv hG hl1 hl2 hl3 hl4 hl5 hS hb0 eS hLT
  go_enter Tryz.func28, Tryz.ntmps28
  obtain ⟨b0, b1, b2, b3, b4, b5⟩ := HBC.out _ _ HW0.out
  go_wp2_with (first
    | (go_at_call 54; refine (H1.out _ _ HW0.out (by simp)).mono ?_; rintro e w1 he; have hee := he.1; subst hee; have HW1 := hide (HW0.out.next he); clear he b0 b1 b2 b3 b4 b5; obtain ⟨b0, b1, b2, b3, b4, b5⟩ := HBC.out _ _ HW1.out)
    | (go_at_call 56; refine (H2.out _ _ HW1.out (by simp; omega)).mono ?_; rintro e w2 he; have hee := he.1; subst hee; have HW2 := hide (HW1.out.next he); clear he b0 b1 b2 b3 b4 b5; obtain ⟨b0, b1, b2, b3, b4, b5⟩ := HBC.out _ _ HW2.out)
    | (go_at_call 58; refine (H3.out _ _ HW2.out (by simp; omega)).mono ?_; rintro e w3 he; have hee := he.1; subst hee; have HW3 := hide (HW2.out.next he); clear he b0 b1 b2 b3 b4 b5; obtain ⟨b0, b1, b2, b3, b4, b5⟩ := HBC.out _ _ HW3.out)
    | (go_at_call 60; refine (H4.out _ _ HW3.out (by simp; omega)).mono ?_; rintro e w4 he; have hee := he.1; subst hee; have HW4 := hide (HW3.out.next he); clear he b0 b1 b2 b3 b4 b5; obtain ⟨b0, b1, b2, b3, b4, b5⟩ := HBC.out _ _ HW4.out)
    | (go_at_call 62; refine (H5.out _ _ HW4.out (by simp; omega)).mono ?_; rintro e w5 he; have hee := he.1; subst hee; have HW5 : Hid (WrS w c LT w5) := hide (by rw [HLT.out]; exact HW4.out.next he); clear he b0 b1 b2 b3 b4 b5; obtain ⟨v5, hv5, ho5, hg5, _, _, _⟩ := HW5.out.1; obtain ⟨a5, c5, hvs5⟩ := own_slice ho5; subst hvs5; have k5 : w5.cell? ⟨w.heap.size + 1, 0, none⟩ = some (.slice a5 _ c5) := hv5.cell 0; have HO5 := hide ho5; clear hv5 ho5 hg5))
  rw [ES.out]
  go_ret
  exact ⟨a5, c5, rfl, own_base HO5.out (Nat.le_succ _), HW5.out.2.1⟩
/-! ### Records and Print -/
theorem Boxed1.grown {w W W' : World} {c : Cfg} {row : Option Nat} (h : Boxed1 w c W) (hg : W.grownBy W' row) (hr : ∀ r, row = some r → w.heap.size + 1 ≤ r) : Boxed1 w c W' :=
  ⟨h.1.grown hg h.1.size (fun r e => by have := hr r e; omega), Blk.grown h.2 hg (fun e => by have := hr _ e.symm; omega)⟩
theorem strs_all (l : List ByteArray) : ∀ u ∈ strsV l, u.oneCell' = true := by
  intro u hu
  unfold strsV at hu
  obtain ⟨s, _, rfl⟩ := List.mem_map.mp hu
  rfl
set_option maxRecDepth 100000 in
set_option maxHeartbeats 4000000 in
theorem SRecords_calls (c : Cfg) (w : World) (h : CfgAt w.heap.size c w) (hok : c.Ok) (hf : FewC c) (hv : VarT w) :
    Calls Tryz.prog 12 #[cfgV c] w fun e w' => e = .returned (.string (ofL (recordsL c))) ∧ Below w.heap.size w w' := by
  have hB0 := Boxed1.start w c
  have HLN := hide (lines_calls c _ (hB0.cfg h) hok hf (hv.below hB0.1))
  have HB0 := hide hB0
  have hTX := fun W a k base (ho : W.ownsRow base 9 1 (.slice a (linesS c).length k) (linesS c).length (strsV (linesS c))) => text_calls ⟨#[]⟩ (linesS c) a k base W ho (by have := lines_num hf; omega) (by decide) (by have := text_len [] (linesS c) (by decide) (by have := lines_num hf; omega) (lines_len hok hf); exact Nat.le_trans this (by decide)) (fun s hs => by have := lines_len hok hf s hs; omega)
  rw [show (textB (⟨#[]⟩ : ByteArray).data.toList (bytesOf (linesS c))) = recordsL c by rw [linesS_eq]; rfl] at hTX
  have HTX := hide hTX
  generalize recordsL c = R at *
  generalize linesS c = LS at *
  unfold cfgC at HLN HB0
  unfold cfgV at HLN ⊢
  clear h hok hf hv hB0 hTX
  go_enter Tryz.func12, Tryz.ntmps12
  go_wp2_with (first
    | (go_at_call 28; refine HLN.out.mono ?_; rintro e w1 ⟨a, k, rfl, ho, hb⟩; have HO := hide ho; have HB1 := hide (HB0.out.below hb); clear ho hb)
    | (go_at_call 26; refine (HTX.out _ _ _ _ HO.out).mono ?_; rintro e w2 ⟨rfl, hb2⟩; have HB2 := hide (HB1.out.below hb2); clear hb2))
  go_ret
  exact ⟨rfl, HB2.out.1⟩
set_option maxRecDepth 100000 in
set_option maxHeartbeats 8000000 in
theorem SPrint_calls (c : Cfg) (w : World) (h : CfgAt w.heap.size c w) (hok : c.Ok) (hf : FewC c) (hv : VarT w) :
    Calls Tryz.prog 10 #[cfgV c] w fun e w' => e = .returned (.string (ofL (printL c))) ∧ Below w.heap.size w w' := by
  have hB0 := Boxed1.start w c
  obtain ⟨i0, hi, hz0, hz1, hz2⟩ := info_parts string_info
  have HI := hide hi
  have HLN := hide (fun W (hW : Hid (Boxed1 w c W)) => lines_calls c W (hW.out.cfg h) hok hf (hv.below hW.out.1))
  have HBC := hide (fun W (hW : Boxed1 w c W) => hW.cells)
  have hfr : c.frame < 18446744073709551616 := hok.frame
  have HC0 := hide (fun W (hW : Hid (Boxed1 w c W)) => Decimal_calls c.frame hfr W (hv.below hW.out.1).1)
  obtain ⟨s0, hs0⟩ : ∃ s, s = ofL (numB c.frame) := ⟨_, rfl⟩
  have e0 : (⟨(digL 10 c.frame).toArray⟩ : ByteArray) = s0 := hs0.symm
  rw [e0] at HC0
  have z0 : s0.size ≤ 20 := by rw [hs0, ofL_size]; exact num_size hfr
  obtain ⟨F, hF⟩ : ∃ F, F = ((⟨#[102, 114, 97, 109, 101, 32]⟩ : ByteArray) ++ s0) ++ ⟨#[59]⟩ := ⟨_, rfl⟩
  have zF : F.size ≤ 40 := by rw [hF]; simp only [ByteArray.size_append]; simp only [lit_size, List.length_cons, List.length_nil]; omega
  have q0 : (9223372036854775807 < 6 + s0.size) = False := by simp; omega
  have q1 : (9223372036854775807 < 6 + s0.size + 1) = False := by simp; omega
  have hFL : ∀ s ∈ F :: linesS c, s.size ≤ 25000 := by
    intro s hs
    rcases List.mem_cons.mp hs with rfl | hs
    · omega
    · exact lines_len hok hf s hs
  have hn5 := lines_num hf
  obtain ⟨LS, hLS⟩ : ∃ LS, LS = linesS c := ⟨_, rfl⟩
  rw [← hLS] at HLN hFL hn5
  have hTL : (textB [9] (bytesOf (F :: LS))).length ≤ 200000000 := text_len [9] (F :: LS) (by decide) (by rw [List.length_cons]; omega) hFL
  obtain ⟨X, hX⟩ : ∃ X, X = ofL (textB [9] (bytesOf (F :: LS))) := ⟨_, rfl⟩
  have zX : X.size ≤ 200000000 := by rw [hX, ofL_size]; exact hTL
  have q2 : (9223372036854775807 < 9 + X.size) = False := by simp; omega
  have q3 : (9223372036854775807 < 9 + X.size + 2) = False := by simp; omega
  have HTX : Hid (∀ W a k, W.ownsRow (w.heap.size + 1) 9 1 (.slice a (1 + LS.length) k) (1 + LS.length) (strsV (F :: LS)) → Calls Tryz.prog 26 #[.string ⟨#[9]⟩, .slice a (1 + LS.length) k] W fun e w' => e = .returned (.string X) ∧ Below W.heap.size W w') := hide (fun W a k ho => by
    rw [hX]
    rw [Nat.add_comm 1 LS.length] at ho ⊢
    exact text_calls ⟨#[9]⟩ (F :: LS) a k (w.heap.size + 1) W ho (by rw [List.length_cons]; omega) (by decide) (Nat.le_trans hTL (by decide)) (fun s hs => Nat.le_trans (hFL s hs) (by decide)))
  have HFIN : Hid (((⟨#[109, 111, 100, 117, 108, 101, 32, 123, 10]⟩ : ByteArray) ++ X) ++ ⟨#[125, 10]⟩ = ofL (printL c)) := hide (by
    apply bytes_eq
    have hb : bytesOf (F :: LS) = frameB c.frame :: linesL c := by
      rw [← linesS_eq, ← hLS]
      show F.data.toList :: bytesOf LS = _
      rw [hF]
      simp only [list_append, hs0, ofL_list]
      rfl
    simp only [list_append, hX, ofL_list, hb]
    simp [printL])
  have HF := hide hF
  generalize printL c = PR at *
  have HB1 : Hid (Boxed1 w c (w.alloc (.cells (cfgC c) 29)).drew) := hide ⟨Below.drew hB0.1, Blk.drew hB0.2⟩
  have mixed := mixed_prog
  unfold cfgC at HB1
  unfold cfgV at HLN ⊢
  have HN5 := hide hn5
  clear h hok hf hv hB0 hi hfr hs0 e0 hF hFL hn5 hLS hTL hX
  go_enter Tryz.func10, Tryz.ntmps10
  go_wp2
  go_region_held3 (fun w' => (w'.cell? ⟨w.heap.size, 0, none⟩ = some (.int .u64 (c.frame : Int)) ∧ w'.cell? ⟨w.heap.size, 1, none⟩ = some (.slice c.parts.a c.parts.l.length c.parts.c) ∧ w'.cell? ⟨w.heap.size, 2, none⟩ = some (.slice c.wins.a c.wins.l.length c.wins.c) ∧ w'.cell? ⟨w.heap.size, 3, none⟩ = some (.slice c.regs.a c.regs.l.length c.regs.c) ∧ w'.cell? ⟨w.heap.size, 4, none⟩ = some (.slice c.ports.a c.ports.l.length c.ports.c) ∧ w'.cell? ⟨w.heap.size, 5, none⟩ = some (.slice c.chans.a c.chans.l.length c.chans.c)))
    (first | with_reducible assumption | with_reducible exact HBC.out _ HB1.out | with_reducible exact HBC.out _ (Hid.out (by with_reducible assumption)) | with_reducible exact HBC.out _ (Boxed1.alloc (Hid.out (by with_reducible assumption)) _) | fail)
    (first
    | (go_at_call 27; refine (HC0.out _ HB1).mono ?_; rintro e w2 ⟨rfl, hb⟩; have HB2 := hide (HB1.out.below hb); clear hb)
    | (go_at_call 28; (first | refine (HLN.out _ HB2).mono ?_ | refine (HLN.out _ (hide (HB2.out.alloc _))).mono ?_); rintro e w3 ⟨a3, k3, rfl, ho3, hb3⟩; have HB3 : Hid (Boxed1 w c w3) := hide (by first | exact HB2.out.below hb3 | exact (HB2.out.alloc _).below hb3); have HO3 := hide ho3; (try have HN3 : Hid (w3.ownsRow (w.heap.size + 1) 9 1 (.slice (some ⟨w2.heap.size, 0, none⟩) 1 1) 1 [.string (((⟨#[102, 114, 97, 109, 101, 32]⟩ : ByteArray) ++ s0) ++ ⟨#[59]⟩)]) := hide (own_below (own_new w2 (w.heap.size + 1) 9 #[.string (((⟨#[102, 114, 97, 109, 101, 32]⟩ : ByteArray) ++ s0) ++ ⟨#[59]⟩)] HB2.out.2.lt (by simp [maxLen])) hb3)); clear ho3 hb3)
    | (refine step_append_any _ rfl (.tmp 8) (.tmp 10) 34 rfl (w.heap.size + 1) 9 i0 _ 1 16 Tryz.underlying34 HI.out hz0 hz1 hz2 rfl (by decide) (.slice (some ⟨w2.heap.size, 0, none⟩) 1 1) 1 [.string (((⟨#[102, 114, 97, 109, 101, 32]⟩ : ByteArray) ++ s0) ++ ⟨#[59]⟩)] ?hsA ?howA w3.heap.size a3 LS.length k3 (strsV LS) ?hxA ?hrA (strs_all LS) ?h63A ?hbyA ?hbaA ?hhA; (case hsA => (simp [Act.eval])); (case hxA => (simp [Act.eval])); (case howA => (exact HN3.out)); (case hrA => (exact Reads.of_own HO3.out)); (case h63A => (simp only [maxLen]; have := HN5.out; omega)); (case hbyA => (have := HN5.out; omega)); (case hbaA => (have := HB3.out.2.lt; (try rw [World.size_alloc]); omega)); intro v4 w4 ho4 hg4 hat4; obtain ⟨a4, c4, hv4⟩ := own_slice ho4; subst hv4; have HO4 : Hid (w4.ownsRow (w.heap.size + 1) 9 1 (.slice a4 (1 + LS.length) c4) (1 + LS.length) (strsV (F :: LS))) := hide (by rw [HF.out]; exact ho4); have HB4 : Hid (Boxed1 w c w4) := hide (Boxed1.grown HB3.out hg4 (fun r hr => by simp [Value.ownBlock] at hr; have := HB2.out.2.lt; omega)); clear ho4 hg4 hat4)
    | (refine step_append_any _ rfl (.tmp 8) (.tmp 10) 34 rfl (w.heap.size + 1) 9 i0 _ 1 16 Tryz.underlying34 HI.out hz0 hz1 hz2 rfl (by decide) (.slice (some ⟨w3.heap.size, 0, none⟩) 1 1) 1 [.string (((⟨#[102, 114, 97, 109, 101, 32]⟩ : ByteArray) ++ s0) ++ ⟨#[59]⟩)] ?hsB ?howB (w3.alloc (.cells #[.string (((⟨#[102, 114, 97, 109, 101, 32]⟩ : ByteArray) ++ s0) ++ ⟨#[59]⟩)] 9)).heap.size a3 LS.length k3 (strsV LS) ?hxB ?hrB (strs_all LS) ?h63B ?hbyB ?hbaB ?hhB; (case hsB => (simp [Act.eval])); (case hxB => (simp [Act.eval])); (case howB => (exact own_new w3 (w.heap.size + 1) 9 #[.string (((⟨#[102, 114, 97, 109, 101, 32]⟩ : ByteArray) ++ s0) ++ ⟨#[59]⟩)] HB3.out.2.lt (by simp [maxLen]))); (case hrB => (exact Reads.of_own (HO3.out.alloc _))); (case h63B => (simp only [maxLen]; have := HN5.out; omega)); (case hbyB => (have := HN5.out; omega)); (case hbaB => (have := HB3.out.2.lt; (try rw [World.size_alloc]); omega)); intro v4 w4 ho4 hg4 hat4; obtain ⟨a4, c4, hv4⟩ := own_slice ho4; subst hv4; have HO4 : Hid (w4.ownsRow (w.heap.size + 1) 9 1 (.slice a4 (1 + LS.length) c4) (1 + LS.length) (strsV (F :: LS))) := hide (by rw [HF.out]; exact ho4); have HB4 : Hid (Boxed1 w c w4) := hide (Boxed1.grown (HB3.out.alloc _) hg4 (fun r hr => by simp [Value.ownBlock] at hr; have := HB3.out.2.lt; omega)); clear ho4 hg4 hat4)
    | (go_at_call 26; refine (HTX.out _ _ _ HO4.out).mono ?_; rintro e w5 ⟨rfl, hb5⟩; have HB5 := hide (HB4.out.below hb5); clear hb5))
  all_goals
    go_wp2
    go_ret
    exact ⟨ret_s HFIN.out, HB5.out.1⟩
end Go.Proofs.YtcnihmlmaigkdaaGreatDoor
namespace Go.Proofs.YtcnihmlmaigkdaaGreatDoor
open Go.RowKit Go.Lib Go.Sort
set_option linter.unusedVariables false

theorem links_mem : ∀ {l : List ChanR} {x : ChanR}, x ∈ l → x.dests.length ≤ linksN l
  | y :: l, x, h => by
    have e : linksN (y :: l) = y.dests.length + linksN l := by simp [linksN]
    rw [e]
    rcases List.mem_cons.mp h with rfl | h
    · omega
    · have := links_mem h
      omega
theorem few_fit {c : Cfg} (hok : c.Ok) (hf : fewB c = true) : FitC c := by
  unfold fewB at hf
  simp only [Bool.and_eq_true, decide_eq_true_eq, List.all_eq_true] at hf
  obtain ⟨⟨hp, hq⟩, hs⟩ := hf
  unfold sumN at hs
  refine ⟨hok, by omega, by omega, by omega, by omega, by omega, fun x hx => ?_, fun x hx => ?_, fun x hx => ?_⟩
  · have := hp x hx; unfold shortP at this; simp at this; omega
  · have := hq x hx; unfold shortQ at this; simp at this; omega
  · have := links_mem hx; omega
theorem small_few {c : Cfg} (hok : c.Ok) (hf : fewB c = true) (hw : withinB c = true) : FewC c := by
  have hg := within_good hw
  unfold fewB at hf
  simp only [Bool.and_eq_true, decide_eq_true_eq, List.all_eq_true] at hf
  obtain ⟨⟨hp, hq⟩, hs⟩ := hf
  unfold sumN at hs
  refine ⟨by omega, by omega, by omega, by omega, by omega, fun x hx => ?_, fun x hx => ?_, fun x hx => ?_, fun x hx => hg.regs x hx⟩
  · have := links_mem hx; omega
  · have := hp x hx; unfold shortP at this; simp at this; omega
  · have := hq x hx; unfold shortQ at this; simp at this; omega
def smallB (c : Cfg) : Bool := fewB c && withinB c
theorem small_both {c : Cfg} (h : smallB c = true) : fewB c = true ∧ withinB c = true := by
  unfold smallB at h
  rwa [Bool.and_eq_true] at h
set_option maxRecDepth 100000 in
set_option maxHeartbeats 4000000 in
theorem Small_calls (c : Cfg) (w : World) (h : CfgAt w.heap.size c w) (hok : c.Ok) (hsm : c.Small) :
    Calls Tryz.prog 8 #[cfgV c] w fun e w' => e = .returned (.bool (smallB c)) ∧ Below w.heap.size w w' := by
  have hB0 := Boxed1.start w c
  have HFE := hide (Few_calls c _ (hB0.cfg h) hok hsm)
  have hwi := fun (hf : fewB c = true) W (hW : Boxed1 w c W) => RWithin_calls c W (hW.cfg h) (few_fit hok hf) hsm
  have HBC := hide (fun W (hW : Boxed1 w c W) => hW.cells)
  have HB0 := hide hB0
  unfold cfgC at HFE HB0
  unfold smallB
  unfold cfgV at HFE hwi ⊢
  generalize withinB c = R at *
  generalize fewB c = F at *
  cases F
  · clear h hok hsm hB0 hwi
    go_enter Tryz.func8, Tryz.ntmps8
    go_wp2_with (go_at_call 24; refine HFE.out.mono ?_; rintro e w1 ⟨rfl, hb⟩; have HB1 := hide (HB0.out.below hb); clear hb)
    go_ret
    exact ⟨rfl, HB1.out.1⟩
  · have HWI := hide (hwi rfl)
    clear h hok hsm hB0 hwi
    go_enter Tryz.func8, Tryz.ntmps8
    go_wp2_with (first
      | (go_at_call 24; refine HFE.out.mono ?_; rintro e w1 ⟨rfl, hb⟩; have HB1 := hide (HB0.out.below hb); obtain ⟨b0, b1, b2, b3, b4, b5⟩ := HBC.out w1 HB1.out; clear hb)
      | (go_at_call 25; refine (HWI.out _ HB1.out).mono ?_; rintro e w2 ⟨rfl, hb⟩; have HB2 := hide (HB1.out.below hb); clear hb))
    go_ret
    exact ⟨rfl, HB2.out.1⟩
end Go.Proofs.YtcnihmlmaigkdaaGreatDoor
namespace Go.Proofs.YtcnihmlmaigkdaaGreatDoor
open Go.RowKit Go.Lib Go.Sort
set_option linter.unusedVariables false

/-- The numbers of the records of the sections ahead of section s. -/
def sumC (c : Cfg) (s : Nat) : Nat := ((List.range s).map (cntN c)).sum
theorem sumC_succ (c : Cfg) (k : Nat) : sumC c (k + 1) = sumC c k + cntN c k := by unfold sumC; rw [List.range_succ]; simp
theorem cnt_at (c : Cfg) (k : Nat) (hk : k ≤ 6) : (#[.int .i64 0, .int .i64 (c.parts.l.length : Int), .int .i64 (c.wins.l.length : Int), .int .i64 (c.regs.l.length : Int), .int .i64 (c.ports.l.length : Int), .int .i64 (c.chans.l.length : Int), .int .i64 (linksN c.chans.l : Int)] : Array Value)[k]? = some (.int .i64 (cntN c k : Int)) := by
  have : k = 0 ∨ k = 1 ∨ k = 2 ∨ k = 3 ∨ k = 4 ∨ k = 5 ∨ k = 6 := by omega
  rcases this with rfl | rfl | rfl | rfl | rfl | rfl | rfl <;> rfl
theorem cnt_small {c : Cfg} (h : c.Small) (k : Nat) (hk : k ≤ 6) : cntN c k ≤ 1048576 := by
  unfold Cfg.Small at h
  have : k = 0 ∨ k = 1 ∨ k = 2 ∨ k = 3 ∨ k = 4 ∨ k = 5 ∨ k = 6 := by omega
  rcases this with rfl | rfl | rfl | rfl | rfl | rfl | rfl <;> simp only [cntN, List.getD_cons_zero, List.getD_cons_succ] <;> omega
theorem sumC_small {c : Cfg} (h : c.Small) : ∀ k, k ≤ 6 → sumC c k ≤ k * 1048576
  | 0, _ => Nat.le_refl _
  | k + 1, hk => by
    have h1 := sumC_small h k (by omega)
    have h2 := cnt_small h k (by omega)
    rw [sumC_succ]
    omega
set_option maxRecDepth 100000 in
set_option maxHeartbeats 4000000 in
theorem Line_in (c : Cfg) (s i : Nat) (w : World) (h : CfgAt w.heap.size c w) (hsm : c.Small) (hs1 : 1 ≤ s) (hs5 : s ≤ 5) (hi : i < cntN c s) :
    Calls Tryz.prog 18 #[cfgV c, .int .i64 (s : Int), .int .i64 (i : Int)] w fun e w' => e = .returned (.int .i64 ((3 + i + sumC c s : Nat) : Int)) ∧ Below w.heap.size w w' := by
  have hB0 := Boxed1.start w c
  have HCT := hide (PCounts_calls c _ (hB0.cfg h) hsm)
  have HB0 := hide hB0
  have hcs := cnt_small hsm s (by omega)
  have HSM := hide (fun k hk => sumC_small hsm k hk)
  have HCK := hide (fun k hk => cnt_small hsm k hk)
  have HCC := hide (fun k hk => cnt_at c k hk)
  have hcl := fun (W : World) k (hk : k ≤ 6) => (Blk.new W 37 #[.int .i64 0, .int .i64 (c.parts.l.length : Int), .int .i64 (c.wins.l.length : Int), .int .i64 (c.regs.l.length : Int), .int .i64 (c.ports.l.length : Int), .int .i64 (c.chans.l.length : Int), .int .i64 (linksN c.chans.l : Int)]).cell k |>.trans (cnt_at c k hk)
  have HCL := hide hcl
  have i1 : ¬ ((s : Int) < 1) := by omega
  have i2 : ¬ ((5 : Int) < (s : Int)) := by omega
  have i3 : ¬ ((i : Int) < 0) := by omega
  have i4 : ¬ ((cntN c s : Int) ≤ (i : Int)) := by omega
  have i5 : (s : Int) < 7 := by omega
  have i6 : (s : Int) ≤ 7 := by omega
  have i7 : (0 : Int) ≤ (s : Int) := by omega
  have HSC := hide (fun k => sumC_succ c k)
  have HS5 := hide hs5
  have hiI : (i : Int) ≤ 1048576 := by omega
  unfold cfgC at HCT HB0
  unfold cfgV countsV at HCT
  unfold cfgV
  clear h hsm hB0 hcl hs1 hi hs5
  go_enter Tryz.func18, Tryz.ntmps18
  go_wp2_with (go_at_call 37; refine HCT.out.mono ?_; rintro e w1 ⟨rfl, hb⟩; have HB1 := hide (HB0.out.below hb); have a0 := HCL.out w1 s (by have := HS5.out; omega); clear hb)
  have HB2 := hide (HB1.out.1.alloc HB1.out.1.size (.cells #[.int .i64 0, .int .i64 (c.parts.l.length : Int), .int .i64 (c.wins.l.length : Int), .int .i64 (c.regs.l.length : Int), .int .i64 (c.ports.l.length : Int), .int .i64 (c.chans.l.length : Int), .int .i64 (linksN c.chans.l : Int)] 37))
  have HCW := hide (HCL.out w1)
  generalize w1.alloc (.cells #[.int .i64 0, .int .i64 (c.parts.l.length : Int), .int .i64 (c.wins.l.length : Int), .int .i64 (c.regs.l.length : Int), .int .i64 (c.ports.l.length : Int), .int .i64 (c.chans.l.length : Int), .int .i64 (linksN c.chans.l : Int)] 37) = W2 at *
  generalize w1.heap.size = g1 at *
  have hA0 : ∃ A, A = 3 + i := ⟨_, rfl⟩
  obtain ⟨A, hA⟩ := hA0
  have hAI : (3 : Int) + (i : Int) = (A : Int) := by omega
  have hA2 : A ≤ 1048580 := by omega
  rw [hAI]
  have HA := hide hA
  clear hAI hA a0 HB0 HB1 HCT
  go_loop [8, 35] (fun l v => ∃ (k L : Nat), k ≤ s ∧ v = .int .i64 (k : Int) ∧ l = .int .i64 (L : Int) ∧ Hid (L = A + sumC c k)) (fun _ v => s - (intOf v).toNat)
  case atStart => exact ⟨0, A, Nat.zero_le _, rfl, rfl, hide (by simp [sumC])⟩
  case round =>
    obtain ⟨k, L, hk, rfl, rfl, hrel⟩ := hrel
    by_cases hlt : k < s
    · have hlt2 : (k : Int) < (s : Int) := by omega
      have hk6 : k ≤ 6 := by have := HS5.out; omega
      have x0 := HCW.out k hk6
      have hm := HCK.out k hk6
      have hsu := HSM.out k hk6
      have hL : L ≤ 9000000 := by have := hrel.out; omega
      have HR : Hid (L + cntN c k = A + sumC c (k + 1)) := hide (by rw [HSC.out, hrel.out]; omega)
      clear hrel hsu
      generalize cntN c k = m at *
      go_wp2
      go_round
      case rel => exact ⟨k + 1, L + m, by omega, by go_num, by go_num, HR⟩
      case measure => simp [intOf]; omega
    · obtain rfl : k = s := by omega
      have hLe : L = 3 + i + sumC c k := by rw [hrel.out, HA.out]
      subst hLe
      clear hrel
      go_wp2
      go_ret
      exact ⟨rfl, HB2.out⟩
end Go.Proofs.YtcnihmlmaigkdaaGreatDoor
