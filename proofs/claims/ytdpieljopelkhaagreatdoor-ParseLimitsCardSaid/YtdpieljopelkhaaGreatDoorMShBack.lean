/- The parser reads a configuration's tokens back (chapter 08, ShowInverse). No program in sight. Chapter 07: a record, many times (ParseLimits). No program in sight. Chapter 07: the tokens of a record written many times, and what the parser makes of them (ParseLimits). No program in sight. -/
import Derived.Test.YtdpieljopelkhaaGreatDoorMPaLike
import Derived.KernelRfl
namespace Go.Proofs.YtdpieljopelkhaaGreatDoor
open Go.Lib
set_option linter.unusedVariables false

def tkn (x : Un) : Token := ⟨x.1, x.2.1, x.2.2, 0, 0⟩
theorem bind_ok {α β : Type} {m : PM α} {f : α → PM β} {l r : List Token} {a : α} (h : m l = .ok (a, r)) : bindT m f l = f a r := by
  unfold bindT; rw [h]
/-! ### All records -/
/-- What a reader of records does with the tokens of some records, whatever follows. -/
def Back (f : Nat) (c c2 : PC) (M : List (List Un)) : Prop := ∀ r, recordsT (M.length + f) c (M.flatten.map tkn ++ r) = recordsT f c2 r
theorem Back.app {f : Nat} {c c2 c3 : PC} {M N : List (List Un)} (h : Back (N.length + f) c c2 M) (k : Back f c2 c3 N) : Back f c c3 (M ++ N) := fun r => by
  rw [List.length_append, Nat.add_assoc, List.flatten_append, List.map_append, List.append_assoc, h, k]
theorem Back.cons {f : Nat} {c c2 c3 : PC} {w : List UInt8} {a : List Un} {M : List (List Un)} {k : Nat} (ha : a.head? = some (lit w)) (hs : sectN w = k) (hk : 0 < k) (hr : ∀ r, recordT k c (a.map tkn ++ r) = .ok (c2, r)) (h : Back f c2 c3 M) : Back f c c3 (a :: M) := fun r => by
  obtain ⟨t, rfl⟩ : ∃ t, a = lit w :: t := by
    cases a with
    | nil => cases ha
    | cons x t => injection ha with ha; exact ⟨t, by rw [ha]⟩
  rw [List.length_cons, List.flatten_cons, List.map_append, List.append_assoc, show M.length + 1 + f = (M.length + f) + 1 by omega, List.map_cons, List.cons_append, recordsT]
  have h1 : (tkn (lit w)).kind = 1 ∧ 0 < sectN (tkn (lit w)).text := ⟨rfl, by show 0 < sectN w; omega⟩
  simp only
  rw [if_pos h1]
  have h2 := hr (M.flatten.map tkn ++ r)
  rw [List.map_cons, List.cons_append] at h2
  rw [show sectN (tkn (lit w)).text = k from hs, h2]
  exact h r
/-! ### The whole -/
end Go.Proofs.YtdpieljopelkhaaGreatDoor
namespace Go.Proofs.YtdpieljopelkhaaGreatDoor
open Go.Lib
set_option linter.unusedVariables false

/-- The record without its line feed, and its tokens. -/
def recA : ByteArray := ⟨#[119, 105, 110, 100, 111, 119, 32, 49, 123, 115, 116, 97, 114, 116, 32, 48, 59, 108, 101, 110, 103, 116, 104, 32, 49, 59, 125]⟩
def recK : List Token := [⟨1, [119, 105, 110, 100, 111, 119], 0, 1, 1⟩, ⟨2, [49], 1, 1, 8⟩, ⟨4, [123], 0, 1, 9⟩, ⟨1, [115, 116, 97, 114, 116], 0, 1, 10⟩, ⟨2, [48], 0, 1, 16⟩, ⟨4, [59], 0, 1, 17⟩, ⟨1, [108, 101, 110, 103, 116, 104], 0, 1, 18⟩, ⟨2, [49], 1, 1, 25⟩, ⟨4, [59], 0, 1, 26⟩, ⟨4, [125], 0, 1, 27⟩]
/-- The tokens of n records. -/
def repK : Nat → List Token
  | 0 => [⟨0, [], 0, 1, 1⟩]
  | n + 1 => recK ++ (repK n).map (shiftT 1)
def recW : WinR := ⟨0, 1, 1⟩
theorem rep_step {c : PC} (k : Nat) (r : List Token) (h : c.wins.length < 1024) : recordT 2 c (recK.map (shiftT k) ++ r) = .ok ({ c with wins := c.wins ++ [recW] }, r) := by
  have hl : ¬ limN 2 ≤ cntK c 2 := by show ¬ 1024 ≤ c.wins.length; omega
  have h1 : takeT 1 (recK.map (shiftT k) ++ r) = .ok ((⟨1, [119, 105, 110, 100, 111, 119], 0, 1 + k, 1⟩ : Token), (recK.tail).map (shiftT k) ++ r) := rfl
  unfold recordT
  rw [bind_ok h1]
  rw [if_neg hl]
  rfl
theorem rep_full {c : PC} (k : Nat) (r : List Token) (h : c.wins.length = 1024) : recordT 2 c (recK.map (shiftT k) ++ r) = .error (7, 1 + k, 1) := by
  have hl : limN 2 ≤ cntK c 2 := by show 1024 ≤ c.wins.length; omega
  have h1 : takeT 1 (recK.map (shiftT k) ++ r) = .ok ((⟨1, [119, 105, 110, 100, 111, 119], 0, 1 + k, 1⟩ : Token), (recK.tail).map (shiftT k) ++ r) := rfl
  unfold recordT
  rw [bind_ok h1]
  rw [if_pos hl]
theorem shift_shift (a b : Nat) (l : List Token) : (l.map (shiftT a)).map (shiftT b) = l.map (shiftT (b + a)) := by
  rw [List.map_map]
  congr 1
  funext t
  show shiftT b (shiftT a t) = shiftT (b + a) t
  unfold shiftT
  simp only [Token.mk.injEq, true_and, and_true]
  omega
theorem rec_head (k : Nat) (r : List Token) (f : Nat) (c : PC) : recordsT (f + 1) c (recK.map (shiftT k) ++ r) = match recordT 2 c (recK.map (shiftT k) ++ r) with
    | .error e => .error e
    | .ok (c2, s) => recordsT f c2 s := by
  conv => lhs; unfold recordsT
  rfl
theorem rep_ok : ∀ (n f k : Nat) (c : PC), n < f → c.wins.length + n ≤ 1024 → recordsT f c ((repK n).map (shiftT k)) = .ok ({ c with wins := c.wins ++ List.replicate n recW }, [⟨0, [], 0, 1 + (n + k), 1⟩])
  | 0, f, k, c, hf, hn => by
    obtain ⟨f, rfl⟩ : ∃ g, f = g + 1 := ⟨f - 1, by omega⟩
    simp [repK, shiftT, recordsT]
  | n + 1, f, k, c, hf, hn => by
    obtain ⟨f, rfl⟩ : ∃ g, f = g + 1 := ⟨f - 1, by omega⟩
    rw [repK, List.map_append, shift_shift, rec_head, rep_step k _ (by omega)]
    simp only
    rw [rep_ok n f (k + 1) { c with wins := c.wins ++ [recW] } (by omega) (by simp; omega)]
    simp [List.replicate_succ]
    omega
theorem rep_bad : ∀ (n f k : Nat) (c : PC), n < f → c.wins.length + n = 1025 → 1 ≤ n → c.wins.length ≤ 1024 → recordsT f c ((repK n).map (shiftT k)) = .error (7, n + k, 1)
  | 0, f, k, c, hf, hn, h1, _ => by omega
  | n + 1, f, k, c, hf, hn, h1, hc => by
    obtain ⟨f, rfl⟩ : ∃ g, f = g + 1 := ⟨f - 1, by omega⟩
    rw [repK, List.map_append, shift_shift, rec_head]
    by_cases hz : n = 0
    · subst hz
      rw [rep_full k _ (by omega)]
      try simp only
      try rw [show 0 + 1 + k = 1 + k by omega]
    · rw [rep_step k _ (by omega)]
      simp only
      rw [rep_bad n f (k + 1) { c with wins := c.wins ++ [recW] } (by omega) (by simp; omega) (by omega) (by simp; omega)]
      rw [show n + (k + 1) = n + 1 + k by omega]
end Go.Proofs.YtdpieljopelkhaaGreatDoor
namespace Go.Proofs.YtdpieljopelkhaaGreatDoor
open Go.Lib
set_option linter.unusedVariables false

def recN : Nat → List UInt8
  | 0 => []
  | n + 1 => recA.data.toList ++ 10 :: recN n
set_option maxRecDepth 100000 in
theorem rec_toks : toks recA (recA.size + 1) 0 = .ok (recK ++ [⟨0, [], 0, 1, 28⟩]) := by kernel_rfl
theorem nil_toks : toks ⟨#[]⟩ ((⟨#[]⟩ : ByteArray).size + 1) 0 = .ok [⟨0, [], 0, 1, 1⟩] := by kernel_rfl
theorem ba_eq {s t : ByteArray} (h : s.data.toList = t.data.toList) : s = t := by
  cases s with
  | mk x => cases t with
    | mk y => exact congrArg ByteArray.mk (Array.toList_inj.1 h)
theorem rep_toks : ∀ (n : Nat) (s : ByteArray), s.data.toList = recN n → toks s (s.size + 1) 0 = .ok (repK n)
  | 0, s, h => by
    have : s = ⟨#[]⟩ := ba_eq h
    subst this
    exact nil_toks
  | n + 1, s, h => by
    have hT : (⟨(recN n).toArray⟩ : ByteArray).data.toList = recN n := by simp
    have hy := rep_toks n ⟨(recN n).toArray⟩ hT
    have hA : s.data.toList = recA.data.toList ++ 10 :: (⟨(recN n).toArray⟩ : ByteArray).data.toList := by rw [hT]; exact h
    have hj := (toks_join recA ⟨(recN n).toArray⟩ s hA _ hy (recA.size + 1) 0 _ (Nat.zero_le _) (by omega) rec_toks (s.size + 1) (by omega)).1
    rw [hj]
    have hc : recA.data.toList.count 10 = 0 := by decide
    rw [hc, List.dropLast_concat]
    rfl
theorem recN_len : ∀ n, (recN n).length = 28 * n
  | 0 => rfl
  | n + 1 => by
    rw [recN, List.length_append, List.length_cons, recN_len n]
    have : recA.data.toList.length = 27 := rfl
    omega
theorem repK_len : ∀ n, (repK n).length = 10 * n + 1
  | 0 => rfl
  | n + 1 => by
    rw [repK, List.length_append, List.length_map, repK_len n]
    have : recK.length = 10 := rfl
    omega
theorem shift_zero (l : List Token) : l.map (shiftT 0) = l := by
  conv => rhs; rw [← List.map_id l]
  exact List.map_congr_left (fun t _ => rfl)
theorem rep_out (n : Nat) (s : ByteArray) (h : s.data.toList = recN n) (hn : n ≤ 2000) : outOf s = .ok (repK n) := by
  unfold outOf
  have hs : s.size = 28 * n := by rw [Lib.size_eq, h, recN_len]
  rw [if_pos (by omega), rep_toks n s h]
/-- As many records as a configuration takes. -/
theorem rep_fine (n : Nat) (s : ByteArray) (h : s.data.toList = recN n) (hn : n ≤ 1024) : parseRO s = .ok { zeroPC with wins := List.replicate n recW } := by
  unfold parseRO
  rw [rep_out n s h (by omega)]
  simp only
  unfold parseRecT endT allRecT
  have h1 := rep_ok n (repK n).length 0 zeroPC (by rw [repK_len]; omega) (by simp [zeroPC]; exact hn)
  rw [shift_zero] at h1
  rw [h1]
  simp [takeT, zeroPC]
/-- One record more. -/
theorem rep_over (n : Nat) (hn : n = 1025) (s : ByteArray) (h : s.data.toList = recN n) : parseRO s = .error (7, n, 1) := by
  have hc : zeroPC.wins.length + n = 1025 := by rw [hn]; rfl
  have hn2 : n ≤ 2000 := by omega
  have hn1 : 1 ≤ n := by omega
  clear hn
  unfold parseRO
  rw [rep_out n s h hn2]
  simp only
  unfold parseRecT endT allRecT
  have h1 := rep_bad n (repK n).length 0 zeroPC (by rw [repK_len]; omega) hc hn1 (by simp [zeroPC])
  rw [shift_zero] at h1
  rw [h1]
  simp
end Go.Proofs.YtdpieljopelkhaaGreatDoor
