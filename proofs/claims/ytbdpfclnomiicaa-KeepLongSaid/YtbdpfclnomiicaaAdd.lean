/-
  replica: entries laid by one that follows.
-/
import Derived.Test.YtbdpfclnomiicaaHeard
set_option maxRecDepth 4000
namespace Go.Proofs.Ytbdpfclnomiicaa
open Go.Cap
set_option linter.unusedSimpArgs false
set_option linter.unusedVariables false
attribute [local irreducible] POp SimFrom DrawFrom EOp Sim FnH T.gp
def quietN (n : Nd) : Nd := { n with role := 0, wait := 0 }
/-- The log behind i entries of a message. -/
def layK (n : Nd) (m : Ms) : Nat → List En
  | 0 => n.log
  | i + 1 => if m.index - n.base + i < (layK n m i).length ∧ ((layK n m i).getD (m.index - n.base + i).toNat default).term = (m.entries.getD i default).term then layK n m i
    else (layK n m i).take (min (m.index - n.base + i) (layK n m i).length).toNat ++ [m.entries.getD i default]
theorem layK_len (n : Nd) (m : Ms) : ∀ i, (layK n m i).length ≤ n.log.length + i
  | 0 => Nat.le_refl _
  | i + 1 => by
    have := layK_len n m i
    rw [layK]
    split
    · omega
    · simp; omega
def addN (n : Nd) (m : Ms) : Nd := { quietN n with log := layK n m m.entries.length, commit := max n.commit (min m.commit (m.index + m.entries.length)) }
def addF (n : Nd) (m : Ms) : Nd × List Ms := if m.term < n.term then (n, [sendF n m.frm (addedM false 0)]) else
  if m.index < n.base then (quietN n, [sendF (quietN n) m.frm (addedM true n.base)]) else
  if lastF n < m.index ∨ ¬ termF n m.index = m.logTerm then (quietN n, [sendF (quietN n) m.frm (addedM false (min (lastF n) (m.index - 1)))]) else
  (addN n m, [sendF (addN n m) m.frm (addedM true (m.index + m.entries.length))])
theorem flat_at {k : Nat} {xs : List T} {i j : Nat} {x d : T} (hk : ∀ y ∈ xs, y.cells.length = k) (h : xs[i]? = some x) (hj : j < k) (hd : x.cells[j]? = some d) : (xs.flatMap T.cells)[0 + i * k + j]? = some d := by
  have ⟨h1, h2⟩ := flat_get hk h
  have h3 : (((xs.flatMap T.cells).drop (i * k)).take k)[j]? = some d := by rw [h1, hd]
  rw [List.getElem?_take, if_pos hj, List.getElem?_drop] at h3
  rw [Nat.zero_add]
  exact h3
/-- Where a row of one's own is, if there is any of it. -/
theorem OE.at {l : List En} {p : Option Addr} {n c : Nat} {Hs : Heap} (h : OE l (.slice p n c) Hs) : ∃ bl, 0 < l.length → p = some ⟨bl, 0, none⟩ ∧ (bl, (⟨tE, (l.map een).flatMap T.cells, c * 3⟩ : Blk)) ∈ Hs := by
  rcases h with ⟨h, _⟩ | ⟨bl, c', e, _, rfl⟩
  · have : l = [] := by simpa using h
    exact ⟨0, fun h => by rw [this] at h; simp at h⟩
  · cases e; exact ⟨bl, fun _ => ⟨rfl, List.mem_singleton.2 rfl⟩⟩
theorem OE.sub0 {l : List En} {p : Option Addr} {n c : Nat} {Hs : Heap} (h : OE l (.slice p n c) Hs) (j : Nat) : subV 3 p c 0 j = .slice p j c := by
  rcases h with ⟨_, ⟨q, e⟩, _⟩ | ⟨bl, c', e, _, _⟩
  · cases e; cases p <;> rfl
  · cases e
    unfold subV
    by_cases hc : c = 0 <;> simp [hc, Addr.add_mk]
end Go.Proofs.Ytbdpfclnomiicaa
