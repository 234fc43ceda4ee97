/- Plain laws of byte strings and of packets: no program in sight. -/
import Derived.Test.YtjknkfjhcapocaaPlain
namespace Go.Proofs.Ytjknkfjhcapocaa
set_option linter.unusedVariables false
set_option linter.unusedSimpArgs false
/-- Bytes. -/
structure BL (l : List Int) : Prop where
  m : ∀ x ∈ l, 0 ≤ x ∧ x < 256
theorem BL.nil : BL [] := ⟨fun x h => by cases h⟩
theorem BL.cons {x : Int} {l : List Int} (hx : 0 ≤ x ∧ x < 256) (h : BL l) : BL (x :: l) := ⟨fun y hy => by
  rcases List.mem_cons.1 hy with rfl | hy
  · exact hx
  · exact h.m y hy⟩
theorem BL.append {l m : List Int} (h : BL l) (k : BL m) : BL (l ++ m) := ⟨fun y hy => by
  rcases List.mem_append.1 hy with hy | hy
  · exact h.m y hy
  · exact k.m y hy⟩
theorem BL.take {l : List Int} (h : BL l) (n : Nat) : BL (l.take n) := ⟨fun y hy => h.m y (List.mem_of_mem_take hy)⟩
theorem BL.drop {l : List Int} (h : BL l) (n : Nat) : BL (l.drop n) := ⟨fun y hy => h.m y (List.mem_of_mem_drop hy)⟩
theorem BL.get {l : List Int} (h : BL l) (i : Nat) : 0 ≤ l.getD i default ∧ l.getD i default < 256 := by
  rcases Nat.lt_or_ge i l.length with hi | hi
  · rw [List.getD_eq_getElem?_getD, List.getElem?_eq_getElem hi]
    exact h.m _ (List.getElem_mem hi)
  · rw [List.getD_eq_getElem?_getD, List.getElem?_eq_none hi]
    exact ⟨Int.le_refl _, by decide⟩
/-- The n bytes of a number, the most significant one first. -/
def beN (v : Int) : Nat → List Int
  | 0 => []
  | n + 1 => v / 256 ^ n % 256 :: beN v n
theorem beN_len (v : Int) : ∀ n, (beN v n).length = n := by
  intro n
  induction n with
  | zero => rfl
  | succ n ih => simp [beN, ih]
theorem beN_BL (v : Int) : ∀ n, BL (beN v n) := by
  intro n
  induction n with
  | zero => exact BL.nil
  | succ n ih => exact BL.cons ⟨Int.emod_nonneg _ (by omega), Int.emod_lt_of_pos _ (by omega)⟩ ih
/-- The number of a byte string. -/
def beVal (l : List Int) : Int := l.foldl (fun a c => a * 256 + c) 0
theorem beVal_snoc (l : List Int) (c : Int) : beVal (l ++ [c]) = beVal l * 256 + c := by unfold beVal; rw [List.foldl_append]; rfl
end Go.Proofs.Ytjknkfjhcapocaa
