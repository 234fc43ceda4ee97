/- The reference of layer 12: Set (by AX2). -/
import Derived.Test.YtcnfjifokeancaaR12
namespace Go.Proofs.Ytcnfjifokeancaa.AX
open Go.RowKit
set_option linter.unusedVariables false
set_option linter.unusedSimpArgs false
def rset (c : Ctx) : Bool → List Ctx → List Ctx
  | true, [] => []
  | false, [] => [c]
  | true, d :: l => if d.id = c.id then rset c true l else d :: rset c true l
  | false, d :: l => if c.id ≤ d.id then c :: (if d.id = c.id then rset c true l else d :: rset c true l) else d :: rset c false l
theorem rset_true {c : Ctx} : ∀ (l : List Ctx) (b : Int), validFrom b l = true → c.id ≤ b → rset c true l = l := by
  intro l
  induction l with
  | nil => intro b _ _; rfl
  | cons d l ih =>
    intro b hv hb
    obtain ⟨g1, g2, g3, g4, g5⟩ := valid_cons.1 hv
    rw [rset, if_neg (by omega), ih d.id g5 (by omega)]
theorem rset_eq {c : Ctx} : ∀ (l : List Ctx) (b : Int), validFrom b l = true → rset c false l = setL c l := by
  intro l
  induction l with
  | nil => intro b _; rfl
  | cons d l ih =>
    intro b hv
    obtain ⟨g1, g2, g3, g4, g5⟩ := valid_cons.1 hv
    rw [rset, setL]
    by_cases h : c.id ≤ d.id
    · rw [if_pos h, if_neg (show ¬ d.id < c.id by omega)]
      by_cases e : d.id = c.id
      · rw [if_pos e, if_pos e, rset_true l d.id g5 (by omega)]
      · rw [if_neg e, if_neg e, rset_true l d.id g5 (by omega)]
    · rw [if_neg h, if_pos (show d.id < c.id by omega), ih d.id g5]
theorem rset_step {c : Ctx} {l : List Ctx} {i : Nat} (put : Bool) (h : i < l.length) : rset c put (l.drop i) = (if put = false ∧ c.id ≤ (l.getD i default).id then [c] else []) ++ ((if (l.getD i default).id = c.id then [] else [l.getD i default]) ++ rset c (put || decide (c.id ≤ (l.getD i default).id)) (l.drop (i + 1))) := by
  rw [drop_at h]
  generalize l.getD i default = d
  cases put with
  | true =>
    rw [rset]
    by_cases e : d.id = c.id
    · simp [e]
    · simp [e]
  | false =>
    rw [rset]
    by_cases g : c.id ≤ d.id
    · by_cases e : d.id = c.id
      · simp [e]
      · simp [e, g]
    · have e : d.id ≠ c.id := by omega
      simp [e, g]
end Go.Proofs.Ytcnfjifokeancaa.AX
