/- slices.Clone of options: a new block (by AX2, and by the kit's walk where the slice is empty). -/
import Derived.Test.YtolliidpmgncdaaNw
import Derived.Laws.Cover3
import Derived.WalkKit
namespace Go.Proofs.Ytolliidpmgncdaa.AX
open Go.RowKit
set_option linter.unusedVariables false
set_option linter.unusedSimpArgs false
theorem run_eqlNil {P : Program} {w : World} {t e : TypeId} (ht : P.underlying t = some (.slice e)) (a : Option Addr) (l c : Nat) : (binOp .eql t (.slice a l c) (.slice none 0 0)).run P w = .ok (.bool a.isNone) w := by
  simp [binOp, run_eqNil ht]
theorem clone_nil (a : Option Addr) (cap : Nat) (w : World) : Calls Try.prog 60 #[.slice a 0 cap] w fun e w' => ∃ a', e = .returned (.slice a' 0 0) ∧ Below w.heap.size w w' := by
  cases a with
  | none =>
    have hnil : ∀ W, (binOp .eql 56 (.slice none 0 cap) (.slice none 0 0)).run Try.prog W = .ok (.bool true) W := fun W => run_eqlNil Try.underlying56 none 0 cap
    go_enter Try.func60, Try.ntmps60
    go_wp2
    go_ret
    exact ⟨none, rfl, Below.refl _ _⟩
  | some ad =>
    have hnil : ∀ W, (binOp .eql 56 (.slice (some ad) 0 cap) (.slice none 0 0)).run Try.prog W = .ok (.bool false) W := fun W => run_eqlNil Try.underlying56 (some ad) 0 cap
    go_enter Try.func60, Try.ntmps60
    go_wp2_with fail
    go_ret
    exact ⟨some ⟨w.heap.size, 0, none⟩, rfl, (Below.refl _ _).alloc (Nat.le_refl _) _⟩
theorem clone_ok (l : List Opt) (hl : l.length ≤ 8796093022208) : NewOk Try.prog 60 [(cSl eOp eOp_sz).enc l] (some l.length) none (ents eOp 61 l) := by
  by_cases h0 : l.length = 0
  · have e0 : l = [] := List.length_eq_zero_iff.1 h0
    subst e0
    intro X w vals hrel hX
    obtain ⟨v0, rfl⟩ : ∃ v0, vals = #[v0] := by
      have h2 : vals.size = 1 := hrel.1
      match vals, h2 with
      | ⟨[a]⟩, _ => exact ⟨a, rfl⟩
    have h1 : (CV.sl false 0 2 (rowF eOp [])).rel (fun _ => none) X (fun _ => False) w v0 := hrel.2 0 _ v0 rfl rfl
    obtain ⟨a, cap, rfl, _, _⟩ := h1
    refine (clone_nil a cap w).mono fun e w' ⟨a', he, hb⟩ => ?_
    exact ⟨.slice a' 0 0, none, he, hb, (fun x h => by cases h), ⟨eOp_sz, (fun h => by cases h), .inl ⟨rfl, rfl⟩⟩, ⟨a', 0, rfl, Nat.le_refl _, fun h => absurd h (Nat.lt_irrefl _)⟩⟩
  · refine new_intro (wd := 1) (Q := mkQ LE0) (by decide) tysOk (q_of LE0_ok) mixed Try.func60 rfl _ (by show 1 ≤ _; decide) (fun i _ j _ => row_nf eOp l i j) ?_
    repeat' (first | (apply And.intro <;> intro hc <;> (first | exact Bool.noConfusion hc | (simp only [decide_eq_true_eq, decide_eq_false_iff_not, Bool.not_eq_true', Bool.not_eq_false', beq_iff_eq, beq_eq_false_iff_ne, bne_iff_ne, bne_eq_false_iff_eq, Bool.true_eq_false, Bool.false_eq_true] at hc) | skip)) | (refine And.intro (by first | exact trivial | decide | omega | (dsimp only; omega) | exact fun _ _ => rfl) ?_) | (apply And.intro) | (intro s hs))
    refine ⟨⟨some 5, leF_c (leC_os rfl (Nat.zero_add _)), ?_⟩⟩
    refine leN_row (Nat.zero_add _) fun i hi j hj => ?_
    refine selC_out (blt_zero _) ?_
    rw [Nat.sub_zero]
    exact (Elem.flat _ _ _).le
abbrev cloneE : Entry := newE (AC.cons (cSl eOp eOp_sz) AC.nil) (fun a => a.1.length ≤ 8796093022208) (fun a => a.1) (fun l => some l.length) (fun _ => none) (fun l => ents eOp 61 l)
theorem cloneE_ok : EntOk Try.prog 60 cloneE := newE_ok ⟨_, Try.func60, rfl, by kernel_rfl⟩ (fun s l h => by cases h) fun a h => clone_ok a.1 h
end Go.Proofs.Ytolliidpmgncdaa.AX
