/- The sanity check of the law about trickle timers. -/
import Derived.Test.YtolliidpmgncdaaTrkA
import Derived.Test.YtolliidpmgncdaaTapeA
namespace Go.Proofs.Ytolliidpmgncdaa.AX
set_option linter.unusedVariables false
set_option linter.unusedSimpArgs false
def L3 : CsL := [(14, some newE5), (16, some hearE), (20, some resetE), (17, some stepE)] ++ L2 ++ LT
theorem L3_ok : AllOk Try.prog L3 := append_ok (append_ok ⟨newT_ent, hear_ent, reset_ent, stepT_ent, trivial⟩ L2_ok) LT_ok
theorem kn1 : newT 4 3 1 100 5 = (⟨4, 3, 1, 100, 4, 103, 0, false⟩, 0) := rfl
theorem kn2 : stepT ⟨4, 3, 1, 100, 4, 103, 0, false⟩ 103 0 = (⟨4, 3, 1, 100, 4, 103, 0, true⟩, true, 0) := by
  simp [stepT, fireT, validT, numbersB, isTimeT, fitsTo]
theorem kn3 : stepT ⟨4, 3, 1, 100, 4, 103, 0, true⟩ 104 0 = (⟨4, 3, 1, 104, 8, 108, 0, false⟩, false, 0) := by
  simp [stepT, fireT, validT, numbersB, isTimeT, fitsTo, beginT]
  decide
theorem known_ok : PureOk Try.prog 18 [] (.e (.c (.bool true))) := by
  refine pure_intro (C := mkC L3) (Q := mkQ L3) tysOk (callsOk_of L3_ok) (local_of L3_ok) (q_of L3_ok) mixed Try.func18 rfl _ (by show 0 ≤ _; decide) _ (by intro x hx; first | (cases hx; done) | (simp only [List.mem_cons, List.not_mem_nil, or_false] at hx; exact hx.elim)) ?_
  repeat' (first | (apply And.intro <;> intro hc <;> (first | exact Bool.noConfusion hc | exact absurd hc (by decide) | skip)) | (refine And.intro (by first | decide | omega | (dsimp only; omega)) ?_) | (apply And.intro) | (intro s hs; rw [show s = _ from hs.trans (by first | exact kn1 | exact kn2 | exact kn3)]; clear hs s))
  exact Fin.mk (leF_bool rfl)
theorem known_ent : EntOk Try.prog 18 (pureE fun args => match args with | [] => some (none, .e (.c (.bool true))) | _ => none) :=
  pureE_ok ⟨_, Try.func18, rfl, by kernel_rfl⟩ fun args p v hg _ => by
    split at hg
    · simp only [Option.some.injEq, Prod.mk.injEq] at hg
      obtain ⟨rfl, rfl⟩ := hg
      exact known_ok
    · cases hg
def L4 : CsL := (18, some (pureE fun args => match args with | [] => some (none, .e (.c (.bool true))) | _ => none)) :: L3
theorem L4_ok : AllOk Try.prog L4 := ⟨known_ent, L3_ok⟩
theorem u32r (x : Int) : 0 ≤ IntKind.u32.wrap x ∧ IntKind.u32.wrap x < 4294967296 := by rw [IntKind.wrap_u32']; omega
end Go.Proofs.Ytolliidpmgncdaa.AX
