/- Arguments of the laws as values of AX2. -/
import Derived.Test.YtjknkfjhcapocaaWords
import Derived.Test.YtjknkfjhcapocaaTp
namespace Go.Proofs.Ytjknkfjhcapocaa.AX
open Go.RowKit
set_option linter.unusedVariables false
theorem spot_none {w : World} {a : Addr} {u : Value} (h : w.cell? a = some u) : a.spot = none := by
  unfold World.cell? at h
  split at h
  · split at h
    · cases h
    · rename_i hs; simpa using hs
  · cases h
theorem row_rel {w : World} {a : Option Addr} {len cap : Nat} {zs : List Int} (h : IsRow .i64 w a len cap zs) :
    (FV.e (.c (CV.sl true len 1 (rI zs)))).rel (fun _ => none) (fun _ => False) (fun _ => False) w (.slice a len cap) := by
  rcases h with ⟨rfl, rfl, rfl, rfl⟩ | ⟨ad, rfl, hl, hm, hz, hcell, hwz⟩
  · exact ⟨none, 0, rfl, Nat.le_refl _, fun h => absurd h (Nat.lt_irrefl _)⟩
  · refine ⟨some ad, cap, rfl, hl, fun h0 => ?_⟩
    have h1 := hcell 0 (by omega)
    rw [add_zero_] at h1
    have hsp : ad.spot = none := spot_none h1
    refine ⟨ad, rfl, hsp, fun h => h, fun _ h => h, cell_lt h1, fun i hi j hj => ?_⟩
    have : j = 0 := by omega
    subst this
    have h2 := hcell i (by omega)
    rw [addS hsp] at h2
    exact ⟨_, by rw [show i * 1 + 0 = i by omega]; exact h2, rfl⟩
theorem wf_i64 {n : Int} (h : (Lit.int .i64 n).wf = true) : -9223372036854775808 ≤ n ∧ n ≤ 9223372036854775807 := by
  simp [Lit.wf, IntKind.min, IntKind.max, IntKind.bits, IntKind.signed] at h
  omega
theorem rng_of {w : World} {a : Option Addr} {len cap : Nat} {zs : List Int} (h : IsRow .i64 w a len cap zs) : rngL zs := by
  have hall : ∀ z ∈ zs, (Lit.int .i64 z).wf = true := by
    rcases h with ⟨rfl, rfl, rfl, rfl⟩ | ⟨ad, rfl, hl, hm, hz, hcell, hwz⟩
    · intro z hz; cases hz
    · exact hwz
  intro i
  by_cases hi : i < zs.length
  · have e : zs.getD i default = zs[i] := by simp [List.getD_eq_getElem?_getD, List.getElem?_eq_getElem hi]
    rw [e]
    exact wf_i64 (hall _ (List.getElem_mem hi))
  · have e : zs.getD i default = 0 := by simp [List.getD_eq_getElem?_getD, List.getElem?_eq_none (by omega : zs.length ≤ i)]
    rw [e]; omega
theorem relL1 {r : Ren} {X W : Nat → Prop} {w : World} {x : FV} {v : Value} (h : x.rel r X W w v) : RelL r X W w [x] #[v] :=
  ⟨rfl, fun i y u hy hu => by
    match i, hy, hu with
    | 0, hy, hu => injection hy with hy; injection hu with hu; subst hy hu; exact h⟩
theorem relL_cons {r : Ren} {X W : Nat → Prop} {w : World} {x : FV} {v : Value} {xs : List FV} {vs : List Value} (h : x.rel r X W w v) (ht : RelL r X W w xs vs.toArray) : RelL r X W w (x :: xs) (v :: vs).toArray := by
  refine ⟨by have := ht.1; simp at this ⊢; omega, fun i y u hy hu => ?_⟩
  cases i with
  | zero => simp at hy hu; subst hy hu; exact h
  | succ i => exact ht.2 i y u (by simpa using hy) (by simpa using hu)
theorem walk_of {P : Program} {f : FuncId} {args : List FV} {vals : Array Value} {w : World} (h : PureOk P f args (.e (.c (.bool true)))) (hr : RelL (fun _ => none) (fun _ => False) (fun _ => False) w args vals) :
    Calls P f vals w fun e w' => e = .returned (.bool true) ∧ Below w.heap.size w w' :=
  (h (fun _ => False) w vals hr (fun _ h => h.elim)).mono fun e w' ⟨v, he, hb, hv⟩ => by
    have hv' : v = .bool true := hv
    subst hv'
    exact ⟨he, hb⟩
end Go.Proofs.Ytjknkfjhcapocaa.AX
