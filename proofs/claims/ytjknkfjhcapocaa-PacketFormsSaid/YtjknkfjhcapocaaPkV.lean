/- Arguments of the laws about packets: numbers of some kinds, byte strings. -/
import Derived.Test.YtjknkfjhcapocaaLr
import Derived.Test.YtjknkfjhcapocaaOc
namespace Go.Proofs.Ytjknkfjhcapocaa.AX
open Go.RowKit
set_option linter.unusedVariables false
theorem wf_u8 {n : Int} (h : (Lit.int .u8 n).wf = true) : 0 ≤ n ∧ n < 256 := by
  simp [Lit.wf, IntKind.min, IntKind.max, IntKind.bits, IntKind.signed] at h
  omega
theorem wf_u32p {n : Int} (h : (Lit.int .u32 n).wf = true) : 0 ≤ n ∧ n < 4294967296 := by
  simp [Lit.wf, IntKind.min, IntKind.max, IntKind.bits, IntKind.signed] at h
  omega
/-- A byte string as an argument. -/
theorem rowB_rel {w : World} {a : Option Addr} {len cap : Nat} {zs : List Int} (h : IsRow .u8 w a len cap zs) :
    (FV.e (.c (CV.sl true len 1 (rowF eB zs)))).rel (fun _ => none) (fun _ => False) (fun _ => False) w (.slice a len cap) := by
  rcases h with ⟨rfl, rfl, rfl, rfl⟩ | ⟨ad, rfl, hl, hm, hz, hcell, hwz⟩
  · exact ⟨none, 0, rfl, Nat.le_refl _, fun h => absurd h (Nat.lt_irrefl _)⟩
  · refine ⟨some ad, cap, rfl, hl, fun h0 => ?_⟩
    have h1 := hcell 0 (by omega)
    rw [add_zero_] at h1
    have hsp : ad.spot = none := spot_none h1
    refine ⟨ad, rfl, hsp, fun h => h, fun _ h => h, cell_lt h1, fun i hi j hj => ?_⟩
    have : j = 0 := by omega
    subst this
    have h2 := hcell i (by omega)
    rw [addS hsp] at h2
    exact ⟨_, by rw [show i * 1 + 0 = i by omega]; exact h2, rfl⟩
theorem rowB_all {w : World} {a : Option Addr} {len cap : Nat} {zs : List Int} (h : IsRow .u8 w a len cap zs) : (∀ z ∈ zs, 0 ≤ z ∧ z < 256) ∧ len ≤ zs.length ∧ len ≤ cap := by
  rcases h with ⟨rfl, rfl, rfl, rfl⟩ | ⟨ad, rfl, hl, hm, hz, hcell, hwz⟩
  · exact ⟨fun z hz => (by cases hz), Nat.le_refl _, Nat.le_refl _⟩
  · exact ⟨fun z hz => wf_u8 (hwz z hz), by omega, hl⟩
/-- The same, cut to its length. -/
theorem rowB_cut {w : World} {a : Option Addr} {len cap : Nat} {zs : List Int} (h : IsRow .u8 w a len cap zs) :
    ∃ b : List Int, BL b ∧ b.length = len ∧ (FV.e (.c (CV.sl true b.length 1 (rowF eB b)))).rel (fun _ => none) (fun _ => False) (fun _ => False) w (.slice a len cap) := by
  obtain ⟨h1, h2, h3⟩ := rowB_all h
  have e : (zs.take len).length = len := by rw [List.length_take]; omega
  refine ⟨zs.take len, ⟨fun x hx => h1 x (List.mem_of_mem_take hx)⟩, e, ?_⟩
  rw [e]
  have hr := rowB_rel h
  obtain ⟨x, cap', hv, c1, c2⟩ := hr
  refine ⟨x, cap', hv, c1, fun h0 => ?_⟩
  obtain ⟨ad, g1, g2, g3, g4, g5, g6⟩ := c2 h0
  refine ⟨ad, g1, g2, g3, g4, g5, fun i hi j hj => ?_⟩
  obtain ⟨u, k1, k2⟩ := g6 i hi j hj
  refine ⟨u, k1, ?_⟩
  have e2 : rowF eB (zs.take len) i j = rowF eB zs i j := by
    unfold rowF
    rw [List.getD_eq_getElem?_getD, List.getD_eq_getElem?_getD, List.getElem?_take, if_pos hi]
  rw [e2]; exact k2
end Go.Proofs.Ytjknkfjhcapocaa.AX
