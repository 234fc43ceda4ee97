/- MobilityBinds: the walk. -/
import Derived.Test.YtcnfjifokeancaaMobilityBindsA
import Derived.Test.YtcnfjifokeancaaFl
namespace Go.Proofs.Ytcnfjifokeancaa
open Go.RowKit AX
set_option linter.unusedVariables false
abbrev ksBd : List (Option IntKind) := [some .u8, some .u8, some .u8, some .u8, some .u8, some .u8, some .u8, some .u8, some .u8, some .u8, some .u8, some .u8, some .u8, some .u8, some .u8, some .u8, some .u8, some .u8, some .u8, some .u8, some .u8, some .u8, some .u8, some .u8, some .u8, some .u8, some .u8, some .u8, some .u8, some .u8, some .u8, some .u8, some .i64, some .i64]
theorem wf_u8 {n : Int} (h : (Lit.int .u8 n).wf = true) : 0 ≤ n ∧ n < 256 := by
  simp [Lit.wf, IntKind.min, IntKind.max, IntKind.bits, IntKind.signed] at h
  omega
theorem bd_at0 : ∀ i, i < 16 → ksBd[0 + i]? = some (some .u8) := by decide
theorem bd_at1 : ∀ i, i < 16 → ksBd[16 + i]? = some (some .u8) := by decide
theorem ok_bdk (g : Nat → CV) (h : MtC ksBd g) : eBd.ok g = true := by
  show (okA .u8 g 0 16 && okA .u8 g 16 16 && isK .i64 (g 32) && isK .i64 (g 33)) = true
  rw [okA_of fun i hi => h.k (bd_at0 i hi), okA_of fun i hi => h.k (bd_at1 i hi), h.k (j := 32) rfl, h.k (j := 33) rfl]; rfl
theorem by_bdk {c : Bd} (h : ∃ g, MtC ksBd g ∧ c = eBd.rd g) : byteOk c.home ∧ byteOk c.place := by
  obtain ⟨g, hg, rfl⟩ := h
  exact ⟨⟨fun q => wf_u8 (hg.wf (bd_at0 q.1 q.2))⟩, ⟨fun q => wf_u8 (hg.wf (bd_at1 q.1 q.2))⟩⟩
theorem walkMobilityBinds (a0 : Option Addr) (len0 cap0 : Nat) (a1 : Option Addr) (len1 cap1 : Nat) (z1 : List Int) (a2 : Int) (x3 : Array Value) (a4 : Int) (w : World) (w0 : IsRows w ksBd a0 len0 cap0) (rr0 : len0 * 48 ≤ 140737488351232) (w1 : IsRow .i64 w a1 len1 cap1 z1) (rr1 : cap1 * 8 ≤ 140737488351232) (w2 : (Lit.int .i64 a2).wf = true) (w3 : Mt ksBd x3.toList) (w4 : (Lit.int .i64 a4).wf = true) :
    Calls Try.prog 7 #[.slice a0 len0 cap0, .slice a1 len1 cap1, .int .i64 a2, .agg x3, .int .i64 a4] w fun e w' => e = .returned (.bool true) ∧ Below w.heap.size w w' := by
  obtain ⟨raw, hn, hraw, h0⟩ := rows_rel w0 (E := eBd) (by decide) rfl ok_bdk
  obtain ⟨c, hc, h3⟩ := flat_rel w3 (E := eBd) (w := w) rfl ok_bdk
  exact walk_of (mbinds_ok raw len1 z1 a2 c a4 (rng_of w1) ⟨fun d hd => by_bdk (hraw d hd), by omega⟩ (by_bdk hc) (wf_i64 w4)) (relL_cons h0 (relL_cons (row_rel w1) (relL_cons rfl (relL_cons h3 (relL1 rfl)))))
end Go.Proofs.Ytcnfjifokeancaa
