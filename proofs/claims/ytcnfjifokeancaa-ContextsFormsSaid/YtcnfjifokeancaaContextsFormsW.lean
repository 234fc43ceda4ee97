/- ContextsForms: the walk. -/
import Derived.Test.YtcnfjifokeancaaContextsFormsA
import Derived.Test.YtcnfjifokeancaaFl
namespace Go.Proofs.Ytcnfjifokeancaa
open Go.RowKit AX
set_option linter.unusedVariables false
abbrev ksCtx : List (Option IntKind) := [some .i64, some .u8, some .u8, some .u8, some .u8, some .u8, some .u8, some .u8, some .u8, some .u8, some .u8, some .u8, some .u8, some .u8, some .u8, some .u8, some .u8, some .i64, none, some .i64]
abbrev ksIP : List (Option IntKind) := [some .u8, some .u8, some .u8, some .u8, some .u8, some .u8, some .u8, some .u8, some .u8, some .u8, some .u8, some .u8, some .u8, some .u8, some .u8, some .u8]
theorem wf_u8 {n : Int} (h : (Lit.int .u8 n).wf = true) : 0 ≤ n ∧ n < 256 := by
  simp [Lit.wf, IntKind.min, IntKind.max, IntKind.bits, IntKind.signed] at h
  omega
theorem ctx_at : ∀ i, i < 16 → ksCtx[1 + i]? = some (some .u8) := by decide
theorem ip_at : ∀ i, i < 16 → ksIP[0 + i]? = some (some .u8) := by decide
theorem ok_ctx (g : Nat → CV) (h : MtC ksCtx g) : eCtx.ok g = true := by
  show (isK .i64 (g 0) && okA .u8 g 1 16 && isK .i64 (g 17) && isB (g 18) && isK .i64 (g 19)) = true
  rw [h.k (j := 0) rfl, okA_of fun i hi => h.k (ctx_at i hi), h.k (j := 17) rfl, h.b (j := 18) rfl, h.k (j := 19) rfl]; rfl
theorem ok_ip (g : Nat → CV) (h : MtC ksIP g) : (eA .u8 16).ok g = true := okA_of fun i hi => h.k (ip_at i hi)
theorem by_ctx {c : Ctx} (h : ∃ g, MtC ksCtx g ∧ c = eCtx.rd g) : byteOk c.ip := by
  obtain ⟨g, hg, rfl⟩ := h
  exact ⟨fun q => wf_u8 (hg.wf (ctx_at q.1 q.2))⟩
theorem by_ip {c : Fin 16 → Int} (h : ∃ g, MtC ksIP g ∧ c = (eA .u8 16).rd g) : byteOk c := by
  obtain ⟨g, hg, rfl⟩ := h
  exact ⟨fun q => wf_u8 (by have := hg.wf (ip_at q.1 q.2); rw [Nat.zero_add] at this; exact this)⟩
theorem walkContextsForms (a0 : Option Addr) (len0 cap0 : Nat) (x1 : Array Value) (x2 : Array Value) (a3 : Int) (a4 : Int) (a5 : Option Addr) (len5 cap5 : Nat) (z5 : List Int) (w : World) (w0 : IsRows w ksCtx a0 len0 cap0) (rr0 : len0 * 48 ≤ 140737488351232) (w1 : Mt ksCtx x1.toList) (w2 : Mt ksIP x2.toList) (w3 : (Lit.int .i64 a3).wf = true) (w4 : (Lit.int .i64 a4).wf = true) (w5 : IsRow .i64 w a5 len5 cap5 z5) (rr5 : cap5 * 8 ≤ 140737488351232) :
    Calls Try.prog 8 #[.slice a0 len0 cap0, .agg x1, .agg x2, .int .i64 a3, .int .i64 a4, .slice a5 len5 cap5] w fun e w' => e = .returned (.bool true) ∧ Below w.heap.size w w' := by
  obtain ⟨raw, hn, hraw, h0⟩ := rows_rel w0 (E := eCtx) (by decide) rfl ok_ctx
  obtain ⟨c, hc, h1⟩ := flat_rel w1 (E := eCtx) (w := w) rfl ok_ctx
  obtain ⟨a, ha, h2⟩ := flat_rel w2 (E := eA .u8 16) (w := w) rfl ok_ip
  exact walk_of (forms_ok raw c a a3 a4 len5 z5 (rng_of w5) ⟨fun d hd => by_ctx (hraw d hd), by omega⟩ (by_ctx hc) (by_ip ha)) (relL_cons h0 (relL_cons h1 (relL_cons h2 (relL_cons rfl (relL_cons rfl (relL1 (row_rel w5)))))))
end Go.Proofs.Ytcnfjifokeancaa
