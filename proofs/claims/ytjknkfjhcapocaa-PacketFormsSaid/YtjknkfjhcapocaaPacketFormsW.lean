/- PacketForms: the walk. -/
import Derived.Test.YtjknkfjhcapocaaPacketFormsA
import Derived.Test.YtjknkfjhcapocaaFp
namespace Go.Proofs.Ytjknkfjhcapocaa
open Go.RowKit AX
set_option linter.unusedVariables false
abbrev ksPk : List (Option IntKind) := [some .u8, some .u32, some .u8, some .u8, some .u8, some .u8, some .u8, some .u8, some .u8, some .u8, some .u8, some .u8, some .u8, some .u8, some .u8, some .u8, some .u8, some .u8, some .u8, some .u8, some .u8, some .u8, some .u8, some .u8, some .u8, some .u8, some .u8, some .u8, some .u8, some .u8, some .u8, some .u8, some .u8, some .u8, some .u8, some .u8, some .u16, some .u16]
theorem ksPk_8 {i : Nat} (h : i < 32) : ksPk[4 + i]? = some (some .u8) := by
  iterate 32 (rcases i with _ | i; rfl)
  omega
theorem ok_pk (g : Nat → CV) (h : MtC ksPk g) : eHd.ok g = true := by
  have a1 : okA .u8 g 4 16 = true := okA_of fun i hi => h.k (j := 4 + i) (ksPk_8 (by omega))
  have a2 : okA .u8 g 20 16 = true := okA_of fun i hi => h.k (j := 20 + i) (by have := ksPk_8 (i := 16 + i) (by omega); rw [show 4 + (16 + i) = 20 + i by omega] at this; exact this)
  show (isK .u8 (g 0) && isK .u32 (g 1) && isK .u8 (g 2) && isK .u8 (g 3) && okA .u8 g 4 16 && okA .u8 g 20 16 && isK .u16 (g 36) && isK .u16 (g 37)) = true
  rw [h.k (j := 0) rfl, h.k (j := 1) rfl, h.k (j := 2) rfl, h.k (j := 3) rfl, h.k (j := 36) rfl, h.k (j := 37) rfl, a1, a2]; rfl
theorem wf_u16p {n : Int} (h : (Lit.int .u16 n).wf = true) : 0 ≤ n ∧ n < 65536 := by
  simp [Lit.wf, IntKind.min, IntKind.max, IntKind.bits, IntKind.signed] at h
  omega
/-- The numbers of a packet that came in are in their ranges. -/
theorem pk_wf {g : Nat → CV} (h : MtC ksPk g) {l : List Int} (hl : BL l) : PkW (eHd.rd g, l) := by
  have v8 : ∀ o i, i < 16 → (o = 4 ∨ o = 20) → 0 ≤ valI (g (o + i)) ∧ valI (g (o + i)) < 256 := fun o i hi ho => by
    rcases ho with rfl | rfl
    · exact wf_u8 (h.wf (j := 4 + i) (ksPk_8 (by omega)))
    · exact wf_u8 (h.wf (j := 20 + i) (by have := ksPk_8 (i := 16 + i) (by omega); rw [show 4 + (16 + i) = 20 + i by omega] at this; exact this))
  refine ⟨wf_u8 (h.wf (j := 0) rfl), wf_u32p (h.wf (j := 1) rfl), wf_u8 (h.wf (j := 2) rfl), wf_u8 (h.wf (j := 3) rfl), fun i => ?_, fun i => ?_, wf_u16p (h.wf (j := 36) rfl), wf_u16p (h.wf (j := 37) rfl), hl⟩
  · unfold vget
    split
    · exact v8 4 i (by assumption) (.inl rfl)
    · omega
  · unfold vget
    split
    · exact v8 20 i (by assumption) (.inr rfl)
    · omega
theorem walkPacketForms (x0 : Array Value) (a1 : Option Addr) (len1 cap1 : Nat) (z1 : List Int) (a2 : Int) (w : World) (w0 : TailArg w ksPk .u8 1 x0) (w1 : IsRow .i64 w a1 len1 cap1 z1) (rr1 : cap1 * 8 ≤ 140737488351232) (w2 : (Lit.int .i64 a2).wf = true) :
    Calls Try.prog 3 #[.agg x0, .slice a1 len1 cap1, .int .i64 a2] w fun e w' => e = .returned (.bool true) ∧ Below w.heap.size w w' := by
  obtain ⟨h, l, ⟨g, hg, hh⟩, hl, hlen, hrel⟩ := tail_rel w0 (E := eHd) rfl ok_pk
  have hb := reachBytes_lt
  exact walk_of (forms_ok (h, l) (by rw [hh]; exact pk_wf hg hl) (by show l.length ≤ _; omega) len1 z1 (rng_of w1) a2 (wf_i64 w2)) (relL_cons hrel (relL_cons (row_rel w1) (relL1 rfl)))
end Go.Proofs.Ytjknkfjhcapocaa
