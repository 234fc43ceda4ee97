/- When a drawn packet is valid (plain law for the maker Packet). -/
import Derived.Test.YtjknkfjhcapocaaPkM
namespace Go.Proofs.Ytjknkfjhcapocaa.AX
open Go.RowKit
set_option linter.unusedVariables false
structure PkM (p : Pkt) : Prop where
  v : validP p = true
  w : PkW p
theorem vget_in {a : Fin 16 → Int} (h : byteOk a) (i : Nat) : 0 ≤ vget a i ∧ vget a i < 256 := by
  unfold vget
  split
  · exact h.q _
  · exact ⟨by decide, by decide⟩
theorem pkM_mk {cls flow nxt hops sp dp : Int} {src dst : Fin 16 → Int} {pay : List Int} (h1 : 0 ≤ cls ∧ cls < 256) (h2 : 0 ≤ flow ∧ flow < 1048576) (h3 : 0 ≤ nxt ∧ nxt < 256) (h4 : 0 ≤ hops ∧ hops < 256)
    (h5 : byteOk src) (h6 : byteOk dst) (h7 : 0 ≤ sp ∧ sp < 65536) (h8 : 0 ≤ dp ∧ dp < 65536) (h9 : BL pay) (h10 : vget src 0 ≠ 255) (h11 : (if nxt = 17 then (48 : Int) else 40) + pay.length ≤ 1280) (h12 : nxt = 17 ∨ sp = 0 ∧ dp = 0) :
    PkM (⟨cls, flow, nxt, hops, src, dst, sp, dp⟩, pay) := by
  refine ⟨?_, ⟨h1, ⟨h2.1, ?_⟩, h3, h4, vget_in h5, vget_in h6, h7, h8, h9⟩⟩
  · unfold validP mcast sizeP
    simp only [Bool.and_eq_true, Bool.or_eq_true, decide_eq_true_eq, Bool.not_eq_true', decide_eq_false_iff_not]
    exact ⟨⟨⟨by omega, h10⟩, h11⟩, h12⟩
  · show flow < 4294967296
    omega
/-- The choices of the next header and of the hops, as the walk leaves them. -/
theorem pick5 (s a b c d e : Int) (h : ∀ x, (x = a ∨ x = b ∨ x = c ∨ x = d ∨ x = e ∨ x = 0) → 0 ≤ x ∧ x < 256) (t : Nat) :
    0 ≤ (bif t.beq 4 then a else bif t.beq 3 then b else bif t.beq 2 then c else bif t.beq 1 then d else bif t.beq 0 then e else 0) ∧ (bif t.beq 4 then a else bif t.beq 3 then b else bif t.beq 2 then c else bif t.beq 1 then d else bif t.beq 0 then e else 0) < 256 := by
  apply h
  cases t.beq 4 <;> cases t.beq 3 <;> cases t.beq 2 <;> cases t.beq 1 <;> cases t.beq 0 <;> simp
end Go.Proofs.Ytjknkfjhcapocaa.AX
