/- The contract of the sanity check 'known' of the statements on checksums. -/
import Derived.Test.YtnfndhgcfhlemaaSums
import Derived.Test.YtnfndhgcfhlemaaCrc
namespace Go.Proofs.Ytnfndhgcfhlemaa
open Go.RowKit
set_option linter.unusedVariables false

theorem cell_new0 (w : World) (t : TypeId) (vs : List Value) (j : Nat) : (w.alloc (.cells vs.toArray t)).cell? ⟨w.heap.size, j, none⟩ = vs[j]? := by
  have := cell_of_row (w.alloc (.cells vs.toArray t)) w.heap.size j vs.toArray t (0, 0) (heap_alloc_new w _)
  rw [this]; simp
theorem row_new (w : World) (t : TypeId) (vs : List Value) : Row (w.alloc (.cells vs.toArray t)) (some ⟨w.heap.size, 0, none⟩) vs := fun j u hu => by
  refine ⟨_, rfl, ?_⟩
  have e : (Addr.add ⟨w.heap.size, 0, none⟩ j) = ⟨w.heap.size, j, none⟩ := by unfold Addr.add; split <;> simp_all
  rw [e, cell_new0, hu]

theorem u8_ex (n : Nat) (h : n < 256) : ∃ b : UInt8, b.toNat = n := ⟨UInt8.ofNat n, by simp; omega⟩
/-- A new block of bytes. -/
theorem sl_new (w : World) (t : TypeId) (l : List UInt8) (vs : List Value) (hv : vs = bv l) (n : Nat) (hn : l.length = n) : Sl (w.alloc (.cells vs.toArray t)) (.slice (some ⟨w.heap.size, 0, none⟩) n n) l := by
  subst hv hn
  exact ⟨_, _, rfl, Nat.le_refl _, row_new w t (bv l)⟩

set_option maxHeartbeats 400000 in
theorem known_any (w : World) : Calls Try.prog 12 #[] w fun e w' => e = .returned (.bool true) ∧ Below w.heap.size w w' := by
  have hk : crc 0 [1] = 4489 := by decide
  have hi : inet [] = 65535 := by decide
  have HK := Lib.hid hk
  have HI := Lib.hid hi
  clear hk hi
  go_enter Try.func12, Try.ntmps12
  go_wp2_with fail
  refine (crc_any _ 1 1 [1] _ (by simpa [bv] using row_new w 5 [.int .u8 1]) rfl (by omega)).mono ?_
  rintro e w' ⟨rfl, rfl⟩
  rw [HK.out]
  go_wp2_with fail
  refine (internet_of none 0 0 [] _ (fun j l h => by simp at h) rfl (by omega) (by simp)).mono ?_
  rintro e w' ⟨rfl, rfl⟩
  rw [List.flatten_nil, HI.out]
  go_wp2_with fail
  go_ret
  exact ⟨rfl, (Below.refl _ _).alloc (Nat.le_refl _) _⟩
end Go.Proofs.Ytnfndhgcfhlemaa
