/- The contracts of checksum.Append, Check and of their references. -/
import Derived.Test.YtnfndhgcfhlemaaKnown
import Derived.Test.YtnfndhgcfhlemaaOwn
namespace Go.Proofs.Ytnfndhgcfhlemaa
open Go.RowKit
set_option linter.unusedVariables false

theorem info_u8 : (Try.prog.info? 5).map (fun i => (i.zero, i.size, i.bytes)) = some (some (.int .u8 0), 1, 1) := by kernel_rfl

/-- The bytes of a CRC, the less significant one first. -/
def crcTail (l : List UInt8) : List UInt8 := [UInt8.ofNat (crc 0 l % 256), UInt8.ofNat (crc 0 l / 256)]

set_option maxHeartbeats 1000000 in
theorem append_any {v : Value} {l : List UInt8} {w : World} (h : Sl w v l) (hl : l.length ≤ 140737488351232) :
    Calls Try.prog 25 #[v] w fun e w' => ∃ r, e = .returned r ∧ w'.ownsRow w.heap.size 5 1 r (l.length + 2) (bv (l ++ crcTail l)) ∧ Below w.heap.size w w' := by
  obtain ⟨i0, hi, hz0, hz1, hz2⟩ := info_parts info_u8
  obtain ⟨A, c, rfl, hc, hr⟩ := h
  have hmk := fun w => run_make_n (P := Try.prog) 22 5 i0 (.int .u8 0) 1 1 Try.underlying22 hi hz0 hz1 hz2 0 (l.length + 2) (by omega) (by omega) (by omega) w
  rw [show ((0 : Nat) : Int) = 0 from rfl, show ((l.length + 2 : Nat) : Int) = (l.length : Int) + 2 from by omega] at hmk
  have hcl : crc 0 l < 65536 := crc_lt (by omega) l
  obtain ⟨lo, hlo⟩ := u8_ex (crc 0 l % 256) (by omega)
  obtain ⟨hi8, hhi⟩ := u8_ex (crc 0 l / 256) (by omega)
  have HT : Hid (crcTail l = [lo, hi8]) := Lib.hid (by
    unfold crcTail
    rw [← hlo, ← hhi]
    simp)
  have e1 : (crc 0 l : Int) / 256 = (hi8.toNat : Int) := by omega
  have e2 : (crc 0 l : Int) % 256 = (lo.toNat : Int) := by omega
  clear hlo hhi
  go_enter Try.func25, Try.ntmps25
  go_wp2_with fail
  refine (crc_any _ _ _ l _ hr rfl (by omega)).mono ?_
  rintro e w' ⟨rfl, rfl⟩
  have hown0 : (w.alloc (.cells (madeCells #[.int .u8 0] (l.length + 2)) 5)).ownsRow w.heap.size 5 1 (.slice (some ⟨w.heap.size, 0, none⟩) 0 (l.length + 2)) 0 [] :=
    World.ownsRow_made w _ _ (Nat.le_refl _) (by unfold maxLen; omega) (by rw [size_madeCells]; omega)
  have hb0 : Below w.heap.size w (w.alloc (.cells (madeCells #[.int .u8 0] (l.length + 2)) 5)) := (Below.refl _ _).alloc (Nat.le_refl _) _
  have HO0 := Lib.hid hown0
  clear hown0
  have C1 : Hid ((bv l).length = l.length * 1) := Lib.hid (by simp)
  have C2 : Hid (0 + l.length ≤ maxLen) := Lib.hid (by unfold maxLen; omega)
  have C3 : Hid ((0 + l.length) * 1 ≤ 140737488355328) := Lib.hid (by omega)
  have D1 : Hid ((bv [lo, hi8]).length = 2 * 1) := Lib.hid rfl
  have D2 : Hid (l.length + 2 ≤ maxLen) := Lib.hid (by unfold maxLen; omega)
  have D3 : Hid ((l.length + 2) * 1 ≤ 140737488355328) := Lib.hid (by omega)
  go_wp2_with (first
    | (at_builtin; refine wpList_append_row _ rfl (.tmp 11) (.tmp 12) _ rfl w.heap.size 5 i0 _ 1 1 Try.underlying22 hi hz0 hz1 hz2 rfl (by omega) _ 0 [] rfl HO0.out A l.length c (bv l) rfl C1.out (hr.below hb0) (bv_one l) C2.out C3.out hb0.size ?_; intro v1 w1 hown1 hg1 hat1; have hb1 := below_grown hb0 HO0.out (Nat.le_refl _) hb0.size hg1; simp only [Nat.zero_add, List.nil_append] at hown1; have HO1 := Lib.hid hown1; clear hown1 hat1 hg1)
    | (at_builtin; refine wpList_append_row _ rfl (.tmp 14) (.tmp 20) _ rfl w.heap.size 5 i0 _ 1 1 Try.underlying22 hi hz0 hz1 hz2 rfl (by omega) _ l.length (bv l) rfl (HO1.out.alloc _) (some ⟨w1.heap.size, 0, none⟩) 2 2 (bv [lo, hi8]) rfl D1.out (row_new w1 5 (bv [lo, hi8])) (bv_one _) D2.out D3.out (bel_alloc hb1 _).size ?_; intro v2 w2 hown2 hg2 hat2; have hb2 := below_grown (bel_alloc hb1 _) (HO1.out.alloc _) (Nat.le_refl _) (bel_alloc hb1 _).size hg2; rw [← bv_append] at hown2; have HO2 := Lib.hid hown2; clear hown2 hat2 hg2))
  go_ret
  exact ⟨_, rfl, by rw [HT.out]; exact HO2.out, hb2⟩
end Go.Proofs.Ytnfndhgcfhlemaa
