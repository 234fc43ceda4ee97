/- Arguments of the laws as abstract values. -/
import Derived.Test.YtolliidpmgncdaaWords
import Derived.Test.YtolliidpmgncdaaAxFn
namespace Go.Proofs.Ytolliidpmgncdaa.AX
open Go.RowKit
set_option linter.unusedVariables false
theorem spot_none {w : World} {a : Addr} {u : Value} (h : w.cell? a = some u) : a.spot = none := by
  unfold World.cell? at h
  split at h
  · split at h
    · cases h
    · rename_i hs; simpa using hs
  · cases h
/-- A list of numbers, read off a slice. -/
def rowF (k : IntKind) (l : List Int) (i j : Nat) : CV := .int k (l.getD i 0)
theorem row_rel {k : IntKind} {w : World} {a : Option Addr} {len cap : Nat} {zs : List Int} (h : IsRow k w a len cap zs) (hc : cap ≤ room) :
    (CV.sl len 1 (rowF k zs)).rel (fun _ => none) (fun _ => False) w (.slice a len cap) := by
  rcases h with ⟨rfl, rfl, rfl, rfl⟩ | ⟨ad, rfl, hl, hm, hz, hcell, hwz⟩
  · exact ⟨none, 0, rfl, Nat.le_refl _, Nat.zero_le _, fun h => absurd h (Nat.lt_irrefl _)⟩
  · refine ⟨some ad, cap, rfl, hl, hc, fun h0 => ?_⟩
    have h1 := hcell 0 (by omega)
    rw [add_zero_] at h1
    have hsp : ad.spot = none := spot_none h1
    refine ⟨ad, rfl, hsp, fun h => h, cell_lt h1, fun i hi j hj => ?_⟩
    have : j = 0 := by omega
    subst this
    have h2 := hcell i (by omega)
    rw [addS hsp] at h2
    exact ⟨_, by rw [show i * 1 + 0 = i by omega]; exact h2, rfl⟩
theorem wf_i64 {n : Int} (h : (Lit.int .i64 n).wf = true) : -9223372036854775808 ≤ n ∧ n ≤ 9223372036854775807 := by
  simp [Lit.wf, IntKind.min, IntKind.max, IntKind.bits, IntKind.signed] at h
  omega
theorem row_range {w : World} {a : Option Addr} {len cap : Nat} {zs : List Int} (h : IsRow .i64 w a len cap zs) (i : Nat) (hi : i < len) : -9223372036854775808 ≤ zs.getD i 0 ∧ zs.getD i 0 ≤ 9223372036854775807 := by
  rcases h with ⟨rfl, rfl, rfl, rfl⟩ | ⟨ad, rfl, hl, hm, hz, hcell, hwz⟩
  · omega
  · have hlt : i < zs.length := by omega
    have e : zs.getD i 0 = zs[i] := by simp [List.getElem?_eq_getElem hlt]
    rw [e]
    exact wf_i64 (hwz _ (List.getElem_mem hlt))
theorem relL1 {r : Nat → Option Nat} {O : Nat → Prop} {w : World} {x : FV} {v : Value} (h : x.rel r O w v) : RelL r O w [x] #[v] :=
  ⟨rfl, fun i y u hy hu => by
    match i, hy, hu with
    | 0, hy, hu => injection hy with hy; injection hu with hu; subst hy hu; exact h⟩
theorem relL_cons {r : Nat → Option Nat} {O : Nat → Prop} {w : World} {x : FV} {v : Value} {xs : List FV} {vs : List Value} (h : x.rel r O w v) (ht : RelL r O w xs vs.toArray) : RelL r O w (x :: xs) (v :: vs).toArray := by
  refine ⟨by have := ht.1; simp at this ⊢; omega, fun i y u hy hu => ?_⟩
  cases i with
  | zero => simp at hy hu; subst hy hu; exact h
  | succ i => exact ht.2 i y u (by simpa using hy) (by simpa using hu)
theorem relL_nil {r : Nat → Option Nat} {O : Nat → Prop} {w : World} : RelL r O w [] #[] := ⟨rfl, fun i y u hy _ => by cases i <;> cases hy⟩
theorem wf_u32 {n : Int} (h : (Lit.int .u32 n).wf = true) : 0 ≤ n ∧ n < 4294967296 := by
  simp [Lit.wf, IntKind.min, IntKind.max, IntKind.bits, IntKind.signed] at h
  omega
theorem wf_u16 {n : Int} (h : (Lit.int .u16 n).wf = true) : 0 ≤ n ∧ n < 65536 := by
  simp [Lit.wf, IntKind.min, IntKind.max, IntKind.bits, IntKind.signed] at h
  omega
theorem wf_u8 {n : Int} (h : (Lit.int .u8 n).wf = true) : 0 ≤ n ∧ n < 256 := by
  simp [Lit.wf, IntKind.min, IntKind.max, IntKind.bits, IntKind.signed] at h
  omega
theorem wf_u64 {n : Int} (h : (Lit.int .u64 n).wf = true) : 0 ≤ n ∧ n < 18446744073709551616 := by
  simp [Lit.wf, IntKind.min, IntKind.max, IntKind.bits, IntKind.signed] at h
  omega
/-- A walk, from what the law returns. -/
theorem walk_of {P : Program} {f : FuncId} {args : List FV} {vals : Array Value} {w : World} (h : PureOk P f args (.e (.c (.bool true)))) (hr : RelL (fun _ => none) (fun _ => False) w args vals) :
    Calls P f vals w fun e w' => e = .returned (.bool true) ∧ Below w.heap.size w w' :=
  (h _ _ w vals hr (fun _ h => h.elim)).mono fun e w' ⟨v, he, hb, hv⟩ => by
    have hv' : v = .bool true := hv
    subst hv'
    exact ⟨he, hb⟩
end Go.Proofs.Ytolliidpmgncdaa.AX
