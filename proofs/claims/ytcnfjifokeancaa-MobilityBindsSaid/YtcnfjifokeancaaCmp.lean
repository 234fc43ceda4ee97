/- bytes.Compare, as a contract of AX2. -/
import Derived.Test.YtcnfjifokeancaaTp
import Derived.Test.YtcnfjifokeancaaLr
import Derived.Lib.BytesEntry
import Derived.Laws.Externs
import Derived.WalkKit
namespace Go.Proofs.Ytcnfjifokeancaa.AX
open Go.RowKit
set_option linter.unusedVariables false
set_option linter.unusedSimpArgs false
def cmpI : List Int → List Int → Int
  | [], [] => 0
  | [], _ :: _ => -1
  | _ :: _, [] => 1
  | a :: l, b :: m => if a < b then -1 else if b < a then 1 else cmpI l m
structure byL (l : List Int) : Prop where
  q : ∀ x ∈ l, 0 ≤ x ∧ x < 256
theorem u8_lt {a b : Int} (ha : 0 ≤ a ∧ a < 256) (hb : 0 ≤ b ∧ b < 256) : (a.toNat.toUInt8 < b.toNat.toUInt8) ↔ a < b := by
  rw [UInt8.lt_iff_toNat_lt]
  simp only [UInt8.toNat_ofNat']
  omega
theorem cmpI_eq : ∀ (a b : List Int), byL a → byL b → Lib.compareBytes (Lib.bytesOf a) (Lib.bytesOf b) = cmpI a b := by
  intro a
  induction a with
  | nil =>
    intro b _ _
    cases b <;> simp [Lib.bytesOf, Lib.compareBytes, cmpI]
  | cons x a ih =>
    intro b ha hb
    cases b with
    | nil => simp [Lib.bytesOf, Lib.compareBytes, cmpI]
    | cons y b =>
      have hx := ha.q x (by simp)
      have hy := hb.q y (by simp)
      have := ih b ⟨fun z hz => ha.q z (by simp [hz])⟩ ⟨fun z hz => hb.q z (by simp [hz])⟩
      simp only [Lib.bytesOf, List.map_cons, Lib.compareBytes, cmpI] at this ⊢
      rw [this]
      by_cases h1 : x < y
      · rw [if_pos ((u8_lt hx hy).2 h1), if_pos h1]
      · rw [if_neg (fun h => h1 ((u8_lt hx hy).1 h)), if_neg h1]
        by_cases h2 : y < x
        · rw [if_pos ((u8_lt hy hx).2 h2), if_pos h2]
        · rw [if_neg (fun h => h2 ((u8_lt hy hx).1 h)), if_neg h2]
theorem run_bytes {P : Program} {r : Ren} {X W : Nat → Prop} {w : World} {x : List Int} {v : Value} (h : (CV.sl false x.length 1 (rowF (eI .u8) x)).rel r X W w v) : ∃ B : ByteArray, B.data.toList = Lib.bytesOf x ∧ (Extern.Bytes.bytesOf v).run P w = .ok B w := by
  obtain ⟨a, cap, rfl, hn, hc⟩ := h
  cases a with
  | none =>
    have : x = [] := by
      rcases Nat.eq_zero_or_pos x.length with h | h
      · exact List.length_eq_zero_iff.1 h
      · obtain ⟨ad, h, _⟩ := hc h; cases h
    subst this
    exact ⟨.empty, rfl, rfl⟩
  | some ad =>
    refine ⟨⟨(Lib.bytesOf x).toArray⟩, by simp, ?_⟩
    show (Extern.Bytes.loadBytes ad x.length .empty).run P w = _
    rw [Lib.run_loadBytesX w x ad .empty fun j y hy => ?_]
    · congr 1
      apply ByteArray.ext
      show (#[] : Array UInt8) ++ _ = _
      simp
    · have hj : j < x.length := (List.getElem?_eq_some_iff.1 hy).1
      obtain ⟨ad', e, hs, _, _, _, hcell⟩ := hc (by omega)
      injection e with e
      subst e
      obtain ⟨u, hu, hr⟩ := hcell j hj 0 (by omega)
      have hr' : u = .int .u8 (x.getD j default) := hr
      rw [addS hs]
      rw [show j * 1 + 0 = j by omega] at hu
      rw [hu, hr']
      simp [List.getD_eq_getElem?_getD, hy]
theorem eI_sz {k : IntKind} : 0 < (eI k).sz := by show 0 < 1; omega
theorem compare_ok (x y : List Int) (hx : byL x) (hy : byL y) : PureOk Try.prog 55 [(cSl (eI .u8) eI_sz).enc x, (cSl (eI .u8) eI_sz).enc y] ((cI .i64).enc (cmpI x y)) := by
  intro X w vals hrel hX
  obtain ⟨v0, v1, rfl⟩ : ∃ v0 v1, vals = #[v0, v1] := by
    have h2 : vals.size = 2 := hrel.1
    match vals, h2 with
    | ⟨[a, b]⟩, _ => exact ⟨a, b, rfl⟩
  have h0 : (CV.sl false x.length 1 (rowF (eI .u8) x)).rel (fun _ => none) X (fun _ => False) w v0 := hrel.2 0 _ v0 rfl rfl
  have h1 : (CV.sl false y.length 1 (rowF (eI .u8) y)).rel (fun _ => none) X (fun _ => False) w v1 := hrel.2 1 _ v1 rfl rfl
  obtain ⟨B0, e0, r0⟩ := run_bytes (P := Try.prog) h0
  obtain ⟨B1, e1, r1⟩ := run_bytes (P := Try.prog) h1
  have hc : (Extern.BytealgCompare.compare #[v0, v1]).run Try.prog w = .ok (.int .i64 (cmpI x y)) w := by
    show Sem.run _ (do pure (goInt (Extern.BytealgCompare.cmp (← Extern.Bytes.bytesOf v0) (← Extern.Bytes.bytesOf v1)))) w = _
    simp only [Sem.run_bind, r0, r1, Result.andThen_ok, Sem.run_pure, goInt, Lib.cmp_eq, e0, e1, cmpI_eq x y hx hy]
  clear h0 h1 r0 r1 e0 e1 hrel
  have key : Calls Try.prog 55 #[v0, v1] w fun e w' => e = .returned (.int .i64 (cmpI x y)) ∧ w' = w := by
    go_enter Try.func55, Try.ntmps55
    go_wp2
    rw [run_callFunc_extern Try.func72 (by kernel_rfl) (by kernel_rfl) (by kernel_rfl) (e := Extern.BytealgCompare.compare) (by kernel_rfl), hc]
    simp only [Result.andThen]
    rw [Oper.upon_value]
    go_wp2
    go_ret
    exact ⟨rfl, rfl⟩
  refine key.mono fun e w' ⟨he, hw⟩ => ?_
  subst he hw
  exact ⟨_, rfl, Below.refl _ _, rfl⟩
end Go.Proofs.Ytcnfjifokeancaa.AX
