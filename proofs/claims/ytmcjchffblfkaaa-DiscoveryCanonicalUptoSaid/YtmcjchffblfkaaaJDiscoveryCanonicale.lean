/- Texts of one's own in one file: DiO4, DiO5, DiO6, DiE2, DiD, Tp5, DiM, DiK, DiK2, DiL, DiC, DiscoveryCanonicalA, Dt, DiscoveryCanonicalW, Bulk. -/
import Derived.Test.YtmcjchffblfkaaaJDiscoveryCanonicald
import Derived.Test.YtmcjchffblfkaaaJDiscoveryCanonicalc
import Derived.Test.YtmcjchffblfkaaaRows
/- Layer 20 by AX2: rounds of the loop that reads the options, the other kinds. (Printed by gen/gko.py.) -/
namespace Go.Proofs.Ytmcjchffblfkaaa.AX
open Go.RowKit
set_option linter.unusedVariables false
set_option linter.unusedSimpArgs false
set_option maxRecDepth 20000 in
theorem and15 {y : Int} (h : 0 ≤ y ∧ y < 256) : bits .and .u8 y 15 = y % 16 := by
  have key : ∀ y : Fin 256, bits .and .u8 (y.1 : Int) 15 = (y.1 : Int) % 16 := by decide
  obtain ⟨n, rfl⟩ : ∃ n : Nat, y = n := ⟨y.toNat, by omega⟩
  exact key ⟨n, by omega⟩
theorem bne_dec (x : Int) : (x != 0) = decide (x ≠ 0) := by
  by_cases h : x = 0 <;> simp [h]
set_option maxHeartbeats 8000000 in
set_option maxRecDepth 20000 in
theorem op_long {src dst : Fin 16 → Int} {H : Lay} {R : Option Msg} {post : FV → Hp → Nat → Prop} (s : OpS R) (a2 a3 a4 a5 : Int) (r : List Int) (e : s.l = 1 :: 2 :: a2 :: a3 :: a4 :: a5 :: r) (h6 : 10 ≤ r.length) : opG src dst H R post s := by
  obtain ⟨l, m, o, hR, hm, hl, hn⟩ := s
  dsimp only at e ⊢
  subst e
  have hlen : ((1 :: 2 :: a2 :: a3 :: a4 :: a5 :: r : List Int).length : Int) = r.length + 6 := by simp only [List.length_cons]; omega
  have hsz : IntKind.i64.wrap (IntKind.i64.wrap ((1 :: 2 :: a2 :: a3 :: a4 :: a5 :: r : List Int).getD (Int.toNat 1) default) * 8) = 16 := rfl
  have hO : ∀ i, i < 6 → okFrom (nth [.int .u8 1, .int .u8 2]) (fun j => nth mapL (3 * i + j)) [false, false] 0 = true := okK
  have hk : ¬ ((1 :: 2 :: a2 :: a3 :: a4 :: a5 :: r : List Int).length : Int) < IntKind.i64.wrap (IntKind.i64.wrap ((1 :: 2 :: a2 :: a3 :: a4 :: a5 :: r : List Int).getD (Int.toNat 1) default) * 8) := by
    rw [hsz]; omega
  have hz : 16 ≤ (1 :: 2 :: a2 :: a3 :: a4 :: a5 :: r : List Int).length := by simp only [List.length_cons]; omega
  have hb3 : 0 ≤ a3 ∧ a3 < 256 := bt_r hl 3
  repeat' (first | (apply And.intro <;> intro hc <;> (first | exact Bool.noConfusion hc | (exfalso; first | exact absurd rfl hc | exact absurd hc (by omega) | exact absurd hc hk) | (simp only [decide_eq_true_eq, decide_eq_false_iff_not, Bool.not_eq_true', Bool.not_eq_false', beq_iff_eq, beq_eq_false_iff_ne, bne_iff_ne, bne_eq_false_iff_eq, Bool.true_eq_false, Bool.false_eq_true, ne_eq, not_true_eq_false] at hc <;> first | exact absurd rfl hc | (exfalso; first | exact absurd rfl hc | exact absurd hc (by omega) | exact absurd hc hk) | skip) | skip)) | (refine And.intro (by first | exact trivial | decide | omega | (dsimp only; omega) | exact fun _ _ => rfl | exact ⟨by assumption, by first | exact trivial | decide | omega | (dsimp only; omega)⟩) ?_) | (apply And.intro) | (intro s hs; skip))
  · exact hO s hs
  · rfl
  · show BL (toL eB 16 fun i => rowF eB (1 :: 2 :: a2 :: a3 :: a4 :: a5 :: r) (0 + i)); rw [toL_tk0 _ _ hz]; exact hl.take 16
  · show (toL eB 16 fun i => rowF eB (1 :: 2 :: a2 :: a3 :: a4 :: a5 :: r) (0 + i)).length ≤ _; rw [toL_len]; decide
  · rfl
  · have hg := parse_go (k := 16) (y := 2) hR (by omega) (.inr (.inl ⟨rfl, rfl⟩)) rfl rfl hz
    have hmr := optF_r hm (hl.take 16)
    have h1 : IntKind.u64.wrap s = nmL ((1 :: 2 :: a2 :: a3 :: a4 :: a5 :: r).take 16) 2 8 := w64_at (hl.take 16) (a := 2) (pn_at hs (toL_tk0 _ _ hz))
    have h2 : s = nmL ((1 :: 2 :: a2 :: a3 :: a4 :: a5 :: r).take 16) 2 8 := pn_at hs (toL_tk0 _ _ hz)
    rw [show optF m ((1 :: 2 :: a2 :: a3 :: a4 :: a5 :: r).take 16) = { m with a := { m.a with mode := 3, short := 0, eui := nmL ((1 :: 2 :: a2 :: a3 :: a4 :: a5 :: r).take 16) 2 8 } } from by unfold optF; rw [if_neg (fun h => by have h := h.2; rw [List.length_take] at h; omega)]; exact if_pos rfl] at hg hmr
    refine ⟨⟨(1 :: 2 :: a2 :: a3 :: a4 :: a5 :: r).drop 16, _, (1 :: 2 :: a2 :: a3 :: a4 :: a5 :: r).take 16, hg, hmr, hl.drop 16, ?_⟩, [], ?_, rfl, ?_, ?_⟩
    · rw [List.length_drop]; dsimp only at hn ⊢; omega
    · dsimp only; rw [List.length_drop]; omega
    · refine ⟨leF_ptr rfl, leF_c (leC_mp rfl), leF_c (leC_drop _ 16 rfl), trivial⟩
    · refine ⟨⟨rfl, leN_varA fun _ _ => (Elem.flat _ _ _).le⟩, ⟨rfl, leN_varA fun _ _ => (Elem.flat _ _ _).le⟩, ⟨rfl, leN_zE⟩, ⟨rfl, leN_lay⟩, ⟨rfl, leN_par rfl (fun j hj => ?_) (leC_take _ 16 hz)⟩, ⟨rfl, leN_map⟩, ⟨rfl, leN_ents⟩, ⟨rfl, leN_ents⟩, trivial⟩
      · iterate 48 (rcases j with _ | j; · first | exact leC_int rfl | exact leC_bool rfl | exact leC_os rfl rfl | exact leC_int h1 | exact leC_int h2)
        exact absurd hj (by omega)
set_option maxHeartbeats 8000000 in
set_option maxRecDepth 20000 in
theorem op_owner {src dst : Fin 16 → Int} {H : Lay} {R : Option Msg} {post : FV → Hp → Nat → Prop} (s : OpS R) (a2 a3 a4 a5 : Int) (r : List Int) (e : s.l = 33 :: 2 :: a2 :: a3 :: a4 :: a5 :: r) (h6 : 10 ≤ r.length) : opG src dst H R post s := by
  obtain ⟨l, m, o, hR, hm, hl, hn⟩ := s
  dsimp only at e ⊢
  subst e
  have hlen : ((33 :: 2 :: a2 :: a3 :: a4 :: a5 :: r : List Int).length : Int) = r.length + 6 := by simp only [List.length_cons]; omega
  have hsz : IntKind.i64.wrap (IntKind.i64.wrap ((33 :: 2 :: a2 :: a3 :: a4 :: a5 :: r : List Int).getD (Int.toNat 1) default) * 8) = 16 := rfl
  have hO : ∀ i, i < 6 → okFrom (nth [.int .u8 33, .int .u8 2]) (fun j => nth mapL (3 * i + j)) [false, false] 0 = true := okK
  have hk : ¬ ((33 :: 2 :: a2 :: a3 :: a4 :: a5 :: r : List Int).length : Int) < IntKind.i64.wrap (IntKind.i64.wrap ((33 :: 2 :: a2 :: a3 :: a4 :: a5 :: r : List Int).getD (Int.toNat 1) default) * 8) := by
    rw [hsz]; omega
  have hz : 16 ≤ (33 :: 2 :: a2 :: a3 :: a4 :: a5 :: r : List Int).length := by simp only [List.length_cons]; omega
  have hb3 : 0 ≤ a3 ∧ a3 < 256 := bt_r hl 3
  repeat' (first | (apply And.intro <;> intro hc <;> (first | exact Bool.noConfusion hc | (exfalso; first | exact absurd rfl hc | exact absurd hc (by omega) | exact absurd hc hk) | (simp only [decide_eq_true_eq, decide_eq_false_iff_not, Bool.not_eq_true', Bool.not_eq_false', beq_iff_eq, beq_eq_false_iff_ne, bne_iff_ne, bne_eq_false_iff_eq, Bool.true_eq_false, Bool.false_eq_true, ne_eq, not_true_eq_false] at hc <;> first | exact absurd rfl hc | (exfalso; first | exact absurd rfl hc | exact absurd hc (by omega) | exact absurd hc hk) | skip) | skip)) | (refine And.intro (by first | exact trivial | decide | omega | (dsimp only; omega) | exact fun _ _ => rfl | exact ⟨by assumption, by first | exact trivial | decide | omega | (dsimp only; omega)⟩) ?_) | (apply And.intro) | (intro s hs; skip))
  · exact hO s hs
  · rfl
  · show BL (toL eB 16 fun i => rowF eB (33 :: 2 :: a2 :: a3 :: a4 :: a5 :: r) (0 + i)); rw [toL_tk0 _ _ hz]; exact hl.take 16
  · show (toL eB 16 fun i => rowF eB (33 :: 2 :: a2 :: a3 :: a4 :: a5 :: r) (0 + i)).length ≤ _; rw [toL_len]; decide
  · show BL (toL eB 16 fun i => rowF eB (33 :: 2 :: a2 :: a3 :: a4 :: a5 :: r) (0 + i)); rw [toL_tk0 _ _ hz]; exact hl.take 16
  · show (toL eB 16 fun i => rowF eB (33 :: 2 :: a2 :: a3 :: a4 :: a5 :: r) (0 + i)).length ≤ _; rw [toL_len]; decide
  · rfl
  · have hg := parse_go (k := 16) (y := 2) hR (by omega) (.inr (.inr (.inl ⟨rfl, rfl⟩))) rfl rfl hz
    have hmr := optF_r hm (hl.take 16)
    rename_i u hu
    have h1 : IntKind.u16.wrap u = nmL ((33 :: 2 :: a2 :: a3 :: a4 :: a5 :: r).take 16) 6 2 := w16_at (hl.take 16) (a := 6) (pn_at hu (toL_tk0 _ _ hz))
    have h2 : IntKind.u64.wrap s = nmL ((33 :: 2 :: a2 :: a3 :: a4 :: a5 :: r).take 16) 8 8 := w64_at (hl.take 16) (a := 8) (pn_at hs (toL_tk0 _ _ hz))
    have h3 : s = nmL ((33 :: 2 :: a2 :: a3 :: a4 :: a5 :: r).take 16) 8 8 := pn_at hs (toL_tk0 _ _ hz)
    rw [show optF m ((33 :: 2 :: a2 :: a3 :: a4 :: a5 :: r).take 16) = { m with a := { m.a with hasO := true, ostat := a2, oseq := a5, olife := nmL ((33 :: 2 :: a2 :: a3 :: a4 :: a5 :: r).take 16) 6 2, oeui := nmL ((33 :: 2 :: a2 :: a3 :: a4 :: a5 :: r).take 16) 8 8 } } from rfl] at hg hmr
    refine ⟨⟨(33 :: 2 :: a2 :: a3 :: a4 :: a5 :: r).drop 16, _, (33 :: 2 :: a2 :: a3 :: a4 :: a5 :: r).take 16, hg, hmr, hl.drop 16, ?_⟩, [], ?_, rfl, ?_, ?_⟩
    · rw [List.length_drop]; dsimp only at hn ⊢; omega
    · dsimp only; rw [List.length_drop]; omega
    · refine ⟨leF_ptr rfl, leF_c (leC_mp rfl), leF_c (leC_drop _ 16 rfl), trivial⟩
    · refine ⟨⟨rfl, leN_varA fun _ _ => (Elem.flat _ _ _).le⟩, ⟨rfl, leN_varA fun _ _ => (Elem.flat _ _ _).le⟩, ⟨rfl, leN_zE⟩, ⟨rfl, leN_lay⟩, ⟨rfl, leN_par rfl (fun j hj => ?_) (leC_take _ 16 hz)⟩, ⟨rfl, leN_map⟩, ⟨rfl, leN_ents⟩, ⟨rfl, leN_ents⟩, trivial⟩
      · iterate 48 (rcases j with _ | j; · first | exact leC_int rfl | exact leC_bool rfl | exact leC_os rfl rfl | exact leC_int h1 | exact leC_int h2 | exact leC_int h3)
        exact absurd hj (by omega)
set_option maxHeartbeats 8000000 in
set_option maxRecDepth 20000 in
theorem op_border {src dst : Fin 16 → Int} {H : Lay} {R : Option Msg} {post : FV → Hp → Nat → Prop} (s : OpS R) (a2 a3 a4 a5 : Int) (r : List Int) (e : s.l = 35 :: 3 :: a2 :: a3 :: a4 :: a5 :: r) (h6 : 18 ≤ r.length) : opG src dst H R post s := by
  obtain ⟨l, m, o, hR, hm, hl, hn⟩ := s
  dsimp only at e ⊢
  subst e
  have hlen : ((35 :: 3 :: a2 :: a3 :: a4 :: a5 :: r : List Int).length : Int) = r.length + 6 := by simp only [List.length_cons]; omega
  have hsz : IntKind.i64.wrap (IntKind.i64.wrap ((35 :: 3 :: a2 :: a3 :: a4 :: a5 :: r : List Int).getD (Int.toNat 1) default) * 8) = 24 := rfl
  have hO : ∀ i, i < 6 → okFrom (nth [.int .u8 35, .int .u8 3]) (fun j => nth mapL (3 * i + j)) [false, false] 0 = true := okK
  have hk : ¬ ((35 :: 3 :: a2 :: a3 :: a4 :: a5 :: r : List Int).length : Int) < IntKind.i64.wrap (IntKind.i64.wrap ((35 :: 3 :: a2 :: a3 :: a4 :: a5 :: r : List Int).getD (Int.toNat 1) default) * 8) := by
    rw [hsz]; omega
  have hz : 24 ≤ (35 :: 3 :: a2 :: a3 :: a4 :: a5 :: r : List Int).length := by simp only [List.length_cons]; omega
  have hb3 : 0 ≤ a3 ∧ a3 < 256 := bt_r hl 3
  repeat' (first | (apply And.intro <;> intro hc <;> (first | exact Bool.noConfusion hc | (exfalso; first | exact absurd rfl hc | exact absurd hc (by omega) | exact absurd hc hk) | (simp only [decide_eq_true_eq, decide_eq_false_iff_not, Bool.not_eq_true', Bool.not_eq_false', beq_iff_eq, beq_eq_false_iff_ne, bne_iff_ne, bne_eq_false_iff_eq, Bool.true_eq_false, Bool.false_eq_true, ne_eq, not_true_eq_false] at hc <;> first | exact absurd rfl hc | (exfalso; first | exact absurd rfl hc | exact absurd hc (by omega) | exact absurd hc hk) | skip) | skip)) | (refine And.intro (by first | exact trivial | decide | omega | (dsimp only; omega) | exact fun _ _ => rfl | exact ⟨by assumption, by first | exact trivial | decide | omega | (dsimp only; omega)⟩) ?_) | (apply And.intro) | (intro s hs; skip))
  · exact hO s hs
  · rfl
  · show BL (toL eB 24 fun i => rowF eB (35 :: 3 :: a2 :: a3 :: a4 :: a5 :: r) (0 + i)); rw [toL_tk0 _ _ hz]; exact hl.take 24
  · show (toL eB 24 fun i => rowF eB (35 :: 3 :: a2 :: a3 :: a4 :: a5 :: r) (0 + i)).length ≤ _; rw [toL_len]; decide
  · show BL (toL eB 24 fun i => rowF eB (35 :: 3 :: a2 :: a3 :: a4 :: a5 :: r) (0 + i)); rw [toL_tk0 _ _ hz]; exact hl.take 24
  · show (toL eB 24 fun i => rowF eB (35 :: 3 :: a2 :: a3 :: a4 :: a5 :: r) (0 + i)).length ≤ _; rw [toL_len]; decide
  · show (8 : Int) + 16 ≤ ((toL eB 24 fun i => rowF eB (35 :: 3 :: a2 :: a3 :: a4 :: a5 :: r) (0 + i)).length : Int); rw [toL_len]; decide
  · rfl
  · have hg := parse_go (k := 24) (y := 3) hR (by omega) (.inr (.inr (.inr (.inr (.inr ⟨rfl, rfl⟩))))) rfl rfl hz
    have hmr := optF_r hm (hl.take 24)
    rename_i u hu v hv
    have h1 : IntKind.u16.wrap u = nmL ((35 :: 3 :: a2 :: a3 :: a4 :: a5 :: r).take 24) 2 2 := w16_at (hl.take 24) (a := 2) (pn_at hu (toL_tk0 _ _ hz))
    have h2 : IntKind.u32.wrap v = nmL ((35 :: 3 :: a2 :: a3 :: a4 :: a5 :: r).take 24) 4 4 := w32_at (hl.take 24) (a := 4) (pn_at hv (toL_tk0 _ _ hz))
    have q : s = ipF ((35 :: 3 :: a2 :: a3 :: a4 :: a5 :: r).take 24) 8 := pi_at hs (toL_tk0 _ _ hz)
    clear hs
    subst q
    rw [show optF m ((35 :: 3 :: a2 :: a3 :: a4 :: a5 :: r).take 24) = { m with z := ⟨nmL ((35 :: 3 :: a2 :: a3 :: a4 :: a5 :: r).take 24) 4 4, nmL ((35 :: 3 :: a2 :: a3 :: a4 :: a5 :: r).take 24) 2 2, ipF ((35 :: 3 :: a2 :: a3 :: a4 :: a5 :: r).take 24) 8, true⟩ } from rfl] at hg hmr
    refine ⟨⟨(35 :: 3 :: a2 :: a3 :: a4 :: a5 :: r).drop 24, _, (35 :: 3 :: a2 :: a3 :: a4 :: a5 :: r).take 24, hg, hmr, hl.drop 24, ?_⟩, [], ?_, rfl, ?_, ?_⟩
    · rw [List.length_drop]; dsimp only at hn ⊢; omega
    · dsimp only; rw [List.length_drop]; omega
    · refine ⟨leF_ptr rfl, leF_c (leC_mp rfl), leF_c (leC_drop _ 24 rfl), trivial⟩
    · refine ⟨⟨rfl, leN_varA fun _ _ => (Elem.flat _ _ _).le⟩, ⟨rfl, leN_varA fun _ _ => (Elem.flat _ _ _).le⟩, ⟨rfl, leN_zE⟩, ⟨rfl, leN_lay⟩, ⟨rfl, leN_par rfl (fun j hj => ?_) (leC_take _ 24 hz)⟩, ⟨rfl, leN_map⟩, ⟨rfl, leN_ents⟩, ⟨rfl, leN_ents⟩, trivial⟩
      · iterate 48 (rcases j with _ | j; · first | exact leC_int rfl | exact leC_bool rfl | exact leC_os rfl rfl | exact leC_int h1 | exact leC_int h2)
        exact absurd hj (by omega)
end Go.Proofs.Ytmcjchffblfkaaa.AX

/- Layer 20 by AX2: rounds of the loop that reads the options, the other kinds. (Printed by gen/gko.py.) -/
namespace Go.Proofs.Ytmcjchffblfkaaa.AX
open Go.RowKit
set_option linter.unusedVariables false
set_option linter.unusedSimpArgs false
set_option maxHeartbeats 8000000 in
set_option maxRecDepth 20000 in
theorem op_prefix {src dst : Fin 16 → Int} {H : Lay} {R : Option Msg} {post : FV → Hp → Nat → Prop} (s : OpS R) (a2 a3 a4 a5 : Int) (r : List Int) (e : s.l = 3 :: 4 :: a2 :: a3 :: a4 :: a5 :: r) (h6 : 26 ≤ r.length) : opG src dst H R post s := by
  obtain ⟨l, m, o, hR, hm, hl, hn⟩ := s
  dsimp only at e ⊢
  subst e
  have hlen : ((3 :: 4 :: a2 :: a3 :: a4 :: a5 :: r : List Int).length : Int) = r.length + 6 := by simp only [List.length_cons]; omega
  have hsz : IntKind.i64.wrap (IntKind.i64.wrap ((3 :: 4 :: a2 :: a3 :: a4 :: a5 :: r : List Int).getD (Int.toNat 1) default) * 8) = 32 := rfl
  have hO : ∀ i, i < 6 → okFrom (nth [.int .u8 3, .int .u8 4]) (fun j => nth mapL (3 * i + j)) [false, false] 0 = true := okK
  have hk : ¬ ((3 :: 4 :: a2 :: a3 :: a4 :: a5 :: r : List Int).length : Int) < IntKind.i64.wrap (IntKind.i64.wrap ((3 :: 4 :: a2 :: a3 :: a4 :: a5 :: r : List Int).getD (Int.toNat 1) default) * 8) := by
    rw [hsz]; omega
  have hz : 32 ≤ (3 :: 4 :: a2 :: a3 :: a4 :: a5 :: r : List Int).length := by simp only [List.length_cons]; omega
  have hb3 : 0 ≤ a3 ∧ a3 < 256 := bt_r hl 3
  repeat' (first | (apply And.intro <;> intro hc <;> (first | exact Bool.noConfusion hc | (exfalso; first | exact absurd rfl hc | exact absurd hc (by omega) | exact absurd hc hk) | (simp only [decide_eq_true_eq, decide_eq_false_iff_not, Bool.not_eq_true', Bool.not_eq_false', beq_iff_eq, beq_eq_false_iff_ne, bne_iff_ne, bne_eq_false_iff_eq, Bool.true_eq_false, Bool.false_eq_true, ne_eq, not_true_eq_false] at hc <;> first | exact absurd rfl hc | (exfalso; first | exact absurd rfl hc | exact absurd hc (by omega) | exact absurd hc hk) | skip) | skip)) | (refine And.intro (by first | exact trivial | decide | omega | (dsimp only; omega) | exact fun _ _ => rfl | exact ⟨by assumption, by first | exact trivial | decide | omega | (dsimp only; omega)⟩) ?_) | (apply And.intro) | (intro s hs; skip))
  · exact hO s hs
  · rfl
  · show (16 : Int) + 16 ≤ ((toL eB 32 fun i => rowF eB (3 :: 4 :: a2 :: a3 :: a4 :: a5 :: r) (0 + i)).length : Int); rw [toL_len]; decide
  · show BL (toL eB 32 fun i => rowF eB (3 :: 4 :: a2 :: a3 :: a4 :: a5 :: r) (0 + i)); rw [toL_tk0 _ _ hz]; exact hl.take 32
  · show (toL eB 32 fun i => rowF eB (3 :: 4 :: a2 :: a3 :: a4 :: a5 :: r) (0 + i)).length ≤ _; rw [toL_len]; decide
  · rfl
  · have hg := parse_go (k := 32) (y := 4) hR (by omega) (.inr (.inr (.inr (.inl ⟨rfl, rfl⟩)))) rfl rfl hz
    have hmr := optF_r hm (hl.take 32)
    rename_i u hu
    have h1 : IntKind.u32.wrap s = nmL ((3 :: 4 :: a2 :: a3 :: a4 :: a5 :: r).take 32) 4 4 := w32_at (hl.take 32) (a := 4) (pn_at hs (toL_tk0 _ _ hz))
    have q : u = ipF ((3 :: 4 :: a2 :: a3 :: a4 :: a5 :: r).take 32) 16 := pi_at hu (toL_tk0 _ _ hz)
    clear hu
    subst q
    have e2 : IntKind.i64.wrap a2 = a2 := IntWalk.i64_in _ (by have := bt_r hl 2; have : 0 ≤ a2 ∧ a2 < 256 := this; omega)
    rw [show optF m ((3 :: 4 :: a2 :: a3 :: a4 :: a5 :: r).take 32) = { m with p := m.p ++ [⟨ipF ((3 :: 4 :: a2 :: a3 :: a4 :: a5 :: r).take 32) 16, a2, decide (bits .and .u8 a3 128 ≠ 0), decide (bits .and .u8 a3 64 ≠ 0), nmL ((3 :: 4 :: a2 :: a3 :: a4 :: a5 :: r).take 32) 4 4⟩] } from rfl] at hg hmr
    refine ⟨⟨(3 :: 4 :: a2 :: a3 :: a4 :: a5 :: r).drop 32, _, (3 :: 4 :: a2 :: a3 :: a4 :: a5 :: r).take 32, hg, hmr, hl.drop 32, ?_⟩, [(9002, some 11921)], ?_, rfl, ?_, ?_⟩
    · rw [List.length_drop]; dsimp only at hn ⊢; rw [List.length_append]; simp only [List.length_cons, List.length_nil] at hn ⊢; omega
    · dsimp only; rw [List.length_drop]; omega
    · refine ⟨leF_ptr rfl, leF_c (leC_mp rfl), leF_c (leC_drop _ 32 rfl), trivial⟩
    · refine ⟨⟨rfl, leN_varA fun _ _ => (Elem.flat _ _ _).le⟩, ⟨rfl, leN_varA fun _ _ => (Elem.flat _ _ _).le⟩, ⟨rfl, leN_zE⟩, ⟨rfl, leN_lay⟩, ⟨rfl, leN_par rfl (fun j hj => ?_) (leC_take _ 32 hz)⟩, ⟨rfl, leN_map⟩, ⟨rfl, ?_⟩, ⟨rfl, leN_ents⟩, trivial⟩
      · iterate 48 (rcases j with _ | j; · first | exact leC_int rfl | exact leC_bool rfl | exact leC_os rfl rfl | exact leC_os rfl (by rw [List.length_append]; rfl))
        exact absurd hj (by omega)
      · change LeN _ _ _
        refine leN_snoc (E := ePI) (L := m.p) (x := ⟨ipF ((3 :: 4 :: a2 :: a3 :: a4 :: a5 :: r).take 32) 16, a2, decide (bits .and .u8 a3 128 ≠ 0), decide (bits .and .u8 a3 64 ≠ 0), nmL ((3 :: 4 :: a2 :: a3 :: a4 :: a5 :: r).take 32) 4 4⟩) rfl (fun i hi j hj => selC_in (Nat.ble_eq_true_of_le hi) (Elem.flat _ _ _).le) ?_
        repeat' (first | exact trivial | (refine selC_out (blt_self _) ?_; rw [Nat.sub_self]; first | exact leC_int rfl | exact leC_bool rfl | exact leC_int h1 | exact leC_int e2 | exact leC_bool (bne_dec _)) | apply And.intro)
set_option maxHeartbeats 8000000 in
set_option maxRecDepth 20000 in
theorem op_context {src dst : Fin 16 → Int} {H : Lay} {R : Option Msg} {post : FV → Hp → Nat → Prop} (s : OpS R) (a2 a3 a4 a5 : Int) (r : List Int) (e : s.l = 34 :: 3 :: a2 :: a3 :: a4 :: a5 :: r) (h6 : 18 ≤ r.length) : opG src dst H R post s := by
  obtain ⟨l, m, o, hR, hm, hl, hn⟩ := s
  dsimp only at e ⊢
  subst e
  have hlen : ((34 :: 3 :: a2 :: a3 :: a4 :: a5 :: r : List Int).length : Int) = r.length + 6 := by simp only [List.length_cons]; omega
  have hsz : IntKind.i64.wrap (IntKind.i64.wrap ((34 :: 3 :: a2 :: a3 :: a4 :: a5 :: r : List Int).getD (Int.toNat 1) default) * 8) = 24 := rfl
  have hO : ∀ i, i < 6 → okFrom (nth [.int .u8 34, .int .u8 3]) (fun j => nth mapL (3 * i + j)) [false, false] 0 = true := okK
  have hk : ¬ ((34 :: 3 :: a2 :: a3 :: a4 :: a5 :: r : List Int).length : Int) < IntKind.i64.wrap (IntKind.i64.wrap ((34 :: 3 :: a2 :: a3 :: a4 :: a5 :: r : List Int).getD (Int.toNat 1) default) * 8) := by
    rw [hsz]; omega
  have hz : 24 ≤ (34 :: 3 :: a2 :: a3 :: a4 :: a5 :: r : List Int).length := by simp only [List.length_cons]; omega
  have hb3 : 0 ≤ a3 ∧ a3 < 256 := bt_r hl 3
  repeat' (first | (apply And.intro <;> intro hc <;> (first | exact Bool.noConfusion hc | (exfalso; first | exact absurd rfl hc | exact absurd hc (by omega) | exact absurd hc hk) | (simp only [decide_eq_true_eq, decide_eq_false_iff_not, Bool.not_eq_true', Bool.not_eq_false', beq_iff_eq, beq_eq_false_iff_ne, bne_iff_ne, bne_eq_false_iff_eq, Bool.true_eq_false, Bool.false_eq_true, ne_eq, not_true_eq_false] at hc <;> first | exact absurd rfl hc | (exfalso; first | exact absurd rfl hc | exact absurd hc (by omega) | exact absurd hc hk) | skip) | skip)) | (refine And.intro (by first | exact trivial | decide | omega | (dsimp only; omega) | exact fun _ _ => rfl | exact ⟨by assumption, by first | exact trivial | decide | omega | (dsimp only; omega)⟩) ?_) | (apply And.intro) | (intro s hs; skip))
  · exact hO s hs
  · rfl
  · show (8 : Int) + 16 ≤ ((toL eB 24 fun i => rowF eB (34 :: 3 :: a2 :: a3 :: a4 :: a5 :: r) (0 + i)).length : Int); rw [toL_len]; decide
  · show BL (toL eB 24 fun i => rowF eB (34 :: 3 :: a2 :: a3 :: a4 :: a5 :: r) (0 + i)); rw [toL_tk0 _ _ hz]; exact hl.take 24
  · show (toL eB 24 fun i => rowF eB (34 :: 3 :: a2 :: a3 :: a4 :: a5 :: r) (0 + i)).length ≤ _; rw [toL_len]; decide
  · rfl
  · have hg := parse_go (k := 24) (y := 3) hR (by omega) (.inr (.inr (.inr (.inr (.inl ⟨rfl, rfl⟩))))) rfl rfl hz
    have hmr := optF_r hm (hl.take 24)
    rename_i u hu
    have h1 : IntKind.u16.wrap s = nmL ((34 :: 3 :: a2 :: a3 :: a4 :: a5 :: r).take 24) 6 2 := w16_at (hl.take 24) (a := 6) (pn_at hs (toL_tk0 _ _ hz))
    have q : u = ipF ((34 :: 3 :: a2 :: a3 :: a4 :: a5 :: r).take 24) 8 := pi_at hu (toL_tk0 _ _ hz)
    clear hu
    subst q
    have e2 : IntKind.i64.wrap a2 = a2 := IntWalk.i64_in _ (by have := bt_r hl 2; have : 0 ≤ a2 ∧ a2 < 256 := this; omega)
    have e3 : IntKind.i64.wrap (bits .and .u8 a3 15) = a3 % 16 := by rw [and15 hb3]; exact IntWalk.i64_in _ (by omega)
    rw [show optF m ((34 :: 3 :: a2 :: a3 :: a4 :: a5 :: r).take 24) = { m with c := m.c ++ [⟨a3 % 16, ipF ((34 :: 3 :: a2 :: a3 :: a4 :: a5 :: r).take 24) 8, a2, decide (bits .and .u8 a3 16 ≠ 0), nmL ((34 :: 3 :: a2 :: a3 :: a4 :: a5 :: r).take 24) 6 2⟩] } from rfl] at hg hmr
    refine ⟨⟨(34 :: 3 :: a2 :: a3 :: a4 :: a5 :: r).drop 24, _, (34 :: 3 :: a2 :: a3 :: a4 :: a5 :: r).take 24, hg, hmr, hl.drop 24, ?_⟩, [(9003, some 11921)], ?_, rfl, ?_, ?_⟩
    · rw [List.length_drop]; dsimp only at hn ⊢; rw [List.length_append]; simp only [List.length_cons, List.length_nil] at hn ⊢; omega
    · dsimp only; rw [List.length_drop]; omega
    · refine ⟨leF_ptr rfl, leF_c (leC_mp rfl), leF_c (leC_drop _ 24 rfl), trivial⟩
    · refine ⟨⟨rfl, leN_varA fun _ _ => (Elem.flat _ _ _).le⟩, ⟨rfl, leN_varA fun _ _ => (Elem.flat _ _ _).le⟩, ⟨rfl, leN_zE⟩, ⟨rfl, leN_lay⟩, ⟨rfl, leN_par rfl (fun j hj => ?_) (leC_take _ 24 hz)⟩, ⟨rfl, leN_map⟩, ⟨rfl, leN_ents⟩, ⟨rfl, ?_⟩, trivial⟩
      · iterate 48 (rcases j with _ | j; · first | exact leC_int rfl | exact leC_bool rfl | exact leC_os rfl rfl | exact leC_os rfl (by rw [List.length_append]; rfl))
        exact absurd hj (by omega)
      · change LeN _ _ _
        refine leN_snoc (E := eCI) (L := m.c) (x := ⟨a3 % 16, ipF ((34 :: 3 :: a2 :: a3 :: a4 :: a5 :: r).take 24) 8, a2, decide (bits .and .u8 a3 16 ≠ 0), nmL ((34 :: 3 :: a2 :: a3 :: a4 :: a5 :: r).take 24) 6 2⟩) rfl (fun i hi j hj => selC_in (Nat.ble_eq_true_of_le hi) (Elem.flat _ _ _).le) ?_
        repeat' (first | exact trivial | (refine selC_out (blt_self _) ?_; rw [Nat.sub_self]; first | exact leC_int rfl | exact leC_bool rfl | exact leC_int h1 | exact leC_int e2 | exact leC_int e3 | exact leC_bool (bne_dec _)) | apply And.intro)
end Go.Proofs.Ytmcjchffblfkaaa.AX

/- Layer 20 by AX2: the loop that reads the options, and what lies around it. -/
namespace Go.Proofs.Ytmcjchffblfkaaa.AX
open Go.RowKit
set_option linter.unusedVariables false
set_option linter.unusedSimpArgs false
theorem op_round {src dst : Fin 16 → Int} {H : Lay} {R : Option Msg} {post : FV → Hp → Nat → Prop} (hP : OpP src dst H R post) (s : OpS R) : opG src dst H R post s := by
  by_cases h0 : s.l = []
  · exact op_nil hP s h0
  by_cases h8 : s.l.length < 8
  · exact op_few hP s h0 h8
  by_cases hk : knownK (byt s.l 0) (byt s.l 1)
  · by_cases hz : 8 * byt s.l 1 ≤ s.l.length
    · obtain ⟨x, y, a2, a3, a4, a5, r, e⟩ : ∃ x y a2 a3 a4 a5 r, s.l = x :: y :: a2 :: a3 :: a4 :: a5 :: r := by
        generalize s.l = l at h8
        rcases l with _ | ⟨x, _ | ⟨y, _ | ⟨a2, _ | ⟨a3, _ | ⟨a4, _ | ⟨a5, r⟩⟩⟩⟩⟩⟩
        · exact absurd (by decide) h8
        · exact absurd (by show 0 + 1 < 8; omega) h8
        · exact absurd (by show 0 + 1 + 1 < 8; omega) h8
        · exact absurd (by show 0 + 1 + 1 + 1 < 8; omega) h8
        · exact absurd (by show 0 + 1 + 1 + 1 + 1 < 8; omega) h8
        · exact absurd (by show 0 + 1 + 1 + 1 + 1 + 1 < 8; omega) h8
        · exact ⟨x, y, a2, a3, a4, a5, r, rfl⟩
      rw [e] at hk hz h8
      have hk : knownK x y := hk
      have hz : 8 * y ≤ ((x :: y :: a2 :: a3 :: a4 :: a5 :: r).length : Int) := hz
      simp only [List.length_cons] at hz h8
      rcases hk with ⟨rfl, rfl⟩ | ⟨rfl, rfl⟩ | ⟨rfl, rfl⟩ | ⟨rfl, rfl⟩ | ⟨rfl, rfl⟩ | ⟨rfl, rfl⟩
      · exact op_short s _ e (by simp only [List.length_cons]; omega)
      · exact op_long s a2 a3 a4 a5 r e (by omega)
      · exact op_owner s a2 a3 a4 a5 r e (by omega)
      · exact op_prefix s a2 a3 a4 a5 r e (by omega)
      · exact op_context s a2 a3 a4 a5 r e (by omega)
      · exact op_border s a2 a3 a4 a5 r e (by omega)
    · exact op_cut hP s h8 hz
  · exact op_unk hP s h8 hk
set_option maxHeartbeats 8000000 in
set_option maxRecDepth 20000 in
theorem op_run {src dst : Fin 16 → Int} {H : Lay} {R : Option Msg} {post : FV → Hp → Nat → Prop} (hP : OpP src dst H R post) (s : OpS R) (hp : s.m.p = []) (hc : s.m.c = []) (ho : s.o = s.l) :
    exec T (mkQ LDo) 64 Try.f49.ntmps 8197 opC (argFr [one (.ptr 4 0 0 false)] 0) [(0, some (ipE src)), (1, some (ipE dst)), (2, some zEnt), (3, some (layEn H)), (4, some (pEnt s.m .nils .nils s.l))] 8197 (opE post) := by
  have hr := op_round hP
  obtain ⟨l, ⟨a, p, c, z⟩, o, hR, hm, hl, hn⟩ := s
  dsimp only at hp hc ho ⊢
  subst hp hc ho
  conv => whnf
  iterate 6 (refine And.intro (by intro i hi; (iterate 5 (try (rcases i with _ | i; · exact rfl))); exact absurd hi (Nat.not_lt.2 (Nat.le_of_ble_eq_true rfl))) ?_)
  refine loop_intro (mono_of LDo_ok) (HO src dst H (R := R)) (fun s => s.l.length) (fun _ => rfl) hr ⟨_, ⟨a, [], [], z⟩, _, hR, hm, hl, hn⟩ [(9001, some 8261), (9002, none), (9003, none)] ⟨rfl, ⟨leF_ptr rfl, leF_c (leC_mp rfl), leF_c (leC_cl (cl_slB eB _)), trivial⟩, ⟨rfl, leN_varA fun _ _ => (Elem.flat _ _ _).le⟩, ⟨rfl, leN_varA fun _ _ => (Elem.flat _ _ _).le⟩, ⟨rfl, leN_zE⟩, ⟨rfl, leN_lay⟩, ⟨rfl, leN_par rfl (fun j hj => ?_) (leC_cl (cl_slB eB _))⟩, ⟨rfl, ?_⟩, ⟨rfl, rfl, rfl, Nat.le_of_ble_eq_true rfl⟩, ⟨rfl, rfl, rfl, Nat.le_of_ble_eq_true rfl⟩, trivial⟩
  · iterate 48 (rcases j with _ | j; · first | exact leC_int rfl | exact leC_bool rfl | exact leC_nils_os rfl)
    exact absurd hj (by omega)
  · refine leN_row rfl fun i hi j hj => ?_
    iterate 6 (rcases i with _ | i; · iterate 3 (rcases j with _ | j; · first | exact leC_int rfl | exact leC_fn0)
                                      exact absurd hj (by show ¬ _ < 3; omega))
    exact absurd hi (by show ¬ _ < 6; omega)
end Go.Proofs.Ytmcjchffblfkaaa.AX

/- Layer 20 by AX2: Decode of the program, from the options on. -/
namespace Go.Proofs.Ytmcjchffblfkaaa.AX
open Go.RowKit
set_option linter.unusedVariables false
set_option linter.unusedSimpArgs false
def HA2 (b : List Int) (src dst : Fin 16 → Int) (H : Lay) (m : Msg) (l : List Int) (_ : Unit) : Hd :=
  ⟨[(0, one (slY b)), (4, one (.ptr 0 0 0 false)), (5, one (.ptr 1 0 0 false)), (6, one (.ptr 2 0 0 false)), (12, one (.ptr 4 0 0 false))],
   [(0, some (ipE src)), (1, some (ipE dst)), (2, some zEnt), (3, some (layEn H)), (4, some (pEnt m .nils .nils l))], 5⟩
theorem par_rd {m : Msg} {P C : CV} {l : List Int} : (⟨eMA.rd fun q => pCell m P C l (0 + 0 + q), toL ePI m.p.length fun k j => rowF ePI m.p (0 + k) j, toL eCI m.c.length fun k j => rowF eCI m.c (0 + k) j, eMZ.rd fun q => pCell m P C l (0 + 0 + (29 + q))⟩ : Msg) = m := by
  refine msg_is (a := m.a) (p := m.p) (c := m.c) (z := m.z) (fun j hj => ?_) ?_ ?_ (fun j hj => ?_)
  · iterate 27 (rcases j with _ | j; · rfl)
    exact absurd hj (by omega)
  · simp only [Nat.zero_add]; exact toL_P m.p
  · simp only [Nat.zero_add]; exact toL_C m.c
  · iterate 19 (rcases j with _ | j; · rfl)
    exact absurd hj (by omega)
theorem encP_at {M m : Msg} {S D src dst : Fin 16 → Int} (h1 : M = m) (h2 : S = src) (h3 : D = dst) (h : EncP m src dst) : EncP M S D := by rw [h1, h2, h3]; exact h
theorem enc_at {s : Option (List Int)} {M m : Msg} {S D src dst : Fin 16 → Int} (hs : s = encDM M S D) (h1 : M = m) (h2 : S = src) (h3 : D = dst) : s = encDM m src dst := by rw [hs, h1, h2, h3]
theorem dec_eq2 {A B a b : List Int} (h1 : A = a) (h2 : B = b) : decide (a = b) = decide (A = B) := by rw [h1, h2]
set_option maxHeartbeats 8000000 in
set_option maxRecDepth 20000 in
theorem dd2 (b : List Int) (src dst : Fin 16 → Int) (H : Lay) (W : Msg × Int) (hb : BL b) (hs0 : byteOk src) (hd0 : byteOk dst) (hl : b.length ≤ 1099511627776) (hz : H.size = headN (byt b 0)) (hle : headN (byt b 0) ≤ b.length) (hp0 : proF b = parseL (b.drop (headN (byt b 0))) (headF b))
    (hW : W = match proF b with
      | some m => if encDM m src dst = some b then (m, 0) else (noM, 5)
      | none => (noM, 5)) : Sem Try.prog Try.f21.ntmps 0 (dropD 7 (Try.f21.body.getD Code.ret)) (HA b src dst H (headF b) ()).fr (HA b src dst H (headF b) ()).H (HA b src dst H (headF b) ()).nx (endH T Try.f21.results.toList fun x H _ => Done H x (encMD W)) := by
  have h8 := headN_le (byt b 0)
  have hM := headF_p b
  have hMr := headF_r hb
  obtain ⟨M, eM⟩ : ∃ M, headF b = M := ⟨_, rfl⟩
  obtain ⟨N, eN⟩ : ∃ N, headN (byt b 0) = N := ⟨_, rfl⟩
  rw [eM] at hM hMr hp0 ⊢
  rw [eN] at h8 hz hle hp0
  have z1 : (0 : Int) ≤ H.size := by omega
  have z2 : H.size ≤ (b.length : Int) := by omega
  change Sem _ _ _ _ _ _ _ _; refine sem_cut (wd := 1) (Q := mkQ LDd) (by decide) tysOk (q_of LDd_ok) (mono_of LDd_ok) mixed (HA2 b src dst H M (b.drop N)) (by intro _; rfl) ?_ ?_
  · repeat' (first | (apply And.intro <;> intro hc <;> (first | exact Bool.noConfusion hc | (exfalso; first | exact absurd rfl hc) | (simp only [decide_eq_true_eq, decide_eq_false_iff_not, Bool.not_eq_true', Bool.not_eq_false', beq_iff_eq, beq_eq_false_iff_ne, bne_iff_ne, bne_eq_false_iff_eq, Bool.true_eq_false, Bool.false_eq_true, ne_eq, not_true_eq_false] at hc <;> first | exact absurd rfl hc | (exfalso; first | exact absurd rfl hc) | skip) | skip)) | (refine And.intro (by first | exact trivial | decide | omega | (dsimp only; omega) | exact fun _ _ => rfl | exact ⟨by assumption, by first | exact trivial | decide | omega | (dsimp only; omega)⟩) ?_) | (apply And.intro) | (intro s hs; skip))
    refine ⟨(), [], rfl, ?_, ?_⟩
    · repeat' (first | exact trivial | exact rfl | exact leF_ptr rfl | exact leF_int rfl | exact leF_bool rfl | exact leF_cl (cl_slB _ _) | exact leF_cl (cl_slR _ _) | exact leF_cl (cl_ll _ _) | exact leF_c (leC_os rfl rfl) | refine leF_int ?_ | refine leF_bool ?_ | exact leN_varA (fun _ _ => (Elem.flat _ _ _).le) | exact leN_varA (fun _ _ => leC_top) | apply And.intro)
    · refine ⟨⟨rfl, leN_varA fun _ _ => (Elem.flat _ _ _).le⟩, ⟨rfl, leN_varA fun _ _ => (Elem.flat _ _ _).le⟩, ⟨rfl, leN_zE⟩, ⟨rfl, leN_lay⟩, ⟨rfl, leN_par rfl (fun j hj => ?_) ?_⟩, trivial⟩
      · iterate 48 (rcases j with _ | j; · first | exact leC_int rfl | exact leC_bool rfl | exact leC_nils)
        exact absurd hj (by omega)
      · have e : H.size.toNat = N := by omega
        show LeC _ (.sl false (b.length - H.size.toNat) eB.sz fun i => rowF eB b (H.size.toNat + i)) _
        rw [e]
        exact leC_drop b N rfl
  intro _
  have hOB : ∀ s : OpS (proF b), s.l = [] → proF b = some s.m := fun s h => by
    have h1 := s.hR
    rw [h, parse_nil] at h1
    exact h1.symm
  have hWn : proF b = none → W = (noM, 5) := fun h => by rw [hW, h]
  change Sem _ _ _ _ _ _ _ _; refine sem_cut (wd := 8192) (Q := mkQ LDd) (by decide) tysOk (q_of LDd_ok) (mono_of LDd_ok) mixed (HB b src dst) (by intro _; rfl) ?_ ?_
  · refine And.intro rfl ?_
    refine op_run (R := proF b) (src := src) (dst := dst) (H := H) ⟨?_, ?_, ?_⟩ ⟨b.drop N, M, b.drop N, hp0.symm, hMr, hb.drop N, ?_⟩ hM.1 hM.2 rfl
    · intro s hs nf hnf
      have hP := hOB s hs
      refine And.intro hnf ?_
      repeat' (first | (apply And.intro <;> intro hc <;> (first | exact Bool.noConfusion hc | (exfalso; first | exact absurd rfl hc) | (simp only [decide_eq_true_eq, decide_eq_false_iff_not, Bool.not_eq_true', Bool.not_eq_false', beq_iff_eq, beq_eq_false_iff_ne, bne_iff_ne, bne_eq_false_iff_eq, Bool.true_eq_false, Bool.false_eq_true, ne_eq, not_true_eq_false] at hc <;> first | exact absurd rfl hc | (exfalso; first | exact absurd rfl hc) | skip) | skip)) | (refine And.intro (by first | exact trivial | decide | omega | (dsimp only; omega) | exact fun _ _ => rfl | exact ⟨by assumption, by first | exact trivial | decide | omega | (dsimp only; omega)⟩) ?_) | (apply And.intro) | (intro s hs; skip))
      refine ⟨⟨s.m, s.o, hP, s.hm, ?_⟩, [(5, some 9002), (6, some 9003)], rfl, ?_, ?_⟩
      · have := s.hn; omega
      · repeat' (first | exact trivial | exact rfl | exact leF_ptr rfl | exact leF_int rfl | exact leF_bool rfl | exact leF_cl (cl_slB _ _) | exact leF_cl (cl_slR _ _) | exact leF_cl (cl_ll _ _) | exact leF_c (leC_os rfl rfl) | refine leF_int ?_ | refine leF_bool ?_ | exact leN_varA (fun _ _ => (Elem.flat _ _ _).le) | exact leN_varA (fun _ _ => leC_top) | apply And.intro)
      · refine ⟨⟨rfl, leN_varA fun _ _ => (Elem.flat _ _ _).le⟩, ⟨rfl, leN_varA fun _ _ => (Elem.flat _ _ _).le⟩, ⟨rfl, leN_zE⟩, ⟨rfl, leN_par rfl (fun j hj => ?_) (leC_cl (cl_slB eB _))⟩, ⟨rfl, leN_ents⟩, ⟨rfl, leN_ents⟩, trivial⟩
        iterate 48 (rcases j with _ | j; · first | exact leC_int rfl | exact leC_bool rfl | exact leC_os rfl rfl)
        exact absurd hj (by omega)
    · intro hR s nf hnf
      rw [hWn hR]
      refine And.intro hnf ?_
      repeat' (first | (apply And.intro <;> intro hc <;> (first | exact Bool.noConfusion hc | (exfalso; first | exact absurd rfl hc) | (simp only [decide_eq_true_eq, decide_eq_false_iff_not, Bool.not_eq_true', Bool.not_eq_false', beq_iff_eq, beq_eq_false_iff_ne, bne_iff_ne, bne_eq_false_iff_eq, Bool.true_eq_false, Bool.false_eq_true, ne_eq, not_true_eq_false] at hc <;> first | exact absurd rfl hc | (exfalso; first | exact absurd rfl hc) | skip) | skip)) | (refine And.intro (by first | exact trivial | decide | omega | (dsimp only; omega) | exact fun _ _ => rfl | exact ⟨by assumption, by first | exact trivial | decide | omega | (dsimp only; omega)⟩) ?_) | (apply And.intro) | (intro s hs; skip))
      exact Done.mk (leF_noM rfl (by intro j hj; (iterate 48 (rcases j with _ | j; exact rfl)); exact absurd hj (by omega)))
    · intro hR s e1 e2 nf hnf
      rw [hWn hR]
      refine And.intro hnf ?_
      repeat' (first | (apply And.intro <;> intro hc <;> (first | exact Bool.noConfusion hc | (exfalso; first | exact absurd rfl hc) | (simp only [decide_eq_true_eq, decide_eq_false_iff_not, Bool.not_eq_true', Bool.not_eq_false', beq_iff_eq, beq_eq_false_iff_ne, bne_iff_ne, bne_eq_false_iff_eq, Bool.true_eq_false, Bool.false_eq_true, ne_eq, not_true_eq_false] at hc <;> first | exact absurd rfl hc | (exfalso; first | exact absurd rfl hc) | skip) | skip)) | (refine And.intro (by first | exact trivial | decide | omega | (dsimp only; omega) | exact fun _ _ => rfl | exact ⟨by assumption, by first | exact trivial | decide | omega | (dsimp only; omega)⟩) ?_) | (apply And.intro) | (intro s hs; skip))
      exact Done.mk (leF_noM rfl (by intro j hj; (iterate 48 (rcases j with _ | j; exact rfl)); exact absurd hj (by omega)))
    · rw [hM.1, hM.2, List.length_drop]; simp only [List.length_nil]; omega
  rintro ⟨m, o, hP, hm, hn⟩
  rw [hP] at hW
  clear hWn hOB
  dsimp only at hW
  have hE0 : EncP m src dst := ⟨hm, hs0, hd0, by omega, by omega⟩
  obtain ⟨E, eE⟩ : ∃ E, encDM m src dst = E := ⟨_, rfl⟩
  rw [eE] at hW
  have hEB : BL (E.getD []) := by
    rw [← eE]; unfold encDM
    split
    · exact encX_BL hm (valM_iff.1 (by assumption)) _
    · exact BL.nil
  have g1 : True := trivial
  refine sem_step (wd := 1) (Q := mkQ LDd) (by decide) tysOk (q_of LDd_ok) mixed ?_
  repeat' (first | (apply And.intro <;> intro hc <;> (first | exact Bool.noConfusion hc | (exfalso; first | exact absurd rfl hc) | (simp only [decide_eq_true_eq, decide_eq_false_iff_not, Bool.not_eq_true', Bool.not_eq_false', beq_iff_eq, beq_eq_false_iff_ne, bne_iff_ne, bne_eq_false_iff_eq, Bool.true_eq_false, Bool.false_eq_true, ne_eq, not_true_eq_false] at hc <;> first | exact absurd rfl hc | (exfalso; first | exact absurd rfl hc) | skip) | skip)) | (refine And.intro (by first | exact trivial | decide | omega | (dsimp only; omega) | exact fun _ _ => rfl | exact ⟨by assumption, by first | exact trivial | decide | omega | (dsimp only; omega)⟩) ?_) | (apply And.intro) | (intro s hs; (first | (clear g1; have q : E = s := ((enc_at (m := m) (src := src) (dst := dst) hs par_rd (rd_ip src) (rd_ip dst)).trans eE).symm; clear hs; subst q) | skip)) | (refine Exists.intro _ (And.intro ⟨rfl, rfl, rfl⟩ ?_)))
  · exact rfl
  · exact rfl
  · exact encP_at (m := m) par_rd (rd_ip src) (rd_ip dst) hE0
  refine sem_step (wd := 1) (Q := mkQ LDd) (by decide) tysOk (q_of LDd_ok) mixed ?_
  repeat' (first | (apply And.intro <;> intro hc <;> (first | exact Bool.noConfusion hc | (exfalso; first | exact absurd rfl hc) | (simp only [decide_eq_true_eq, decide_eq_false_iff_not, Bool.not_eq_true', Bool.not_eq_false', beq_iff_eq, beq_eq_false_iff_ne, bne_iff_ne, bne_eq_false_iff_eq, Bool.true_eq_false, Bool.false_eq_true, ne_eq, not_true_eq_false] at hc <;> first | exact absurd rfl hc | (exfalso; first | exact absurd rfl hc) | skip) | skip)) | (refine And.intro (by first | exact trivial | decide | omega | (dsimp only; omega) | exact fun _ _ => rfl | exact ⟨by assumption, by first | exact trivial | decide | omega | (dsimp only; omega)⟩) ?_) | (apply And.intro) | (intro s hs; skip) | (refine Exists.intro _ (And.intro ⟨rfl, rfl, rfl⟩ ?_)))
  · rename_i he
    have e : W = (noM, 5) := by
      rw [hW]
      refine if_neg fun h => he ?_
      rw [h]; rfl
    rw [e]
    exact Done.mk (leF_noM rfl (by intro j hj; (iterate 48 (rcases j with _ | j; exact rfl)); exact absurd hj (by omega)))
  · exact rfl
  · exact rfl
  · show BL (toL eB (E.getD []).length fun k j => rowF eB (E.getD []) (0 + k) j); rw [toL_b0]; exact hEB
  · show BL (toL eB b.length (rowF eB b)); rw [toL_b]; exact hb
  · rename_i he
    have h : decide (E.getD [] = b) = false := by
      rw [← hc, hs]
      exact dec_eq2 (toL_b0 _) (toL_b _)
    have e : W = (noM, 5) := by
      rw [hW]
      refine if_neg fun h2 => of_decide_eq_false h ?_
      rw [h2]; rfl
    rw [e]
    exact Done.mk (leF_noM rfl (by intro j hj; (iterate 48 (rcases j with _ | j; exact rfl)); exact absurd hj (by omega)))
  · rename_i he
    have h : decide (E.getD [] = b) = true := by
      rw [← hc, hs]
      exact dec_eq2 (toL_b0 _) (toL_b _)
    have h := of_decide_eq_true h
    have e : W = (m, 0) := by
      rw [hW]
      refine if_pos ?_
      cases E with
      | none => exact absurd he (by decide)
      | some c => exact congrArg some h
    rw [e]
    refine sem_exec (wd := 1) (Q := mkQ LDd) (by decide) tysOk (q_of LDd_ok) mixed ?_
    repeat' (first | (apply And.intro <;> intro hc <;> (first | exact Bool.noConfusion hc | (exfalso; first | exact absurd rfl hc) | (simp only [decide_eq_true_eq, decide_eq_false_iff_not, Bool.not_eq_true', Bool.not_eq_false', beq_iff_eq, beq_eq_false_iff_ne, bne_iff_ne, bne_eq_false_iff_eq, Bool.true_eq_false, Bool.false_eq_true, ne_eq, not_true_eq_false] at hc <;> first | exact absurd rfl hc | (exfalso; first | exact absurd rfl hc) | skip) | skip)) | (refine And.intro (by first | exact trivial | decide | omega | (dsimp only; omega) | exact fun _ _ => rfl | exact ⟨by assumption, by first | exact trivial | decide | omega | (dsimp only; omega)⟩) ?_) | (apply And.intro) | (intro s hs; skip) | (refine Exists.intro _ (And.intro ⟨rfl, rfl, rfl⟩ ?_)))
    refine Done.mk (leF_tup ⟨leE_msg rfl (fun j hj => ?_) ?_ ?_ (fun j hj => ?_), leC_int rfl, trivial⟩)
    · iterate 27 (rcases j with _ | j; · first | exact leC_int rfl | exact leC_bool rfl)
      exact absurd hj (by omega)
    · exact leC_row_fin rfl rfl
    · exact leC_row_fin rfl rfl
    · iterate 19 (rcases j with _ | j; · first | exact leC_int rfl | exact leC_bool rfl)
      exact absurd hj (by omega)
end Go.Proofs.Ytmcjchffblfkaaa.AX

/- Layer 20 by AX2: Decode of the program. -/
namespace Go.Proofs.Ytmcjchffblfkaaa.AX
open Go.RowKit
set_option linter.unusedVariables false
set_option linter.unusedSimpArgs false
set_option maxHeartbeats 8000000 in
set_option maxRecDepth 20000 in
theorem ddec_ok (b : List Int) (src dst : Fin 16 → Int) (hb : BL b) (hs0 : byteOk src) (hd0 : byteOk dst) (hl : b.length ≤ 1099511627776) : PureOk Try.prog 21 [(cSl eB eB_sz).enc b, (cE (eA .u8 16)).enc src, (cE (eA .u8 16)).enc dst] (encMD (decDM b src dst)) := by
  obtain ⟨W, hW⟩ : ∃ W, decDM b src dst = W := ⟨_, rfl⟩
  rw [hW]
  obtain ⟨U, eU⟩ : ∃ U, uintF b 2 2 = U := ⟨_, rfl⟩
  obtain ⟨S, eS⟩ : ∃ S, sumD b src dst = S := ⟨_, rfl⟩
  obtain ⟨H, eH⟩ : ∃ H, layF (byt b 0) = H := ⟨_, rfl⟩
  obtain ⟨tb, eT⟩ : ∃ tb, decide (tyOk (byt b 0)) = tb := ⟨_, rfl⟩
  have e1 : b.length < 8 → W = (noM, 4) := fun h => by rw [← hW]; exact if_pos h
  have hU : nmL b 2 2 = U.1 := congrArg Prod.fst eU
  have wU : IntKind.u16.wrap U.1 = U.1 := by
    have := nmL_r hb 2 2
    rw [hU] at this
    exact IntWalk.u16_in _ (by omega)
  have e2 : ¬ b.length < 8 → ¬ IntKind.u16.wrap U.1 = S → W = (noM, 6) := fun h g => by
    rw [← hW]; unfold decDM
    rw [if_neg h, hU, eS, ← wU]; exact if_pos g
  have e3 : ¬ b.length < 8 → IntKind.u16.wrap U.1 = S → W = match proF b with
      | some m => if encDM m src dst = some b then (m, 0) else (noM, 5)
      | none => (noM, 5) := fun h g => by rw [← hW]; exact decDM_pro hb h (by rw [hU, eS, ← wU]; exact g)
  have ht1 : tb = true → tyOk (byt b 0) := fun h => of_decide_eq_true (eT.trans h)
  have ht0 : tb = false → ¬ tyOk (byt b 0) := fun h => of_decide_eq_false (eT.trans h)
  have hsz : tb = true → H.size = headN (byt b 0) := fun h => by rw [← eH]; exact lay_sz (ht1 h)
  have e4 : ¬ b.length < 8 → IntKind.u16.wrap U.1 = S → tb = false → W = (noM, 5) := fun h g t => by
    rw [e3 h g, show proF b = none from if_neg fun x => ht0 t x.1]
  have e5 : ¬ b.length < 8 → IntKind.u16.wrap U.1 = S → tb = true → (b.length : Int) < H.size → W = (noM, 5) := fun h g t q => by
    rw [e3 h g, show proF b = none from if_neg fun x => by have := x.2; rw [hsz t] at q; omega]
  have f1 : H.owner = true → isDup (byt b 0) ∧ headN (byt b 0) = 32 := by rw [← eH]; exact lay_f1
  have f2 : H.target = true → H.owner = false → isNb (byt b 0) ∧ headN (byt b 0) = 24 := by rw [← eH]; exact lay_f2
  have f3 : H.router = true → byt b 0 = 134 ∧ headN (byt b 0) = 16 := by rw [← eH]; exact lay_f3
  have f4 : H.owner = false → H.router = false → H.target = false → ¬ isDup (byt b 0) ∧ ¬ byt b 0 = 134 ∧ ¬ isNb (byt b 0) := by rw [← eH]; exact lay_f4
  have k1 : H.owner = true → H.router = true → False := by rw [← eH]; exact lay_k1
  have k2 : H.owner = true → H.target = false → False := by rw [← eH]; exact lay_k2
  have k3 : H.router = true → H.target = true → False := by rw [← eH]; exact lay_k3
  have g1 : True := trivial
  have g2 : True := trivial
  have g3 : True := trivial
  refine pure_introS tysOk Try.func21 rfl _ (by show 3 ≤ _; decide) _ ?_
  refine sem_step (wd := 1) (Q := mkQ LDd) (by decide) tysOk (q_of LDd_ok) mixed ?_
  refine sem_step (wd := 1) (Q := mkQ LDd) (by decide) tysOk (q_of LDd_ok) mixed ?_
  repeat' (first | (apply And.intro <;> intro hc <;> (first | exact Bool.noConfusion hc | (exfalso; first | exact absurd rfl hc) | (simp only [decide_eq_true_eq, decide_eq_false_iff_not, Bool.not_eq_true', Bool.not_eq_false', beq_iff_eq, beq_eq_false_iff_ne, bne_iff_ne, bne_eq_false_iff_eq, Bool.true_eq_false, Bool.false_eq_true, ne_eq, not_true_eq_false] at hc <;> first | exact absurd rfl hc | (exfalso; first | exact absurd rfl hc) | skip) | skip)) | (refine And.intro (by first | exact trivial | decide | omega | (dsimp only; omega) | exact fun _ _ => rfl | exact ⟨by assumption, by first | exact trivial | decide | omega | (dsimp only; omega)⟩) ?_) | (apply And.intro) | (intro s hs; skip))
  · rw [e1 (by omega)]
    exact Done.mk (leF_noM rfl (by intro j hj; (iterate 48 (rcases j with _ | j; exact rfl)); exact absurd hj (by omega)))
  refine sem_step (wd := 1) (Q := mkQ LDd) (by decide) tysOk (q_of LDd_ok) mixed ?_
  repeat' (first | (apply And.intro <;> intro hc <;> (first | exact Bool.noConfusion hc | (exfalso; first | exact absurd rfl hc) | (simp only [decide_eq_true_eq, decide_eq_false_iff_not, Bool.not_eq_true', Bool.not_eq_false', beq_iff_eq, beq_eq_false_iff_ne, bne_iff_ne, bne_eq_false_iff_eq, Bool.true_eq_false, Bool.false_eq_true, ne_eq, not_true_eq_false] at hc <;> first | exact absurd rfl hc | (exfalso; first | exact absurd rfl hc) | skip) | skip)) | (refine And.intro (by first | exact trivial | decide | omega | (dsimp only; omega) | exact fun _ _ => rfl | exact ⟨by assumption, by first | exact trivial | decide | omega | (dsimp only; omega)⟩) ?_) | (apply And.intro) | (intro s hs; (first | (clear g1; have q : U = s := ((uint_at (b := b) hs (toL_b b)).trans eU).symm; clear hs; subst q) | (clear g2; have q : S = s := ((sum_at (b := b) (src := src) (dst := dst) hs (toL_b b) (rd_ip src) (rd_ip dst)).trans eS).symm; clear hs; subst q) | (clear g3; have q : (H, tb) = s := lay_at hs eH eT; clear hs; subst q) | skip)))
  · show BL (toL eB b.length (rowF eB b)); rw [toL_b]; exact hb
  · show (toL eB b.length (rowF eB b)).length ≤ _; rw [toL_len]; omega
  · show BL (toL eB b.length (rowF eB b)); rw [toL_b]; exact hb
  · show byteOk ((eA .u8 16).rd fun q => (eA .u8 16).cell src (0 + q)); rw [rd_ip]; exact hs0
  · show byteOk ((eA .u8 16).rd fun q => (eA .u8 16).cell dst (0 + q)); rw [rd_ip]; exact hd0
  · show (toL eB b.length (rowF eB b)).length ≤ _; rw [toL_len]; omega
  · rw [e2 (by omega) hc]
    exact Done.mk (leF_noM rfl (by intro j hj; (iterate 48 (rcases j with _ | j; exact rfl)); exact absurd hj (by omega)))
  refine sem_step (wd := 1) (Q := mkQ LDd) (by decide) tysOk (q_of LDd_ok) mixed ?_
  repeat' (first | (apply And.intro <;> intro hc <;> (first | exact Bool.noConfusion hc | (exfalso; first | exact absurd rfl hc) | (simp only [decide_eq_true_eq, decide_eq_false_iff_not, Bool.not_eq_true', Bool.not_eq_false', beq_iff_eq, beq_eq_false_iff_ne, bne_iff_ne, bne_eq_false_iff_eq, Bool.true_eq_false, Bool.false_eq_true, ne_eq, not_true_eq_false] at hc <;> first | exact absurd rfl hc | (exfalso; first | exact absurd rfl hc) | skip) | skip)) | (refine And.intro (by first | exact trivial | decide | omega | (dsimp only; omega) | exact fun _ _ => rfl | exact ⟨by assumption, by first | exact trivial | decide | omega | (dsimp only; omega)⟩) ?_) | (apply And.intro) | (intro s hs; (first | (clear g1; have q : U = s := ((uint_at (b := b) hs (toL_b b)).trans eU).symm; clear hs; subst q) | (clear g2; have q : S = s := ((sum_at (b := b) (src := src) (dst := dst) hs (toL_b b) (rd_ip src) (rd_ip dst)).trans eS).symm; clear hs; subst q) | (clear g3; have q : (H, tb) = s := lay_at hs eH eT; clear hs; subst q) | skip)))
  refine sem_step (wd := 1) (Q := mkQ LDd) (by decide) tysOk (q_of LDd_ok) mixed ?_
  repeat' (first | (apply And.intro <;> intro hc <;> (first | exact Bool.noConfusion hc | (exfalso; first | exact absurd rfl hc) | (simp only [decide_eq_true_eq, decide_eq_false_iff_not, Bool.not_eq_true', Bool.not_eq_false', beq_iff_eq, beq_eq_false_iff_ne, bne_iff_ne, bne_eq_false_iff_eq, Bool.true_eq_false, Bool.false_eq_true, ne_eq, not_true_eq_false] at hc <;> first | exact absurd rfl hc | (exfalso; first | exact absurd rfl hc) | skip) | skip)) | (refine And.intro (by first | exact trivial | decide | omega | (dsimp only; omega) | exact fun _ _ => rfl | exact ⟨by assumption, by first | exact trivial | decide | omega | (dsimp only; omega)⟩) ?_) | (apply And.intro) | (intro s hs; skip))
  · rename_i h8 h6 ht
    rw [e4 (by omega) h6 ht]
    exact Done.mk (leF_noM rfl (by intro j hj; (iterate 48 (rcases j with _ | j; exact rfl)); exact absurd hj (by omega)))
  · rename_i h8 h6 ht
    rw [e5 (by omega) h6 ht hc]
    exact Done.mk (leF_noM rfl (by intro j hj; (iterate 48 (rcases j with _ | j; exact rfl)); exact absurd hj (by omega)))
  rename_i h8 h6 ht
  have hle : headN (byt b 0) ≤ b.length := by have := hsz ht; rw [this] at hc; omega
  refine sem_step (wd := 1) (Q := mkQ LDd) (by decide) tysOk (q_of LDd_ok) mixed ?_
  change Sem _ _ _ _ _ _ _ _; refine sem_cut (wd := 1024) (Q := mkQ LDd) (by decide) tysOk (q_of LDd_ok) (mono_of LDd_ok) mixed (HA b src dst H (headF b)) (by intro _; rfl) ?_ ?_
  · repeat' (first | (apply And.intro <;> intro hc <;> (first | exact Bool.noConfusion hc | (exfalso; first | exact absurd rfl hc | with_reducible exact k1 (by assumption) hc | with_reducible exact k2 (by assumption) hc | with_reducible exact k3 (by assumption) hc) | (simp only [decide_eq_true_eq, decide_eq_false_iff_not, Bool.not_eq_true', Bool.not_eq_false', beq_iff_eq, beq_eq_false_iff_ne, bne_iff_ne, bne_eq_false_iff_eq, Bool.true_eq_false, Bool.false_eq_true, ne_eq, not_true_eq_false] at hc <;> first | exact absurd rfl hc | (exfalso; first | exact absurd rfl hc | with_reducible exact k1 (by assumption) hc | with_reducible exact k2 (by assumption) hc | with_reducible exact k3 (by assumption) hc) | skip) | skip)) | (refine And.intro (by first | exact trivial | decide | omega | (dsimp only; omega) | exact fun _ _ => rfl | exact ⟨by assumption, by first | exact trivial | decide | omega | (dsimp only; omega)⟩) ?_) | (apply And.intro) | (intro s hs; skip))
    · exact rfl
    · show BL (toL eB b.length (rowF eB b)); rw [toL_b]; exact hb
    · show (toL eB b.length (rowF eB b)).length ≤ _; rw [toL_len]; omega
    · show BL (toL eB b.length (rowF eB b)); rw [toL_b]; exact hb
    · show (toL eB b.length (rowF eB b)).length ≤ _; rw [toL_len]; omega
    · have := hsz ht; have := f1 (by assumption); show 0 ≤ IntKind.i64.wrap (H.size - 16); rw [IntWalk.i64_in _ (by omega)]; omega
    · have := hsz ht; have := f1 (by assumption); show IntKind.i64.wrap (H.size - 16) + 16 ≤ ((toL eB b.length (rowF eB b)).length : Int); rw [toL_len, IntWalk.i64_in _ (by omega)]; omega
    · rename_i ho s1 hs1 s2 hs2 hr
      obtain ⟨hd, hh⟩ := f1 ho
      have hz := hsz ht
      have h1 : IntKind.u16.wrap s1 = nmL b 6 2 := w16_at hb (a := 6) (pn_at hs1 (toL_b b))
      have h2 : IntKind.u64.wrap s2 = nmL b 8 8 := w64_at hb (a := 8) (pn_at hs2 (toL_b b))
      have h4 : s2 = nmL b 8 8 := pn_at hs2 (toL_b b)
      have q : s = ipF b 16 := (pi_at hs (toL_b b)).trans (by show ipF b (IntKind.i64.wrap (H.size - 16)).toNat = _; rw [IntWalk.i64_in _ (by omega)]; exact congrArg (ipF b) (by omega))
      clear hs
      subst q
      have hF : headF b = { noM with a := { noA with ty := byt b 0, hasO := true, ostat := byt b 4, oseq := byt b 5, olife := nmL b 6 2, oeui := nmL b 8 8, tgt := ipF b 16 } } := if_pos hd
      refine ⟨(), [(4, some 42), (3, some 28)], rfl, ?_, ?_⟩
      · repeat' (first | exact trivial | exact rfl | exact leF_ptr rfl | exact leF_int rfl | exact leF_bool rfl | exact leF_cl (cl_slB _ _) | exact leF_cl (cl_slR _ _) | exact leF_cl (cl_ll _ _) | exact leF_c (leC_os rfl rfl) | refine leF_int ?_ | refine leF_bool ?_ | exact leN_varA (fun _ _ => (Elem.flat _ _ _).le) | exact leN_varA (fun _ _ => leC_top) | apply And.intro)
      · refine ⟨⟨rfl, ?_⟩, ⟨rfl, ?_⟩, ⟨rfl, ?_⟩, ⟨rfl, ?_⟩, ⟨rfl, ?_⟩, trivial⟩
        · exact leN_varA fun _ _ => (Elem.flat _ _ _).le
        · exact leN_varA fun _ _ => (Elem.flat _ _ _).le
        · refine leN_varA fun j hj => ?_
          iterate 48 (rcases j with _ | j; · first | exact leC_int rfl | exact leC_bool rfl | exact leC_nils)
          exact absurd hj (by show ¬ _ < 48; omega)
        · exact leN_varA fun _ _ => (Elem.flat _ _ _).le
        · refine leN_par rfl (fun j hj => ?_) (leC_cl (cl_slB eB b))
          rw [hF]
          iterate 48 (rcases j with _ | j; · first | exact leC_int rfl | exact leC_bool rfl | exact leC_nils | exact leC_int h1 | exact leC_int h2 | exact leC_int h4)
          exact absurd hj (by omega)
    · show BL (toL eB b.length (rowF eB b)); rw [toL_b]; exact hb
    · show (toL eB b.length (rowF eB b)).length ≤ _; rw [toL_len]; omega
    · rename_i ho hr
      obtain ⟨hd, hh⟩ := f3 hr
      have h1 : IntKind.u16.wrap s = nmL b 6 2 := w16_at hb (a := 6) (pn_at hs (toL_b b))
      have hF : headF b = { noM with a := { noA with ty := byt b 0, hops := byt b 4, life := nmL b 6 2 } } := by
        unfold headF
        rw [if_neg (not_dup_134 hd), if_pos hd]
      refine ⟨(), [(4, some 42), (3, some 28)], rfl, ?_, ?_⟩
      · repeat' (first | exact trivial | exact rfl | exact leF_ptr rfl | exact leF_int rfl | exact leF_bool rfl | exact leF_cl (cl_slB _ _) | exact leF_cl (cl_slR _ _) | exact leF_cl (cl_ll _ _) | exact leF_c (leC_os rfl rfl) | refine leF_int ?_ | refine leF_bool ?_ | exact leN_varA (fun _ _ => (Elem.flat _ _ _).le) | exact leN_varA (fun _ _ => leC_top) | apply And.intro)
      · refine ⟨⟨rfl, ?_⟩, ⟨rfl, ?_⟩, ⟨rfl, ?_⟩, ⟨rfl, ?_⟩, ⟨rfl, ?_⟩, trivial⟩
        · exact leN_varA fun _ _ => (Elem.flat _ _ _).le
        · exact leN_varA fun _ _ => (Elem.flat _ _ _).le
        · refine leN_varA fun j hj => ?_
          iterate 48 (rcases j with _ | j; · first | exact leC_int rfl | exact leC_bool rfl | exact leC_nils)
          exact absurd hj (by show ¬ _ < 48; omega)
        · exact leN_varA fun _ _ => (Elem.flat _ _ _).le
        · refine leN_par rfl (fun j hj => ?_) (leC_cl (cl_slB eB b))
          rw [hF]
          iterate 48 (rcases j with _ | j; · first | exact leC_int rfl | exact leC_bool rfl | exact leC_nils | exact leC_int h1)
          exact absurd hj (by omega)
    · have := hsz ht; have := f2 (by assumption) (by assumption); show 0 ≤ IntKind.i64.wrap (H.size - 16); rw [IntWalk.i64_in _ (by omega)]; omega
    · have := hsz ht; have := f2 (by assumption) (by assumption); show IntKind.i64.wrap (H.size - 16) + 16 ≤ ((toL eB b.length (rowF eB b)).length : Int); rw [toL_len, IntWalk.i64_in _ (by omega)]; omega
    · rename_i ho hr
      obtain ⟨hd, hh⟩ := f2 hc ho
      have hz := hsz ht
      have q : s = ipF b 8 := (pi_at hs (toL_b b)).trans (by show ipF b (IntKind.i64.wrap (H.size - 16)).toNat = _; rw [IntWalk.i64_in _ (by omega)]; exact congrArg (ipF b) (by omega))
      clear hs
      subst q
      have hF : headF b = { noM with a := { noA with ty := byt b 0, tgt := ipF b 8 } } := by
        unfold headF
        rw [if_neg (not_dup_nb hd), if_neg (fun h => not_nb_134 h hd), if_pos hd]
      refine ⟨(), [(4, some 42), (3, some 28)], rfl, ?_, ?_⟩
      · repeat' (first | exact trivial | exact rfl | exact leF_ptr rfl | exact leF_int rfl | exact leF_bool rfl | exact leF_cl (cl_slB _ _) | exact leF_cl (cl_slR _ _) | exact leF_cl (cl_ll _ _) | exact leF_c (leC_os rfl rfl) | refine leF_int ?_ | refine leF_bool ?_ | exact leN_varA (fun _ _ => (Elem.flat _ _ _).le) | exact leN_varA (fun _ _ => leC_top) | apply And.intro)
      · refine ⟨⟨rfl, ?_⟩, ⟨rfl, ?_⟩, ⟨rfl, ?_⟩, ⟨rfl, ?_⟩, ⟨rfl, ?_⟩, trivial⟩
        · exact leN_varA fun _ _ => (Elem.flat _ _ _).le
        · exact leN_varA fun _ _ => (Elem.flat _ _ _).le
        · refine leN_varA fun j hj => ?_
          iterate 48 (rcases j with _ | j; · first | exact leC_int rfl | exact leC_bool rfl | exact leC_nils)
          exact absurd hj (by show ¬ _ < 48; omega)
        · exact leN_varA fun _ _ => (Elem.flat _ _ _).le
        · refine leN_par rfl (fun j hj => ?_) (leC_cl (cl_slB eB b))
          rw [hF]
          iterate 48 (rcases j with _ | j; · first | exact leC_int rfl | exact leC_bool rfl | exact leC_nils)
          exact absurd hj (by omega)
    · rename_i ho hr
      obtain ⟨n1, n2, n3⟩ := f4 ho hr hc
      have hF : headF b = { noM with a := { noA with ty := byt b 0 } } := by
        unfold headF
        rw [if_neg n1, if_neg n2, if_neg n3]
      refine ⟨(), [(4, some 42), (3, some 28)], rfl, ?_, ?_⟩
      · repeat' (first | exact trivial | exact rfl | exact leF_ptr rfl | exact leF_int rfl | exact leF_bool rfl | exact leF_cl (cl_slB _ _) | exact leF_cl (cl_slR _ _) | exact leF_cl (cl_ll _ _) | exact leF_c (leC_os rfl rfl) | refine leF_int ?_ | refine leF_bool ?_ | exact leN_varA (fun _ _ => (Elem.flat _ _ _).le) | exact leN_varA (fun _ _ => leC_top) | apply And.intro)
      · refine ⟨⟨rfl, ?_⟩, ⟨rfl, ?_⟩, ⟨rfl, ?_⟩, ⟨rfl, ?_⟩, ⟨rfl, ?_⟩, trivial⟩
        · exact leN_varA fun _ _ => (Elem.flat _ _ _).le
        · exact leN_varA fun _ _ => (Elem.flat _ _ _).le
        · refine leN_varA fun j hj => ?_
          iterate 48 (rcases j with _ | j; · first | exact leC_int rfl | exact leC_bool rfl | exact leC_nils)
          exact absurd hj (by show ¬ _ < 48; omega)
        · exact leN_varA fun _ _ => (Elem.flat _ _ _).le
        · refine leN_par rfl (fun j hj => ?_) (leC_cl (cl_slB eB b))
          rw [hF]
          iterate 48 (rcases j with _ | j; · first | exact leC_int rfl | exact leC_bool rfl | exact leC_nils)
          exact absurd hj (by omega)
  intro _
  exact dd2 b src dst H W hb hs0 hd0 hl (hsz ht) hle (if_pos ⟨ht1 ht, hle⟩) (e3 (by omega) h6)
abbrev ddecE : Entry := pureE (AC.cons (cSl eB eB_sz) (AC.cons (cE (eA .u8 16)) (AC.cons (cE (eA .u8 16)) AC.nil))) (fun a => BL a.1 ∧ byteOk a.2.1 ∧ byteOk a.2.2.1 ∧ a.1.length ≤ 1099511627776) (fun a => decDM a.1 a.2.1 a.2.2.1) encMD
theorem ddecE_ok : EntOk Try.prog 21 ddecE := pureE_ok ⟨_, Try.func21, rfl, by kernel_rfl⟩ fun a h => ddec_ok a.1 a.2.1 a.2.2.1 h.1 h.2.1 h.2.2.1 h.2.2.2
end Go.Proofs.Ytmcjchffblfkaaa.AX

/- What the makers draw from a tape: valid link addresses; contexts. -/
namespace Go.Proofs.Ytmcjchffblfkaaa.AX
open Go.RowKit
set_option linter.unusedVariables false
set_option linter.unusedSimpArgs false
structure AdrW (a : Adr) : Prop where
  v : adrValid a = true
  short : 0 ≤ a.short ∧ a.short < 65536
  eui : 0 ≤ a.eui ∧ a.eui < 18446744073709551616
structure DevW (a : Adr) : Prop where
  s : adrSome a = true
  w : AdrW a
theorem wr16 (z : Int) : 0 ≤ IntKind.u16.wrap z ∧ IntKind.u16.wrap z < 65536 := by
  simp only [IntKind.wrap, IntKind.signed, IntKind.bits]
  constructor
  · exact Int.emod_nonneg _ (by decide)
  · exact Int.emod_lt_of_pos _ (by decide)
theorem wr64 (z : Int) : 0 ≤ IntKind.u64.wrap z ∧ IntKind.u64.wrap z < 18446744073709551616 := by
  simp only [IntKind.wrap, IntKind.signed, IntKind.bits]
  constructor
  · exact Int.emod_nonneg _ (by decide)
  · exact Int.emod_lt_of_pos _ (by decide)
theorem z16 : (0 : Int) ≤ 0 ∧ (0 : Int) < 65536 := by decide
theorem z64 : (0 : Int) ≤ 0 ∧ (0 : Int) < 18446744073709551616 := by decide
theorem dev_3 {e : Int} (h : 0 ≤ e ∧ e < 18446744073709551616) : DevW ⟨3, 0, e⟩ := ⟨rfl, rfl, z16, h⟩
theorem dev_2 {e : Int} (h : 0 ≤ e ∧ e < 65536) : DevW ⟨2, e, 0⟩ := ⟨rfl, rfl, h, z64⟩
set_option maxRecDepth 10000 in
theorem device2_ok (n : Nat) (l : List Int) (q : Int) (ht : TapeOk n (rI l) q) :
    ∃ (r : Adr) (q' : Int), DevW r ∧ TapeOk n (rI l) q' ∧ MethOk Try.prog 51 [] (tapeN n (rI l) q) ((cE eAdr).enc r) (tapeN n (rI l) q') := by
  refine tape_intro (wd := 1) (Q := mkQ LT1) (by decide) tysOk (q_of LT1_ok) mixed Try.func51 rfl _ (by show 0 + 1 ≤ _; decide) (nff_elem eAdr) ?_
  repeat' (first | (apply And.intro <;> intro hc <;> (first | exact Bool.noConfusion hc | (simp only [decide_eq_true_eq, decide_eq_false_iff_not, Bool.not_eq_true', Bool.not_eq_false', beq_iff_eq, beq_eq_false_iff_ne, bne_iff_ne, bne_eq_false_iff_eq, Bool.true_eq_false, Bool.false_eq_true] at hc) | skip)) | (refine And.intro (by first | exact trivial | decide | omega | (dsimp only; omega) | exact fun _ _ => rfl | exact ⟨by assumption, by first | exact trivial | decide | omega | (dsimp only; omega)⟩) ?_) | (apply And.intro) | (intro s hs))
  · exact ⟨(⟨3, 0, _⟩, _), ⟨dev_3 (wr64 _), by assumption⟩, ⟨leF_e (leE_all ⟨⟨⟨trivial, leC_int rfl⟩, leC_int rfl⟩, leC_int rfl⟩), tapeN_le⟩⟩
  · exact ⟨(⟨2, _, 0⟩, _), ⟨dev_2 (wr16 _), by assumption⟩, ⟨leF_e (leE_all ⟨⟨⟨trivial, leC_int rfl⟩, leC_int rfl⟩, leC_int rfl⟩), tapeN_le⟩⟩
abbrev dev2E : Entry := tapeE AC.nil (fun _ => True) (fun a (r : Adr) => DevW r) (cE eAdr).enc
def LT3 : CsL := (51, some dev2E) :: LT2
theorem LT3_ok : AllOk Try.prog LT3 := ⟨tapeE_ok ⟨_, Try.func51, rfl, by kernel_rfl⟩ fun n l q a ht hp => device2_ok n l q ht, LT2_ok⟩
theorem addr2_ok (n : Nat) (l : List Int) (q : Int) (ht : TapeOk n (rI l) q) :
    ∃ (r : Adr) (q' : Int), AdrW r ∧ TapeOk n (rI l) q' ∧ MethOk Try.prog 25 [] (tapeN n (rI l) q) ((cE eAdr).enc r) (tapeN n (rI l) q') := by
  refine tape_intro (wd := 1) (Q := mkQ LT3) (by decide) tysOk (q_of LT3_ok) mixed Try.func25 rfl _ (by show 0 + 1 ≤ _; decide) (nff_elem eAdr) ?_
  repeat' (first | (apply And.intro <;> intro hc <;> (first | exact Bool.noConfusion hc | (simp only [decide_eq_true_eq, decide_eq_false_iff_not, Bool.not_eq_true', Bool.not_eq_false', beq_iff_eq, beq_eq_false_iff_ne, bne_iff_ne, bne_eq_false_iff_eq, Bool.true_eq_false, Bool.false_eq_true] at hc) | skip)) | (refine And.intro (by first | exact trivial | decide | omega | (dsimp only; omega) | exact fun _ _ => rfl | exact ⟨by assumption, by first | exact trivial | decide | omega | (dsimp only; omega)⟩) ?_) | (apply And.intro) | (intro s hs))
  · exact ⟨(⟨2, 65535, 0⟩, _), ⟨(dev_2 (e := 65535) (by decide)).w, by assumption⟩, ⟨leF_e (leE_all ⟨⟨⟨trivial, leC_int rfl⟩, leC_int rfl⟩, leC_int rfl⟩), tapeN_le⟩⟩
  · exact ⟨(⟨0, 0, 0⟩, _), ⟨⟨rfl, z16, z64⟩, by assumption⟩, ⟨leF_e (leE_all ⟨⟨⟨trivial, leC_int rfl⟩, leC_int rfl⟩, leC_int rfl⟩), tapeN_le⟩⟩
  · rename_i r hr
    exact ⟨(r, _), ⟨hr.w, by assumption⟩, ⟨leF_e (leE_all ⟨⟨⟨trivial, leC_int rfl⟩, leC_int rfl⟩, leC_int rfl⟩), tapeN_le⟩⟩
abbrev addr2E : Entry := tapeE AC.nil (fun _ => True) (fun a (r : Adr) => AdrW r) (cE eAdr).enc
structure madeL (L : List Ctx) : Prop where
  v : validT L = true
  n : L.length ≤ 16
  b : ∀ c ∈ L, byteOk c.ip
structure CtxS (n : Nat) (l : List Int) where
  i : Nat
  L : List Ctx
  q : Int
  hi : i ≤ 16
  hv : validT L = true
  hid : ∀ c ∈ L, c.id < i
  hn : L.length ≤ i
  hb : ∀ c ∈ L, byteOk c.ip
  ht : TapeOk n (rI l) q
def LT4 : CsL := (25, some addr2E) :: LT3
theorem LT4_ok : AllOk Try.prog LT4 := ⟨tapeE_ok ⟨_, Try.func25, rfl, by kernel_rfl⟩ fun n l q a ht hp => addr2_ok n l q ht, LT3_ok⟩
end Go.Proofs.Ytmcjchffblfkaaa.AX

/- What the makers draw from a tape: messages of layer 20. (Printed by gen/gmsg.py, gen/gm134.py.) -/
namespace Go.Proofs.Ytmcjchffblfkaaa.AX
open Go.RowKit
set_option linter.unusedVariables false
set_option linter.unusedSimpArgs false
theorem wm4 (z : Int) : 0 ≤ (IntKind.u64.wrap z).tmod 4 ∧ (IntKind.u64.wrap z).tmod 4 < 18446744073709551616 := by
  have h := (wr64 z).1
  rw [Int.tmod_eq_emod_of_nonneg h]; omega
theorem wr8 (z : Int) : 0 ≤ IntKind.u8.wrap z ∧ IntKind.u8.wrap z < 256 := by
  simp only [IntKind.wrap, IntKind.signed, IntKind.bits]
  constructor
  · exact Int.emod_nonneg _ (by decide)
  · exact Int.emod_lt_of_pos _ (by decide)
theorem wr32 (z : Int) : 0 ≤ IntKind.u32.wrap z ∧ IntKind.u32.wrap z < 4294967296 := by
  simp only [IntKind.wrap, IntKind.signed, IntKind.bits]
  constructor
  · exact Int.emod_nonneg _ (by decide)
  · exact Int.emod_lt_of_pos _ (by decide)
theorem word2_ok (n : Nat) (l : List Int) (q : Int) (ht : TapeOk n (rI l) q) :
    ∃ (r q' : Int), (0 ≤ r ∧ r < 18446744073709551616) ∧ TapeOk n (rI l) q' ∧ MethOk Try.prog 24 [] (tapeN n (rI l) q) ((cI .u64).enc r) (tapeN n (rI l) q') := by
  refine tape_intro (wd := 1) (Q := mkQ LT0) (by decide) tysOk (q_of LT0_ok) mixed Try.func24 rfl _ (by show 0 + 1 ≤ _; decide) (fun _ => nff_int) ?_
  repeat' (first | (apply And.intro <;> intro hc <;> (first | exact Bool.noConfusion hc | (simp only [decide_eq_true_eq, decide_eq_false_iff_not, Bool.not_eq_true', Bool.not_eq_false', beq_iff_eq, beq_eq_false_iff_ne, bne_iff_ne, bne_eq_false_iff_eq, Bool.true_eq_false, Bool.false_eq_true] at hc) | skip)) | (refine And.intro (by first | exact trivial | decide | omega | (dsimp only; omega) | exact fun _ _ => rfl | exact ⟨by assumption, by first | exact trivial | decide | omega | (dsimp only; omega)⟩) ?_) | (apply And.intro) | (intro s hs))
  all_goals
    refine ⟨(_, _), ⟨?_, by assumption⟩, ⟨leF_int rfl, tapeN_le⟩⟩
    first | exact wr64 _ | exact wm4 _
set_option maxRecDepth 10000 in
theorem ipT_ok (n : Nat) (l : List Int) (q : Int) (a : Adr) (ht : TapeOk n (rI l) q) :
    ∃ (r : Fin 16 → Int) (q' : Int), byteOk r ∧ TapeOk n (rI l) q' ∧ MethOk Try.prog 29 [(cE eAdr).enc a] (tapeN n (rI l) q) ((cE (eA .u8 16)).enc r) (tapeN n (rI l) q') := by
  refine tape_intro (wd := 1) (Q := mkQ LT2) (by decide) tysOk (q_of LT2_ok) mixed Try.func29 rfl _ (by show 1 + 1 ≤ _; decide) (nff_elem (eA .u8 16)) ?_
  repeat' (first | (apply And.intro <;> intro hc <;> (first | exact Bool.noConfusion hc | (simp only [decide_eq_true_eq, decide_eq_false_iff_not, Bool.not_eq_true', Bool.not_eq_false', beq_iff_eq, beq_eq_false_iff_ne, bne_iff_ne, bne_eq_false_iff_eq, Bool.true_eq_false, Bool.false_eq_true] at hc) | skip)) | (refine And.intro (by first | exact trivial | decide | omega | (dsimp only; omega) | exact fun _ _ => rfl | exact ⟨by assumption, by first | exact trivial | decide | omega | (dsimp only; omega)⟩) ?_) | (apply And.intro) | (intro s hs))
  all_goals first
    | exact ⟨(s, _), ⟨by rw [hs]; exact of_byteOk _ _, by assumption⟩, ⟨leF_e (leE_all (by repeat' (first | exact trivial | exact rfl | exact leC_int rfl | exact leC_bool rfl | refine leE_all ?_ | exact leC_bool (by assumption) | apply And.intro))), tapeN_le⟩⟩
    | (rename_i r hr; exact ⟨(r, _), ⟨hr, by assumption⟩, ⟨leF_e (leE_all (by repeat' (first | exact trivial | exact rfl | exact leC_int rfl | exact leC_bool rfl | refine leE_all ?_ | exact leC_bool (by assumption) | apply And.intro))), tapeN_le⟩⟩)
    | exact ⟨(fun _ => 0, _), ⟨⟨fun q => show (0 : Int) ≤ 0 ∧ (0 : Int) < 256 from ⟨by decide, by decide⟩⟩, by assumption⟩, ⟨leF_e (leE_all (by repeat' (first | exact trivial | exact rfl | exact leC_int rfl | exact leC_bool rfl | refine leE_all ?_ | exact leC_bool (by assumption) | apply And.intro))), tapeN_le⟩⟩
abbrev word2E : Entry := tapeE AC.nil (fun _ => True) (fun a (r : Int) => 0 ≤ r ∧ r < 18446744073709551616) (cI .u64).enc
abbrev ipE1 : Entry := tapeE (AC.cons (cE eAdr) AC.nil) (fun _ => True) (fun a (r : Fin 16 → Int) => byteOk r) (cE (eA .u8 16)).enc
def LM : CsL := (24, some word2E) :: (29, some ipE1) :: (26, some bcE) :: LT4
theorem LM_ok : AllOk Try.prog LM := ⟨tapeE_ok ⟨_, Try.func24, rfl, by kernel_rfl⟩ fun n l q a ht _ => word2_ok n l q ht, tapeE_ok ⟨_, Try.func29, rfl, by kernel_rfl⟩ fun n l q a ht _ => ipT_ok n l q a.1 ht, pureE_ok ⟨_, Try.func26, rfl, by kernel_rfl⟩ fun a _ => rabc_ok a.1, LT4_ok⟩
structure MsgV (m : Msg) : Prop where
  r : MsgR m
  v : ValM m
structure AdrG (A : Adr) : Prop where
  w : AdrW A
  b : bcast A = false
def mkMA (ty : Int) (A : Adr) : MA := { noA with ty := ty, mode := A.mode, short := A.short, eui := A.eui }
theorem adr0 : AdrG ⟨0, 0, 0⟩ := ⟨⟨rfl, z16, z64⟩, rfl⟩
theorem n_dup {t : Int} (h : t = 133 ∨ t = 134) : ¬ isDup t := by unfold isDup; omega
theorem mv_133 {A : Adr} (h : AdrG A) : MsgV ⟨mkMA 133 A, [], [], noZ⟩ :=
  ⟨⟨⟨⟨(by decide : (0 : Int) ≤ 133), (by decide : (133 : Int) < 256)⟩, zr8, zr16, zA_r, h.w.short, h.w.eui, zr64, zr8, zr8, zr16⟩, (fun x hx => by cases hx), (fun x hx => by cases hx), noZ_r⟩,
   ⟨.inl rfl, h.w.v, h.b, Nat.zero_le _, Nat.zero_le _, (fun x hx => by cases hx), (fun x hx => by cases hx), .inr rfl, .inr rfl, .inr ⟨rfl, rfl, rfl, rfl, rfl⟩, .inr (.inr ⟨rfl, rfl⟩), .inl (n_dup (t := 133) (.inl rfl))⟩⟩
def ownW (a : MA) (x y z w : Int) : MA := { a with hasO := true, ostat := IntKind.u8.wrap x, oseq := IntKind.u8.wrap y, olife := IntKind.u16.wrap z, oeui := w }
theorem ty_r {t : Int} (h : isNb t ∨ isDup t) : 0 ≤ t ∧ t < 256 := by unfold isNb isDup at h; omega
theorem mv_nb {ty : Int} {A : Adr} {T : Fin 16 → Int} (ht : isNb ty) (h : AdrG A) (hT : byteOk T) : MsgV ⟨{ mkMA ty A with tgt := T }, [], [], noZ⟩ :=
  ⟨⟨⟨ty_r (.inl ht), zr8, zr16, hT, h.w.short, h.w.eui, zr64, zr8, zr8, zr16⟩, (fun x hx => by cases hx), (fun x hx => by cases hx), noZ_r⟩,
   ⟨.inr (.inr (.inl ht)), h.w.v, h.b, Nat.zero_le _, Nat.zero_le _, (fun x hx => by cases hx), (fun x hx => by cases hx), .inr rfl, .inr rfl, .inr ⟨rfl, rfl, rfl, rfl, rfl⟩, .inl ht, .inl (not_dup_nb ht)⟩⟩
theorem mv_nbo {ty x y z w : Int} {A : Adr} {T : Fin 16 → Int} (ht : isNb ty) (h : AdrG A) (hT : byteOk T) (hw : 0 ≤ w ∧ w < 18446744073709551616) : MsgV ⟨ownW { mkMA ty A with tgt := T } x y z w, [], [], noZ⟩ :=
  ⟨⟨⟨ty_r (.inl ht), zr8, zr16, hT, h.w.short, h.w.eui, hw, wr8 _, wr8 _, wr16 _⟩, (fun x hx => by cases hx), (fun x hx => by cases hx), noZ_r⟩,
   ⟨.inr (.inr (.inl ht)), h.w.v, h.b, Nat.zero_le _, Nat.zero_le _, (fun x hx => by cases hx), (fun x hx => by cases hx), .inl rfl, .inr rfl, .inr ⟨rfl, rfl, rfl, rfl, rfl⟩, .inl ht, .inl (not_dup_nb ht)⟩⟩
theorem mv_dup {ty x y z w : Int} {T : Fin 16 → Int} (ht : isDup ty) (hT : byteOk T) (hw : 0 ≤ w ∧ w < 18446744073709551616) : MsgV ⟨ownW { mkMA ty ⟨0, 0, 0⟩ with tgt := T } x y z w, [], [], noZ⟩ :=
  ⟨⟨⟨ty_r (.inr ht), zr8, zr16, hT, z16, z64, hw, wr8 _, wr8 _, wr16 _⟩, (fun x hx => by cases hx), (fun x hx => by cases hx), noZ_r⟩,
   ⟨.inr (.inr (.inr ht)), rfl, rfl, Nat.zero_le _, Nat.zero_le _, (fun x hx => by cases hx), (fun x hx => by cases hx), .inl rfl, .inr rfl, .inr ⟨rfl, rfl, rfl, rfl, rfl⟩, .inr (.inl ht), .inr ⟨rfl, rfl⟩⟩⟩
structure PG (L : List PI) : Prop where
  r : ∀ x ∈ L, PIr x
  v : ∀ x ∈ L, vpf (pfxP x) = true
structure CG (L : List CI) : Prop where
  r : ∀ x ∈ L, CIr x
  v : ∀ x ∈ L, okC x = true
structure ZG (z : MZ) : Prop where
  r : MZr z
  v : z.hasB = true ∨ borZ z = true
theorem PG.snoc {L : List PI} (h : PG L) {p : PI} (hr : PIr p) (hv : vpf (pfxP p) = true) : PG (L ++ [p]) :=
  ⟨fun x hx => (List.mem_append.1 hx).elim (h.r x) fun h => by rw [List.mem_singleton.1 h]; exact hr, fun x hx => (List.mem_append.1 hx).elim (h.v x) fun h => by rw [List.mem_singleton.1 h]; exact hv⟩
theorem CG.snoc {L : List CI} (h : CG L) {p : CI} (hr : CIr p) (hv : okC p = true) : CG (L ++ [p]) :=
  ⟨fun x hx => (List.mem_append.1 hx).elim (h.r x) fun h => by rw [List.mem_singleton.1 h]; exact hr, fun x hx => (List.mem_append.1 hx).elim (h.v x) fun h => by rw [List.mem_singleton.1 h]; exact hv⟩
theorem mv_134 {x y : Int} {A : Adr} {P : List PI} {C : List CI} {Z : MZ} (h : AdrG A) (hP : PG P) (hC : CG C) (hZ : ZG Z) (np : P.length ≤ 16) (nc : C.length ≤ 16) : MsgV ⟨{ mkMA 134 A with hops := IntKind.u8.wrap x, life := IntKind.u16.wrap y }, P, C, Z⟩ :=
  ⟨⟨⟨⟨(by decide : (0 : Int) ≤ 134), (by decide : (134 : Int) < 256)⟩, wr8 _, wr16 _, zA_r, h.w.short, h.w.eui, zr64, zr8, zr8, zr16⟩, hP.r, hC.r, hZ.r⟩,
   ⟨.inr (.inl rfl), h.w.v, h.b, np, nc, hP.v, hC.v, .inr rfl, hZ.v, .inl rfl, .inr (.inr ⟨rfl, rfl⟩), .inl (n_dup (t := 134) (.inr rfl))⟩⟩
theorem pfP_mk {p : Pfx} {v : Int} {b1 b2 : Bool} (h : vpf p = true) : vpf (pfxP ⟨p.ip, p.bits, b1, b2, v⟩) = true := h
theorem okC_mk {p : Pfx} {d v : Int} {b : Bool} (h : vpf p = true) (hd : 0 ≤ d ∧ d < 16) : okC ⟨d, p.ip, p.bits, b, v⟩ = true := by
  unfold okC
  rw [show vpf (pfxC ⟨d, p.ip, p.bits, b, v⟩) = true from h, decide_eq_true hd.1, decide_eq_true hd.2]; rfl
structure M1 (n : Nat) (l : List Int) where
  P : List PI
  i : Int
  q : Int
  h0 : 0 ≤ i
  hi : i + P.length ≤ 2
  hP : PG P
  ht : TapeOk n (rI l) q
structure M2 (n : Nat) (l : List Int) where
  C : List CI
  i : Int
  q : Int
  h0 : 0 ≤ i
  hi : i + C.length ≤ 2
  hC : CG C
  ht : TapeOk n (rI l) q
def mE38 (a : MA) (P C : CV) : Ent := ⟨38, 1, 48, true, fun _ => msgC a P C noZ⟩
set_option maxHeartbeats 8000000 in
set_option maxRecDepth 20000 in
theorem message_ok (n : Nat) (l : List Int) (q : Int) (ht : TapeOk n (rI l) q) :
    ∃ (r : Msg) (q' : Int), MsgV r ∧ TapeOk n (rI l) q' ∧ MethOk Try.prog 9 [] (tapeN n (rI l) q) (.e (msgR r)) (tapeN n (rI l) q') := by
  refine tape_intro (enc := fun m => .e (msgR m)) (S := MsgV) (wd := 1) (Q := mkQ LM) (by decide) tysOk (q_of LM_ok) mixed Try.func9 rfl _ (by show 0 + 1 ≤ _; decide) (fun _ => nfE_msg) ?_
  refine And.intro ⟨ht, by decide, by decide⟩ ?_
  intro t htt q1 hq1
  have htt : 0 ≤ t ∧ t < 6 := htt
  obtain h | h | h | h | h | h : t = 0 ∨ t = 1 ∨ t = 2 ∨ t = 3 ∨ t = 4 ∨ t = 5 := by omega
  · subst h
    refine And.intro (by decide) ?_
    refine And.intro (by decide) ?_
    refine And.intro (by exact ⟨by assumption, trivial⟩) ?_
    intro w hw q2 hq2
    refine And.intro (by exact ⟨by assumption, by decide, by decide⟩) ?_
    intro y hy q3 hq3
    refine And.intro (by exact ⟨by assumption, by decide, by decide⟩) ?_
    intro x hx q4 hq4
    refine And.intro (by exact ⟨by assumption, by decide, by decide⟩) ?_
    intro z hz q5 hq5
    repeat' (first | (apply And.intro <;> intro hc <;> (first | exact Bool.noConfusion hc | (simp only [decide_eq_true_eq, decide_eq_false_iff_not, Bool.not_eq_true', Bool.not_eq_false', beq_iff_eq, beq_eq_false_iff_ne, bne_iff_ne, bne_eq_false_iff_eq, Bool.true_eq_false, Bool.false_eq_true] at hc) | skip)) | (refine And.intro (by first | exact trivial | decide | omega | (dsimp only; omega) | exact fun _ _ => rfl | exact ⟨by assumption, by first | exact trivial | decide | omega | (dsimp only; omega)⟩) ?_) | (apply And.intro) | (intro s hs))
    · refine ⟨(⟨mkMA 133 ⟨0, 0, 0⟩, [], [], noZ⟩, _), ⟨mv_133 adr0, by assumption⟩, ⟨leF_e (leE_msg rfl (fun j hj => ?_) (leC_nils_sl rfl) (leC_nils_sl rfl) (fun j hj => ?_)), tapeN_le⟩⟩
      · iterate 27 (rcases j with _ | j; · first | exact leC_int rfl | exact leC_bool rfl)
        exact absurd hj (by omega)
      · iterate 19 (rcases j with _ | j; · first | exact leC_int rfl | exact leC_bool rfl)
        exact absurd hj (by omega)
    · rename Adr => A
      rename AdrW _ => hA
      have hA' : AdrG A := ⟨hA, by have h : s = bcast A := hs
                                   rw [← h]; assumption⟩
      refine ⟨(⟨mkMA 133 A, [], [], noZ⟩, _), ⟨mv_133 hA', by assumption⟩, ⟨leF_e (leE_msg rfl (fun j hj => ?_) (leC_nils_sl rfl) (leC_nils_sl rfl) (fun j hj => ?_)), tapeN_le⟩⟩
      · iterate 27 (rcases j with _ | j; · first | exact leC_int rfl | exact leC_bool rfl)
        exact absurd hj (by omega)
      · iterate 19 (rcases j with _ | j; · first | exact leC_int rfl | exact leC_bool rfl)
        exact absurd hj (by omega)
  · subst h
    refine And.intro (by decide) ?_
    refine And.intro (by decide) ?_
    refine And.intro (by exact ⟨by assumption, trivial⟩) ?_
    intro w hw q2 hq2
    refine And.intro (by exact ⟨by assumption, by decide, by decide⟩) ?_
    intro y hy q3 hq3
    refine And.intro (by exact ⟨by assumption, by decide, by decide⟩) ?_
    intro x hx q4 hq4
    refine And.intro (by exact ⟨by assumption, by decide, by decide⟩) ?_
    intro z hz q5 hq5
    repeat' (first | (apply And.intro <;> intro hc <;> (first | exact Bool.noConfusion hc | (simp only [decide_eq_true_eq, decide_eq_false_iff_not, Bool.not_eq_true', Bool.not_eq_false', beq_iff_eq, beq_eq_false_iff_ne, bne_iff_ne, bne_eq_false_iff_eq, Bool.true_eq_false, Bool.false_eq_true] at hc) | skip)) | (refine And.intro (by first | exact trivial | decide | omega | (dsimp only; omega) | exact fun _ _ => rfl | exact ⟨by assumption, by first | exact trivial | decide | omega | (dsimp only; omega)⟩) ?_) | (apply And.intro) | (intro s hs))
    · rename_i A hA q6 hq6 bc hbc c1 a ha q7 hq7 b hb q8 hq8 k hk
      have hk : 0 ≤ k ∧ k < 3 := hk
      have hk3 : k + ([] : List PI).length ≤ 2 := by have := hk.2; simp only [List.length_nil]; omega
      refine loop_intro (mono_of LM_ok) (fun s : M1 n l => (⟨[(0, one (.ptr 0 0 0 false)), (2, one (.ptr 1 0 0 false)), (3, one (.ptr 8 0 0 false)), (5, one (.int .i64 s.i))], [(0, some (tapeN n (rI l) s.q)), (1, some zEnt), (8, some (mE38 { mkMA 134 ⟨0, 0, 0⟩ with hops := IntKind.u8.wrap a, life := IntKind.u16.wrap b } (.os 9001 0 s.P.length) .nils)), (9001, some (enP s.P))], 9002⟩ : Hd)) (fun s => s.i.toNat) (fun _ => rfl) ?_ ⟨[], k, s, hk.1, hk3, ⟨(fun x hx => by cases hx), (fun x hx => by cases hx)⟩, hs⟩ [(9001, none)] ?_
      · rintro ⟨P, i, q6, h0, hi, hP, ht6⟩
        dsimp only at h0 hi hP ht6 ⊢
        repeat' (first | (apply And.intro <;> intro hc <;> (first | exact Bool.noConfusion hc | (simp only [decide_eq_true_eq, decide_eq_false_iff_not, Bool.not_eq_true', Bool.not_eq_false', beq_iff_eq, beq_eq_false_iff_ne, bne_iff_ne, bne_eq_false_iff_eq, Bool.true_eq_false, Bool.false_eq_true] at hc) | skip)) | (refine And.intro (by first | exact trivial | decide | omega | (dsimp only; omega) | exact fun _ _ => rfl | exact ⟨by assumption, by first | exact trivial | decide | omega | (dsimp only; omega)⟩) ?_) | (apply And.intro) | (intro s hs))
        · rename_i p hp q9 hq9 b1 hb1 q10 hq10 b2 hb2 q11 hq11 v hv
          have w1 : IntKind.i64.wrap (i - 1) = i - 1 := IntWalk.i64_in _ (by omega)
          refine ⟨⟨P ++ [⟨p.ip, p.bits, b1, b2, IntKind.u32.wrap v⟩], IntKind.i64.wrap (i - 1), s, by omega, by rw [List.length_append]; simp only [List.length_cons, List.length_nil]; omega, hP.snoc ⟨hp.2, wr32 _⟩ (pfP_mk hp.1), hs⟩, [(9001, some 9017)], by dsimp only; omega, rfl, ⟨leF_ptr rfl, leF_ptr rfl, leF_ptr rfl, leF_int rfl, trivial⟩, ⟨rfl, tapeN_le⟩, ⟨rfl, leN_zE⟩, ⟨rfl, ?_⟩, ⟨rfl, ?_⟩, trivial⟩
          · refine leN_varA fun j hj => ?_
            iterate 48 (rcases j with _ | j; · first | exact leC_int rfl | exact leC_bool rfl | exact leC_nils | exact leC_nils_os rfl | exact leC_os rfl rfl | exact leC_os rfl (by rw [List.length_append]; rfl))
            exact absurd hj (by omega)
          · change LeN _ _ _
            refine leN_snoc (E := ePI) (L := P) (x := ⟨p.ip, p.bits, b1, b2, IntKind.u32.wrap v⟩) rfl (fun i hi j hj => selC_in (Nat.ble_eq_true_of_le hi) (Elem.flat _ _ _).le) ?_
            repeat' (first | exact trivial | (refine selC_out (blt_self _) ?_; rw [Nat.sub_self]; first | exact leC_int rfl | exact leC_bool rfl) | apply And.intro)
        · rename_i k2 hk2
          have hk2 : 0 ≤ k2 ∧ k2 < 3 := hk2
          have hk4 : k2 + ([] : List CI).length ≤ 2 := by have := hk2.2; simp only [List.length_nil]; omega
          refine loop_intro (mono_of LM_ok) (fun s : M2 n l => (⟨[(0, one (.ptr 0 0 0 false)), (2, one (.ptr 1 0 0 false)), (3, one (.ptr 8 0 0 false)), (6, one (.int .i64 s.i))], [(0, some (tapeN n (rI l) s.q)), (1, some zEnt), (8, some (mE38 { mkMA 134 ⟨0, 0, 0⟩ with hops := IntKind.u8.wrap a, life := IntKind.u16.wrap b } (.os 9001 0 P.length) (.os 9102 0 s.C.length))), (9001, some (enP P)), (9102, some (enC s.C))], 9103⟩ : Hd)) (fun s => s.i.toNat) (fun _ => rfl) ?_ ⟨[], k2, s, hk2.1, hk4, ⟨(fun x hx => by cases hx), (fun x hx => by cases hx)⟩, hs⟩ [(9102, none)] ⟨rfl, ⟨leF_ptr rfl, leF_ptr rfl, leF_ptr rfl, leF_int rfl, trivial⟩, ⟨rfl, tapeN_le⟩, ⟨rfl, leN_zE⟩, ⟨rfl, ?_⟩, ⟨rfl, leN_ents⟩, ⟨rfl, rfl, rfl, Nat.le_of_ble_eq_true rfl⟩, trivial⟩
          · clear hk2 hk4 hs
            rintro ⟨C, i2, q16, h02, hi2, hC, ht16⟩
            dsimp only at h02 hi2 hC ht16 ⊢
            repeat' (first | (apply And.intro <;> intro hc <;> (first | exact Bool.noConfusion hc | (simp only [decide_eq_true_eq, decide_eq_false_iff_not, Bool.not_eq_true', Bool.not_eq_false', beq_iff_eq, beq_eq_false_iff_ne, bne_iff_ne, bne_eq_false_iff_eq, Bool.true_eq_false, Bool.false_eq_true] at hc) | skip)) | (refine And.intro (by first | exact trivial | decide | omega | (dsimp only; omega) | exact fun _ _ => rfl | exact ⟨by assumption, by first | exact trivial | decide | omega | (dsimp only; omega)⟩) ?_) | (apply And.intro) | (intro s hs))
            · rename_i d hd q9 hq9 p hp q10 hq10 b1 hb1 q11 hq11 v hv
              have hd : 0 ≤ d ∧ d < 16 := hd
              have w1 : IntKind.i64.wrap (i2 - 1) = i2 - 1 := IntWalk.i64_in _ (by omega)
              refine ⟨⟨C ++ [⟨d, p.ip, p.bits, b1, IntKind.u16.wrap v⟩], IntKind.i64.wrap (i2 - 1), s, by omega, by rw [List.length_append]; simp only [List.length_cons, List.length_nil]; omega, hC.snoc ⟨hp.2, wr16 _⟩ (okC_mk hp.1 hd), hs⟩, [(9102, some 9118)], by dsimp only; omega, rfl, ⟨leF_ptr rfl, leF_ptr rfl, leF_ptr rfl, leF_int rfl, trivial⟩, ⟨rfl, tapeN_le⟩, ⟨rfl, leN_zE⟩, ⟨rfl, ?_⟩, ⟨rfl, leN_ents⟩, ⟨rfl, ?_⟩, trivial⟩
              · refine leN_varA fun j hj => ?_
                iterate 48 (rcases j with _ | j; · first | exact leC_int rfl | exact leC_bool rfl | exact leC_nils | exact leC_nils_os rfl | exact leC_os rfl rfl | exact leC_os rfl (by rw [List.length_append]; rfl))
                exact absurd hj (by omega)
              · change LeN _ _ _
                refine leN_snoc (E := eCI) (L := C) (x := ⟨d, p.ip, p.bits, b1, IntKind.u16.wrap v⟩) rfl (fun i hi j hj => selC_in (Nat.ble_eq_true_of_le hi) (Elem.flat _ _ _).le) ?_
                repeat' (first | exact trivial | (refine selC_out (blt_self _) ?_; rw [Nat.sub_self]; first | exact leC_int rfl | exact leC_bool rfl) | apply And.intro)
            · rename_i b5 hb5 q15 hq15 c9 v1 hv1 q17 hq17 v2 hv2 q18 hq18 T hT
              refine ⟨(⟨{ mkMA 134 ⟨0, 0, 0⟩ with hops := IntKind.u8.wrap a, life := IntKind.u16.wrap b }, P, C, ⟨IntKind.u32.wrap v1, IntKind.u16.wrap v2, T, true⟩⟩, s), ⟨mv_134 adr0 hP hC ⟨⟨wr32 _, wr16 _, hT⟩, .inl rfl⟩ (by omega) (by omega), hs⟩, ⟨leF_e (leE_msg rfl (fun j hj => ?_) (leC_row_fin rfl rfl) (leC_row_fin rfl rfl) (fun j hj => ?_)), tapeN_le⟩⟩
              · iterate 27 (rcases j with _ | j; · first | exact leC_int rfl | exact leC_bool rfl)
                exact absurd hj (by omega)
              · iterate 19 (rcases j with _ | j; · first | exact leC_int rfl | exact leC_bool rfl)
                exact absurd hj (by omega)
            · refine ⟨(⟨{ mkMA 134 ⟨0, 0, 0⟩ with hops := IntKind.u8.wrap a, life := IntKind.u16.wrap b }, P, C, noZ⟩, s), ⟨mv_134 adr0 hP hC ⟨noZ_r, .inr rfl⟩ (by omega) (by omega), hs⟩, ⟨leF_e (leE_msg rfl (fun j hj => ?_) (leC_row_fin rfl rfl) (leC_row_fin rfl rfl) (fun j hj => ?_)), tapeN_le⟩⟩
              · iterate 27 (rcases j with _ | j; · first | exact leC_int rfl | exact leC_bool rfl)
                exact absurd hj (by omega)
              · iterate 19 (rcases j with _ | j; · first | exact leC_int rfl | exact leC_bool rfl)
                exact absurd hj (by omega)
          · refine leN_varA fun j hj => ?_
            iterate 48 (rcases j with _ | j; · first | exact leC_int rfl | exact leC_bool rfl | exact leC_nils | exact leC_nils_os rfl | exact leC_os rfl rfl | exact leC_os rfl (by rw [List.length_append]; rfl))
            exact absurd hj (by omega)
      · refine ⟨rfl, ⟨leF_ptr rfl, leF_ptr rfl, leF_ptr rfl, leF_int rfl, trivial⟩, ⟨rfl, tapeN_le⟩, ⟨rfl, ?_⟩, ⟨rfl, ?_⟩, ⟨rfl, rfl, rfl, Nat.le_of_ble_eq_true rfl⟩, trivial⟩
        · exact leN_zE
        · refine leN_varA fun j hj => ?_
          iterate 48 (rcases j with _ | j; · first | exact leC_int rfl | exact leC_bool rfl | exact leC_nils | exact leC_nils_os rfl | exact leC_os rfl rfl | exact leC_os rfl (by rw [List.length_append]; rfl))
          exact absurd hj (by show ¬ _ < 48; omega)
    · rename_i A hA q6 hq6 bc hbc c1 a ha q7 hq7 b hb q8 hq8 k hk
      have hA' : AdrG A := ⟨hA, by have h : bc = bcast A := hbc
                                   rw [← h]; exact c1⟩
      have hk : 0 ≤ k ∧ k < 3 := hk
      have hk3 : k + ([] : List PI).length ≤ 2 := by have := hk.2; simp only [List.length_nil]; omega
      refine loop_intro (mono_of LM_ok) (fun s : M1 n l => (⟨[(0, one (.ptr 0 0 0 false)), (2, one (.ptr 1 0 0 false)), (3, one (.ptr 8 0 0 false)), (5, one (.int .i64 s.i))], [(0, some (tapeN n (rI l) s.q)), (1, some zEnt), (8, some (mE38 { mkMA 134 A with hops := IntKind.u8.wrap a, life := IntKind.u16.wrap b } (.os 9001 0 s.P.length) .nils)), (9001, some (enP s.P))], 9002⟩ : Hd)) (fun s => s.i.toNat) (fun _ => rfl) ?_ ⟨[], k, s, hk.1, hk3, ⟨(fun x hx => by cases hx), (fun x hx => by cases hx)⟩, hs⟩ [(9001, none)] ?_
      · rintro ⟨P, i, q6, h0, hi, hP, ht6⟩
        dsimp only at h0 hi hP ht6 ⊢
        repeat' (first | (apply And.intro <;> intro hc <;> (first | exact Bool.noConfusion hc | (simp only [decide_eq_true_eq, decide_eq_false_iff_not, Bool.not_eq_true', Bool.not_eq_false', beq_iff_eq, beq_eq_false_iff_ne, bne_iff_ne, bne_eq_false_iff_eq, Bool.true_eq_false, Bool.false_eq_true] at hc) | skip)) | (refine And.intro (by first | exact trivial | decide | omega | (dsimp only; omega) | exact fun _ _ => rfl | exact ⟨by assumption, by first | exact trivial | decide | omega | (dsimp only; omega)⟩) ?_) | (apply And.intro) | (intro s hs))
        · rename_i p hp q9 hq9 b1 hb1 q10 hq10 b2 hb2 q11 hq11 v hv
          have w1 : IntKind.i64.wrap (i - 1) = i - 1 := IntWalk.i64_in _ (by omega)
          refine ⟨⟨P ++ [⟨p.ip, p.bits, b1, b2, IntKind.u32.wrap v⟩], IntKind.i64.wrap (i - 1), s, by omega, by rw [List.length_append]; simp only [List.length_cons, List.length_nil]; omega, hP.snoc ⟨hp.2, wr32 _⟩ (pfP_mk hp.1), hs⟩, [(9001, some 9017)], by dsimp only; omega, rfl, ⟨leF_ptr rfl, leF_ptr rfl, leF_ptr rfl, leF_int rfl, trivial⟩, ⟨rfl, tapeN_le⟩, ⟨rfl, leN_zE⟩, ⟨rfl, ?_⟩, ⟨rfl, ?_⟩, trivial⟩
          · refine leN_varA fun j hj => ?_
            iterate 48 (rcases j with _ | j; · first | exact leC_int rfl | exact leC_bool rfl | exact leC_nils | exact leC_nils_os rfl | exact leC_os rfl rfl | exact leC_os rfl (by rw [List.length_append]; rfl))
            exact absurd hj (by omega)
          · change LeN _ _ _
            refine leN_snoc (E := ePI) (L := P) (x := ⟨p.ip, p.bits, b1, b2, IntKind.u32.wrap v⟩) rfl (fun i hi j hj => selC_in (Nat.ble_eq_true_of_le hi) (Elem.flat _ _ _).le) ?_
            repeat' (first | exact trivial | (refine selC_out (blt_self _) ?_; rw [Nat.sub_self]; first | exact leC_int rfl | exact leC_bool rfl) | apply And.intro)
        · rename_i k2 hk2
          have hk2 : 0 ≤ k2 ∧ k2 < 3 := hk2
          have hk4 : k2 + ([] : List CI).length ≤ 2 := by have := hk2.2; simp only [List.length_nil]; omega
          refine loop_intro (mono_of LM_ok) (fun s : M2 n l => (⟨[(0, one (.ptr 0 0 0 false)), (2, one (.ptr 1 0 0 false)), (3, one (.ptr 8 0 0 false)), (6, one (.int .i64 s.i))], [(0, some (tapeN n (rI l) s.q)), (1, some zEnt), (8, some (mE38 { mkMA 134 A with hops := IntKind.u8.wrap a, life := IntKind.u16.wrap b } (.os 9001 0 P.length) (.os 9102 0 s.C.length))), (9001, some (enP P)), (9102, some (enC s.C))], 9103⟩ : Hd)) (fun s => s.i.toNat) (fun _ => rfl) ?_ ⟨[], k2, s, hk2.1, hk4, ⟨(fun x hx => by cases hx), (fun x hx => by cases hx)⟩, hs⟩ [(9102, none)] ⟨rfl, ⟨leF_ptr rfl, leF_ptr rfl, leF_ptr rfl, leF_int rfl, trivial⟩, ⟨rfl, tapeN_le⟩, ⟨rfl, leN_zE⟩, ⟨rfl, ?_⟩, ⟨rfl, leN_ents⟩, ⟨rfl, rfl, rfl, Nat.le_of_ble_eq_true rfl⟩, trivial⟩
          · clear hk2 hk4 hs
            rintro ⟨C, i2, q16, h02, hi2, hC, ht16⟩
            dsimp only at h02 hi2 hC ht16 ⊢
            repeat' (first | (apply And.intro <;> intro hc <;> (first | exact Bool.noConfusion hc | (simp only [decide_eq_true_eq, decide_eq_false_iff_not, Bool.not_eq_true', Bool.not_eq_false', beq_iff_eq, beq_eq_false_iff_ne, bne_iff_ne, bne_eq_false_iff_eq, Bool.true_eq_false, Bool.false_eq_true] at hc) | skip)) | (refine And.intro (by first | exact trivial | decide | omega | (dsimp only; omega) | exact fun _ _ => rfl | exact ⟨by assumption, by first | exact trivial | decide | omega | (dsimp only; omega)⟩) ?_) | (apply And.intro) | (intro s hs))
            · rename_i d hd q9 hq9 p hp q10 hq10 b1 hb1 q11 hq11 v hv
              have hd : 0 ≤ d ∧ d < 16 := hd
              have w1 : IntKind.i64.wrap (i2 - 1) = i2 - 1 := IntWalk.i64_in _ (by omega)
              refine ⟨⟨C ++ [⟨d, p.ip, p.bits, b1, IntKind.u16.wrap v⟩], IntKind.i64.wrap (i2 - 1), s, by omega, by rw [List.length_append]; simp only [List.length_cons, List.length_nil]; omega, hC.snoc ⟨hp.2, wr16 _⟩ (okC_mk hp.1 hd), hs⟩, [(9102, some 9118)], by dsimp only; omega, rfl, ⟨leF_ptr rfl, leF_ptr rfl, leF_ptr rfl, leF_int rfl, trivial⟩, ⟨rfl, tapeN_le⟩, ⟨rfl, leN_zE⟩, ⟨rfl, ?_⟩, ⟨rfl, leN_ents⟩, ⟨rfl, ?_⟩, trivial⟩
              · refine leN_varA fun j hj => ?_
                iterate 48 (rcases j with _ | j; · first | exact leC_int rfl | exact leC_bool rfl | exact leC_nils | exact leC_nils_os rfl | exact leC_os rfl rfl | exact leC_os rfl (by rw [List.length_append]; rfl))
                exact absurd hj (by omega)
              · change LeN _ _ _
                refine leN_snoc (E := eCI) (L := C) (x := ⟨d, p.ip, p.bits, b1, IntKind.u16.wrap v⟩) rfl (fun i hi j hj => selC_in (Nat.ble_eq_true_of_le hi) (Elem.flat _ _ _).le) ?_
                repeat' (first | exact trivial | (refine selC_out (blt_self _) ?_; rw [Nat.sub_self]; first | exact leC_int rfl | exact leC_bool rfl) | apply And.intro)
            · rename_i b5 hb5 q15 hq15 c9 v1 hv1 q17 hq17 v2 hv2 q18 hq18 T hT
              refine ⟨(⟨{ mkMA 134 A with hops := IntKind.u8.wrap a, life := IntKind.u16.wrap b }, P, C, ⟨IntKind.u32.wrap v1, IntKind.u16.wrap v2, T, true⟩⟩, s), ⟨mv_134 hA' hP hC ⟨⟨wr32 _, wr16 _, hT⟩, .inl rfl⟩ (by omega) (by omega), hs⟩, ⟨leF_e (leE_msg rfl (fun j hj => ?_) (leC_row_fin rfl rfl) (leC_row_fin rfl rfl) (fun j hj => ?_)), tapeN_le⟩⟩
              · iterate 27 (rcases j with _ | j; · first | exact leC_int rfl | exact leC_bool rfl)
                exact absurd hj (by omega)
              · iterate 19 (rcases j with _ | j; · first | exact leC_int rfl | exact leC_bool rfl)
                exact absurd hj (by omega)
            · refine ⟨(⟨{ mkMA 134 A with hops := IntKind.u8.wrap a, life := IntKind.u16.wrap b }, P, C, noZ⟩, s), ⟨mv_134 hA' hP hC ⟨noZ_r, .inr rfl⟩ (by omega) (by omega), hs⟩, ⟨leF_e (leE_msg rfl (fun j hj => ?_) (leC_row_fin rfl rfl) (leC_row_fin rfl rfl) (fun j hj => ?_)), tapeN_le⟩⟩
              · iterate 27 (rcases j with _ | j; · first | exact leC_int rfl | exact leC_bool rfl)
                exact absurd hj (by omega)
              · iterate 19 (rcases j with _ | j; · first | exact leC_int rfl | exact leC_bool rfl)
                exact absurd hj (by omega)
          · refine leN_varA fun j hj => ?_
            iterate 48 (rcases j with _ | j; · first | exact leC_int rfl | exact leC_bool rfl | exact leC_nils | exact leC_nils_os rfl | exact leC_os rfl rfl | exact leC_os rfl (by rw [List.length_append]; rfl))
            exact absurd hj (by omega)
      · refine ⟨rfl, ⟨leF_ptr rfl, leF_ptr rfl, leF_ptr rfl, leF_int rfl, trivial⟩, ⟨rfl, tapeN_le⟩, ⟨rfl, ?_⟩, ⟨rfl, ?_⟩, ⟨rfl, rfl, rfl, Nat.le_of_ble_eq_true rfl⟩, trivial⟩
        · exact leN_zE
        · refine leN_varA fun j hj => ?_
          iterate 48 (rcases j with _ | j; · first | exact leC_int rfl | exact leC_bool rfl | exact leC_nils | exact leC_nils_os rfl | exact leC_os rfl rfl | exact leC_os rfl (by rw [List.length_append]; rfl))
          exact absurd hj (by show ¬ _ < 48; omega)
  · subst h
    refine And.intro (by decide) ?_
    refine And.intro (by decide) ?_
    refine And.intro (by exact ⟨by assumption, trivial⟩) ?_
    intro w hw q2 hq2
    refine And.intro (by exact ⟨by assumption, by decide, by decide⟩) ?_
    intro y hy q3 hq3
    refine And.intro (by exact ⟨by assumption, by decide, by decide⟩) ?_
    intro x hx q4 hq4
    refine And.intro (by exact ⟨by assumption, by decide, by decide⟩) ?_
    intro z hz q5 hq5
    repeat' (first | (apply And.intro <;> intro hc <;> (first | exact Bool.noConfusion hc | (simp only [decide_eq_true_eq, decide_eq_false_iff_not, Bool.not_eq_true', Bool.not_eq_false', beq_iff_eq, beq_eq_false_iff_ne, bne_iff_ne, bne_eq_false_iff_eq, Bool.true_eq_false, Bool.false_eq_true] at hc) | skip)) | (refine And.intro (by first | exact trivial | decide | omega | (dsimp only; omega) | exact fun _ _ => rfl | exact ⟨by assumption, by first | exact trivial | decide | omega | (dsimp only; omega)⟩) ?_) | (apply And.intro) | (intro s hs))
    · rename (Fin 16 → Int) => T
      rename byteOk _ => hT
      refine ⟨(⟨ownW { mkMA 135 ⟨0, 0, 0⟩ with tgt := T } x y z w, [], [], noZ⟩, _), ⟨mv_nbo (.inl rfl) adr0 hT hw, by assumption⟩, ⟨leF_e (leE_msg rfl (fun j hj => ?_) (leC_nils_sl rfl) (leC_nils_sl rfl) (fun j hj => ?_)), tapeN_le⟩⟩
      · iterate 27 (rcases j with _ | j; · first | exact leC_int rfl | exact leC_bool rfl)
        exact absurd hj (by omega)
      · iterate 19 (rcases j with _ | j; · first | exact leC_int rfl | exact leC_bool rfl)
        exact absurd hj (by omega)
    · rename (Fin 16 → Int) => T
      rename byteOk _ => hT
      refine ⟨(⟨{ mkMA 135 ⟨0, 0, 0⟩ with tgt := T }, [], [], noZ⟩, _), ⟨mv_nb (.inl rfl) adr0 hT, by assumption⟩, ⟨leF_e (leE_msg rfl (fun j hj => ?_) (leC_nils_sl rfl) (leC_nils_sl rfl) (fun j hj => ?_)), tapeN_le⟩⟩
      · iterate 27 (rcases j with _ | j; · first | exact leC_int rfl | exact leC_bool rfl)
        exact absurd hj (by omega)
      · iterate 19 (rcases j with _ | j; · first | exact leC_int rfl | exact leC_bool rfl)
        exact absurd hj (by omega)
    · rename (Fin 16 → Int) => T
      rename byteOk _ => hT
      rename Adr => A
      rename AdrW _ => hA
      have hA' : AdrG A := ⟨hA, by
        rename_i b1 e1 c0 T1 hT1 q6 hq6 b2 hb2 c1
        have h : b1 = bcast A := e1
        rw [← h]; assumption⟩
      refine ⟨(⟨ownW { mkMA 135 A with tgt := T } x y z w, [], [], noZ⟩, _), ⟨mv_nbo (.inl rfl) hA' hT hw, by assumption⟩, ⟨leF_e (leE_msg rfl (fun j hj => ?_) (leC_nils_sl rfl) (leC_nils_sl rfl) (fun j hj => ?_)), tapeN_le⟩⟩
      · iterate 27 (rcases j with _ | j; · first | exact leC_int rfl | exact leC_bool rfl)
        exact absurd hj (by omega)
      · iterate 19 (rcases j with _ | j; · first | exact leC_int rfl | exact leC_bool rfl)
        exact absurd hj (by omega)
    · rename (Fin 16 → Int) => T
      rename byteOk _ => hT
      rename Adr => A
      rename AdrW _ => hA
      have hA' : AdrG A := ⟨hA, by
        rename_i b1 e1 c0 T1 hT1 q6 hq6 b2 hb2 c1
        have h : b1 = bcast A := e1
        rw [← h]; assumption⟩
      refine ⟨(⟨{ mkMA 135 A with tgt := T }, [], [], noZ⟩, _), ⟨mv_nb (.inl rfl) hA' hT, by assumption⟩, ⟨leF_e (leE_msg rfl (fun j hj => ?_) (leC_nils_sl rfl) (leC_nils_sl rfl) (fun j hj => ?_)), tapeN_le⟩⟩
      · iterate 27 (rcases j with _ | j; · first | exact leC_int rfl | exact leC_bool rfl)
        exact absurd hj (by omega)
      · iterate 19 (rcases j with _ | j; · first | exact leC_int rfl | exact leC_bool rfl)
        exact absurd hj (by omega)
  · subst h
    refine And.intro (by decide) ?_
    refine And.intro (by decide) ?_
    refine And.intro (by exact ⟨by assumption, trivial⟩) ?_
    intro w hw q2 hq2
    refine And.intro (by exact ⟨by assumption, by decide, by decide⟩) ?_
    intro y hy q3 hq3
    refine And.intro (by exact ⟨by assumption, by decide, by decide⟩) ?_
    intro x hx q4 hq4
    refine And.intro (by exact ⟨by assumption, by decide, by decide⟩) ?_
    intro z hz q5 hq5
    repeat' (first | (apply And.intro <;> intro hc <;> (first | exact Bool.noConfusion hc | (simp only [decide_eq_true_eq, decide_eq_false_iff_not, Bool.not_eq_true', Bool.not_eq_false', beq_iff_eq, beq_eq_false_iff_ne, bne_iff_ne, bne_eq_false_iff_eq, Bool.true_eq_false, Bool.false_eq_true] at hc) | skip)) | (refine And.intro (by first | exact trivial | decide | omega | (dsimp only; omega) | exact fun _ _ => rfl | exact ⟨by assumption, by first | exact trivial | decide | omega | (dsimp only; omega)⟩) ?_) | (apply And.intro) | (intro s hs))
    · rename (Fin 16 → Int) => T
      rename byteOk _ => hT
      refine ⟨(⟨ownW { mkMA 136 ⟨0, 0, 0⟩ with tgt := T } x y z w, [], [], noZ⟩, _), ⟨mv_nbo (.inr rfl) adr0 hT hw, by assumption⟩, ⟨leF_e (leE_msg rfl (fun j hj => ?_) (leC_nils_sl rfl) (leC_nils_sl rfl) (fun j hj => ?_)), tapeN_le⟩⟩
      · iterate 27 (rcases j with _ | j; · first | exact leC_int rfl | exact leC_bool rfl)
        exact absurd hj (by omega)
      · iterate 19 (rcases j with _ | j; · first | exact leC_int rfl | exact leC_bool rfl)
        exact absurd hj (by omega)
    · rename (Fin 16 → Int) => T
      rename byteOk _ => hT
      refine ⟨(⟨{ mkMA 136 ⟨0, 0, 0⟩ with tgt := T }, [], [], noZ⟩, _), ⟨mv_nb (.inr rfl) adr0 hT, by assumption⟩, ⟨leF_e (leE_msg rfl (fun j hj => ?_) (leC_nils_sl rfl) (leC_nils_sl rfl) (fun j hj => ?_)), tapeN_le⟩⟩
      · iterate 27 (rcases j with _ | j; · first | exact leC_int rfl | exact leC_bool rfl)
        exact absurd hj (by omega)
      · iterate 19 (rcases j with _ | j; · first | exact leC_int rfl | exact leC_bool rfl)
        exact absurd hj (by omega)
    · rename (Fin 16 → Int) => T
      rename byteOk _ => hT
      rename Adr => A
      rename AdrW _ => hA
      have hA' : AdrG A := ⟨hA, by
        rename_i b1 e1 c0 T1 hT1 q6 hq6 b2 hb2 c1
        have h : b1 = bcast A := e1
        rw [← h]; assumption⟩
      refine ⟨(⟨ownW { mkMA 136 A with tgt := T } x y z w, [], [], noZ⟩, _), ⟨mv_nbo (.inr rfl) hA' hT hw, by assumption⟩, ⟨leF_e (leE_msg rfl (fun j hj => ?_) (leC_nils_sl rfl) (leC_nils_sl rfl) (fun j hj => ?_)), tapeN_le⟩⟩
      · iterate 27 (rcases j with _ | j; · first | exact leC_int rfl | exact leC_bool rfl)
        exact absurd hj (by omega)
      · iterate 19 (rcases j with _ | j; · first | exact leC_int rfl | exact leC_bool rfl)
        exact absurd hj (by omega)
    · rename (Fin 16 → Int) => T
      rename byteOk _ => hT
      rename Adr => A
      rename AdrW _ => hA
      have hA' : AdrG A := ⟨hA, by
        rename_i b1 e1 c0 T1 hT1 q6 hq6 b2 hb2 c1
        have h : b1 = bcast A := e1
        rw [← h]; assumption⟩
      refine ⟨(⟨{ mkMA 136 A with tgt := T }, [], [], noZ⟩, _), ⟨mv_nb (.inr rfl) hA' hT, by assumption⟩, ⟨leF_e (leE_msg rfl (fun j hj => ?_) (leC_nils_sl rfl) (leC_nils_sl rfl) (fun j hj => ?_)), tapeN_le⟩⟩
      · iterate 27 (rcases j with _ | j; · first | exact leC_int rfl | exact leC_bool rfl)
        exact absurd hj (by omega)
      · iterate 19 (rcases j with _ | j; · first | exact leC_int rfl | exact leC_bool rfl)
        exact absurd hj (by omega)
  · subst h
    refine And.intro (by decide) ?_
    refine And.intro (by decide) ?_
    refine And.intro (by exact ⟨by assumption, trivial⟩) ?_
    intro w hw q2 hq2
    refine And.intro (by exact ⟨by assumption, by decide, by decide⟩) ?_
    intro y hy q3 hq3
    refine And.intro (by exact ⟨by assumption, by decide, by decide⟩) ?_
    intro x hx q4 hq4
    refine And.intro (by exact ⟨by assumption, by decide, by decide⟩) ?_
    intro z hz q5 hq5
    repeat' (first | (apply And.intro <;> intro hc <;> (first | exact Bool.noConfusion hc | (simp only [decide_eq_true_eq, decide_eq_false_iff_not, Bool.not_eq_true', Bool.not_eq_false', beq_iff_eq, beq_eq_false_iff_ne, bne_iff_ne, bne_eq_false_iff_eq, Bool.true_eq_false, Bool.false_eq_true] at hc) | skip)) | (refine And.intro (by first | exact trivial | decide | omega | (dsimp only; omega) | exact fun _ _ => rfl | exact ⟨by assumption, by first | exact trivial | decide | omega | (dsimp only; omega)⟩) ?_) | (apply And.intro) | (intro s hs))
    · rename (Fin 16 → Int) => T
      rename byteOk _ => hT
      refine ⟨(⟨ownW { mkMA 157 ⟨0, 0, 0⟩ with tgt := T } x y z w, [], [], noZ⟩, _), ⟨mv_dup (.inl rfl) hT hw, by assumption⟩, ⟨leF_e (leE_msg rfl (fun j hj => ?_) (leC_nils_sl rfl) (leC_nils_sl rfl) (fun j hj => ?_)), tapeN_le⟩⟩
      · iterate 27 (rcases j with _ | j; · first | exact leC_int rfl | exact leC_bool rfl)
        exact absurd hj (by omega)
      · iterate 19 (rcases j with _ | j; · first | exact leC_int rfl | exact leC_bool rfl)
        exact absurd hj (by omega)
  · subst h
    refine And.intro (by decide) ?_
    refine And.intro (by decide) ?_
    refine And.intro (by exact ⟨by assumption, trivial⟩) ?_
    intro w hw q2 hq2
    refine And.intro (by exact ⟨by assumption, by decide, by decide⟩) ?_
    intro y hy q3 hq3
    refine And.intro (by exact ⟨by assumption, by decide, by decide⟩) ?_
    intro x hx q4 hq4
    refine And.intro (by exact ⟨by assumption, by decide, by decide⟩) ?_
    intro z hz q5 hq5
    repeat' (first | (apply And.intro <;> intro hc <;> (first | exact Bool.noConfusion hc | (simp only [decide_eq_true_eq, decide_eq_false_iff_not, Bool.not_eq_true', Bool.not_eq_false', beq_iff_eq, beq_eq_false_iff_ne, bne_iff_ne, bne_eq_false_iff_eq, Bool.true_eq_false, Bool.false_eq_true] at hc) | skip)) | (refine And.intro (by first | exact trivial | decide | omega | (dsimp only; omega) | exact fun _ _ => rfl | exact ⟨by assumption, by first | exact trivial | decide | omega | (dsimp only; omega)⟩) ?_) | (apply And.intro) | (intro s hs))
    · rename (Fin 16 → Int) => T
      rename byteOk _ => hT
      refine ⟨(⟨ownW { mkMA 158 ⟨0, 0, 0⟩ with tgt := T } x y z w, [], [], noZ⟩, _), ⟨mv_dup (.inr rfl) hT hw, by assumption⟩, ⟨leF_e (leE_msg rfl (fun j hj => ?_) (leC_nils_sl rfl) (leC_nils_sl rfl) (fun j hj => ?_)), tapeN_le⟩⟩
      · iterate 27 (rcases j with _ | j; · first | exact leC_int rfl | exact leC_bool rfl)
        exact absurd hj (by omega)
      · iterate 19 (rcases j with _ | j; · first | exact leC_int rfl | exact leC_bool rfl)
        exact absurd hj (by omega)
abbrev msgE : Entry := tapeE AC.nil (fun _ => True) (fun a (m : Msg) => MsgV m) (fun m => .e (msgR m))
theorem msgE_ok : EntOk Try.prog 9 msgE := tapeE_ok ⟨_, Try.func9, rfl, by kernel_rfl⟩ fun n l q a ht _ => message_ok n l q ht
end Go.Proofs.Ytmcjchffblfkaaa.AX

/- Layer 20 by AX2: Same of the reference. -/
namespace Go.Proofs.Ytmcjchffblfkaaa.AX
open Go.RowKit
set_option linter.unusedVariables false
set_option linter.unusedSimpArgs false
def isIB : CV → Bool
  | .int _ _ => true
  | .bool _ => true
  | _ => false
theorem eqC_self {x : CV} (h : isIB x = true) : eqCell x x = true := by
  cases x with
  | int k a => show (a == a) = true; exact beq_self_eq_true _
  | bool a => show (a == a) = true; exact beq_self_eq_true _
  | _ => cases h
theorem eqF_self (f : Nat → CV) (n : Nat) (h : ∀ i, i < n → isIB (f i) = true) : eqFrom f f n 0 = true :=
  eqFrom_iff.2 fun i hi => by rw [Nat.zero_add]; exact eqC_self (h i hi)
theorem msgF {m : Msg} {P C : CV} {j : Nat} (hj : j < 48) (h : j ≠ 27) (h2 : j ≠ 28) : isIB (msgC m.a P C m.z j) = true := by
  iterate 48 (rcases j with _ | j; · first | exact rfl | exact absurd rfl h | exact absurd rfl h2)
  exact absurd hj (by omega)
theorem piF {x : PI} {j : Nat} (hj : j < 20) : isIB (ePI.cell x j) = true := by
  iterate 20 (rcases j with _ | j; · exact rfl)
  exact absurd hj (by omega)
theorem ciF {x : CI} {j : Nat} (hj : j < 20) : isIB (eCI.cell x j) = true := by
  iterate 20 (rcases j with _ | j; · exact rfl)
  exact absurd hj (by omega)
theorem msgS (m : Msg) (P C : CV) (k n : Nat) (h : k + n ≤ 27 ∨ (29 ≤ k ∧ k + n ≤ 48)) : eqFrom (fun q => msgC m.a P C m.z (0 + k + q)) (fun q => msgC m.a P C m.z (0 + k + q)) n 0 = true :=
  eqF_self _ n fun i hi => msgF (by omega) (by omega) (by omega)
set_option maxHeartbeats 8000000 in
set_option maxRecDepth 20000 in
theorem dsame_ok (m : Msg) (hp : m.p.length ≤ 9223372036854775807) (hn : m.c.length ≤ 9223372036854775807) : PureOk Try.prog 22 [cMsg.enc m, cMsg.enc m] (cB.enc true) := by
  have s1 := msgS m (slP m.p) (slC m.c) 3 16 (.inl (by omega))
  have s2 := msgS m (slP m.p) (slC m.c) 19 3 (.inl (by omega))
  have s3 := msgS m (slP m.p) (slC m.c) 22 4 (.inl (by omega))
  have s4 := msgS m (slP m.p) (slC m.c) 29 18 (.inr (by omega))
  refine pure_intro (wd := 1) (Q := mkQ LE0) (by decide) tysOk (q_of LE0_ok) mixed Try.func22 rfl _ (by show 2 ≤ _; decide) _ ?_
  repeat' (first | (apply And.intro <;> intro hc <;> (first | exact Bool.noConfusion hc | (exfalso; first | exact absurd rfl hc | exact absurd (beq_self_eq_true _) (by rw [hc]; decide) | exact Bool.noConfusion (s1.symm.trans hc) | exact Bool.noConfusion (s2.symm.trans hc) | exact Bool.noConfusion (s3.symm.trans hc) | exact Bool.noConfusion (s4.symm.trans hc)) | (simp only [decide_eq_true_eq, decide_eq_false_iff_not, Bool.not_eq_true', Bool.not_eq_false', beq_iff_eq, beq_eq_false_iff_ne, bne_iff_ne, bne_eq_false_iff_eq, Bool.true_eq_false, Bool.false_eq_true, ne_eq, not_true_eq_false] at hc <;> first | exact absurd rfl hc | (exfalso; first | exact absurd rfl hc | exact absurd (beq_self_eq_true _) (by rw [hc]; decide) | exact Bool.noConfusion (s1.symm.trans hc) | exact Bool.noConfusion (s2.symm.trans hc) | exact Bool.noConfusion (s3.symm.trans hc) | exact Bool.noConfusion (s4.symm.trans hc)) | skip) | skip)) | (refine And.intro (by first | exact trivial | decide | omega | (dsimp only; omega) | exact fun _ _ => rfl | exact ⟨by assumption, by first | exact trivial | decide | omega | (dsimp only; omega)⟩) ?_) | (apply And.intro) | (intro s hs; skip))
  refine loop_intro (mono_of LE0_ok) (fun s : {i : Nat // i ≤ m.p.length} => (⟨[(2, one (.ptr 0 0 0 false)), (3, one (.ptr 1 0 0 false)), (5, one (.int .i64 (s.1 : Int)))], [(0, some (mEnt m)), (1, some (mEnt m))], 2⟩ : Hd)) (fun s => m.p.length - s.1) (fun _ => rfl) ?_ ⟨0, Nat.zero_le _⟩ [] ⟨rfl, ⟨leF_ptr rfl, leF_ptr rfl, leF_int rfl, trivial⟩, ⟨rfl, leN_msg⟩, ⟨rfl, leN_msg⟩, trivial⟩
  · rintro ⟨i, hi⟩
    dsimp only at hi ⊢
    have sP := eqF_self (ePI.cell (m.p.getD i default)) 20 fun j hj => piF hj
    repeat' (first | (apply And.intro <;> intro hc <;> (first | exact Bool.noConfusion hc | (exfalso; first | exact absurd rfl hc | exact absurd (beq_self_eq_true _) (by rw [hc]; decide) | exact Bool.noConfusion (sP.symm.trans hc)) | (simp only [decide_eq_true_eq, decide_eq_false_iff_not, Bool.not_eq_true', Bool.not_eq_false', beq_iff_eq, beq_eq_false_iff_ne, bne_iff_ne, bne_eq_false_iff_eq, Bool.true_eq_false, Bool.false_eq_true, ne_eq, not_true_eq_false] at hc <;> first | exact absurd rfl hc | (exfalso; first | exact absurd rfl hc | exact absurd (beq_self_eq_true _) (by rw [hc]; decide) | exact Bool.noConfusion (sP.symm.trans hc)) | skip) | skip)) | (refine And.intro (by first | exact trivial | decide | omega | (dsimp only; omega) | exact fun _ _ => rfl | exact ⟨by assumption, by first | exact trivial | decide | omega | (dsimp only; omega)⟩) ?_) | (apply And.intro) | (intro s hs; skip))
    · have w1 : IntKind.i64.wrap ((i : Int) + 1) = ((i + 1 : Nat) : Int) := (IntWalk.i64_in _ (by omega)).trans (by omega)
      refine ⟨⟨i + 1, by omega⟩, [], by dsimp only; omega, rfl, ⟨leF_ptr rfl, leF_ptr rfl, leF_int w1, trivial⟩, ⟨rfl, leN_msg⟩, ⟨rfl, leN_msg⟩, trivial⟩
    · refine loop_intro (mono_of LE0_ok) (fun s : {i : Nat // i ≤ m.c.length} => (⟨[(2, one (.ptr 0 0 0 false)), (3, one (.ptr 1 0 0 false)), (6, one (.int .i64 (s.1 : Int)))], [(0, some (mEnt m)), (1, some (mEnt m))], 2⟩ : Hd)) (fun s => m.c.length - s.1) (fun _ => rfl) ?_ ⟨0, Nat.zero_le _⟩ [] ⟨rfl, ⟨leF_ptr rfl, leF_ptr rfl, leF_int rfl, trivial⟩, ⟨rfl, leN_msg⟩, ⟨rfl, leN_msg⟩, trivial⟩
      rintro ⟨i2, hi2⟩
      dsimp only at hi2 ⊢
      have sC := eqF_self (eCI.cell (m.c.getD i2 default)) 20 fun j hj => ciF hj
      repeat' (first | (apply And.intro <;> intro hc <;> (first | exact Bool.noConfusion hc | (exfalso; first | exact absurd rfl hc | exact absurd (beq_self_eq_true _) (by rw [hc]; decide) | exact Bool.noConfusion (sC.symm.trans hc)) | (simp only [decide_eq_true_eq, decide_eq_false_iff_not, Bool.not_eq_true', Bool.not_eq_false', beq_iff_eq, beq_eq_false_iff_ne, bne_iff_ne, bne_eq_false_iff_eq, Bool.true_eq_false, Bool.false_eq_true, ne_eq, not_true_eq_false] at hc <;> first | exact absurd rfl hc | (exfalso; first | exact absurd rfl hc | exact absurd (beq_self_eq_true _) (by rw [hc]; decide) | exact Bool.noConfusion (sC.symm.trans hc)) | skip) | skip)) | (refine And.intro (by first | exact trivial | decide | omega | (dsimp only; omega) | exact fun _ _ => rfl | exact ⟨by assumption, by first | exact trivial | decide | omega | (dsimp only; omega)⟩) ?_) | (apply And.intro) | (intro s hs; skip))
      · have w1 : IntKind.i64.wrap ((i2 : Int) + 1) = ((i2 + 1 : Nat) : Int) := (IntWalk.i64_in _ (by omega)).trans (by omega)
        refine ⟨⟨i2 + 1, by omega⟩, [], by dsimp only; omega, rfl, ⟨leF_ptr rfl, leF_ptr rfl, leF_int w1, trivial⟩, ⟨rfl, leN_msg⟩, ⟨rfl, leN_msg⟩, trivial⟩
      · exact Done.mk (leF_bool rfl)
abbrev dsameE : Entry := pureE (AC.cons cMsg (AC.cons cMsg AC.nil)) (fun a => a.1 = a.2.1 ∧ a.1.p.length ≤ 9223372036854775807 ∧ a.1.c.length ≤ 9223372036854775807) (fun a => true) cB.enc
theorem dsameE_ok : EntOk Try.prog 22 dsameE := pureE_ok ⟨_, Try.func22, rfl, by kernel_rfl⟩ fun a h => by
  obtain ⟨p, q, u⟩ := a
  obtain ⟨h1, h2, h3⟩ := h
  dsimp only at h1 h2 h3
  subst h1
  exact dsame_ok p h2 h3
end Go.Proofs.Ytmcjchffblfkaaa.AX

/- Layer 20 by AX2: the sanity check of the laws. -/
namespace Go.Proofs.Ytmcjchffblfkaaa.AX
open Go.RowKit
set_option linter.unusedVariables false
set_option linter.unusedSimpArgs false
def LK0 : CsL := (11, some dencE) :: (21, some ddecE) :: []
theorem LK0_ok : AllOk Try.prog LK0 := ⟨dencE_ok, ddecE_ok, trivial⟩
def kM : Msg := ⟨mkMA 133 ⟨2, 5, 0⟩, [], [], noZ⟩
def kD : Fin 16 → Int := fun i => if i.1 = 0 then 1 else 0
theorem ipx_fun {S a : Fin 16 → Int} (h : ∀ i (hi : i < 16), S ⟨i, hi⟩ = a ⟨i, hi⟩) : S = a := funext fun q => h q.1 q.2
theorem kD_r : byteOk kD := ⟨fun i => by unfold kD; split <;> decide⟩
theorem kM_v : validM kM = true := rfl
theorem kM_r : MsgR kM := ⟨⟨by decide, zr8, zr16, zA_r, by decide, zr64, zr64, zr8, zr8, zr16⟩, (fun x hx => by cases hx), (fun x hx => by cases hx), noZ_r⟩
theorem kM_e : encDM kM zA kD = some (encX kM (sumM kM zA kD)) := if_pos kM_v
theorem k_msg {M : Msg} (h1 : M.a.ty = 133) (h2 : M.a.hops = 0) (h3 : M.a.life = 0) (h4 : ∀ i (hi : i < 16), M.a.tgt ⟨i, hi⟩ = zA ⟨i, hi⟩) (h5 : M.a.mode = 2) (h6 : M.a.short = 5) (h7 : M.a.eui = 0) (h8 : M.a.oeui = 0) (h9 : M.a.oseq = 0) (h10 : M.a.ostat = 0) (h11 : M.a.olife = 0) (h12 : M.a.hasO = false) (h13 : M.p = []) (h14 : M.c = []) (h15 : M.z.bver = 0) (h16 : M.z.blife = 0) (h17 : ∀ i (hi : i < 16), M.z.brt ⟨i, hi⟩ = zA ⟨i, hi⟩) (h18 : M.z.hasB = false) : M = kM := by
  have e4 := ipx_fun h4
  have e17 := ipx_fun h17
  obtain ⟨⟨a1, a2, a3, a4, a5, a6, a7, a8, a9, a10, a11, a12⟩, p, c, ⟨b1, b2, b3, b4⟩⟩ := M
  dsimp only at h1 h2 h3 e4 h5 h6 h7 h8 h9 h10 h11 h12 h13 h14 h15 h16 e17 h18
  subst h1 h2 h3 e4 h5 h6 h7 h8 h9 h10 h11 h12 h13 h14 h15 h16 e17 h18
  rfl
theorem dec_at {s : Msg × Int} {B b : List Int} {S D src dst : Fin 16 → Int} (hs : s = decDM B S D) (h1 : B = b) (h2 : S = src) (h3 : D = dst) : s = decDM b src dst := by rw [hs, h1, h2, h3]
set_option maxHeartbeats 8000000 in
set_option maxRecDepth 20000 in
theorem dknown_ok : PureOk Try.prog 16 [] (cB.enc true) := by
  have hl : (encX kM (sumM kM zA kD)).length = 16 := by rw [encX_len]; rfl
  have hb := encX_BL kM_r (valM_iff.1 kM_v) (sumM kM zA kD)
  have h8 : (encX kM (sumM kM zA kD)).getD 8 default = 1 := rfl
  have hE := kM_e
  have hD := dec_enc kM_r kM_v zA kD
  obtain ⟨B, eB'⟩ : ∃ B, encX kM (sumM kM zA kD) = B := ⟨_, rfl⟩
  rw [eB'] at hl hb h8 hE hD
  clear eB'
  have hl2 : (B.length : Int) = 16 := by omega
  have g1 : True := trivial
  have g2 : True := trivial
  refine pure_intro (wd := 1) (Q := mkQ LK0) (by decide) tysOk (q_of LK0_ok) mixed Try.func16 rfl _ (by show 0 ≤ _; decide) _ ?_
  repeat' (first | (apply And.intro <;> intro hc <;> (first | exact Bool.noConfusion hc | (exfalso; first | exact absurd rfl hc | exact absurd hl2 hc | exact absurd h8 hc) | (simp only [decide_eq_true_eq, decide_eq_false_iff_not, Bool.not_eq_true', Bool.not_eq_false', beq_iff_eq, beq_eq_false_iff_ne, bne_iff_ne, bne_eq_false_iff_eq, Bool.true_eq_false, Bool.false_eq_true, ne_eq, not_true_eq_false] at hc <;> first | exact absurd rfl hc | (exfalso; first | exact absurd rfl hc | exact absurd hl2 hc | exact absurd h8 hc) | skip) | skip)) | (refine And.intro (by first | exact trivial | decide | omega | (dsimp only; omega) | exact fun _ _ => rfl | exact ⟨by assumption, by first | exact trivial | decide | omega | (dsimp only; omega)⟩) ?_) | (apply And.intro) | (intro s hs; (first | (clear g1; have q : s = some B := (enc_at (m := kM) (src := zA) (dst := kD) hs (k_msg rfl rfl rfl (fun i hi => by (iterate 16 (rcases i with _ | i; · exact rfl)); exact absurd hi (by omega)) rfl rfl rfl rfl rfl rfl rfl rfl rfl rfl rfl rfl (fun i hi => by (iterate 16 (rcases i with _ | i; · exact rfl)); exact absurd hi (by omega)) rfl) (ipx_fun fun i hi => by (iterate 16 (rcases i with _ | i; · exact rfl)); exact absurd hi (by omega)) (ipx_fun fun i hi => by (iterate 16 (rcases i with _ | i; · exact rfl)); exact absurd hi (by omega))).trans hE; clear hs; subst q) | (clear g2; have q : s = (kM, 0) := (dec_at hs (toL_b0 _) (ipx_fun fun i hi => by (iterate 16 (rcases i with _ | i; · exact rfl)); exact absurd hi (by omega)) (ipx_fun fun i hi => by (iterate 16 (rcases i with _ | i; · exact rfl)); exact absurd hi (by omega))).trans hD; clear hs; subst q) | skip)) | (refine Exists.intro _ (And.intro ⟨rfl, rfl, rfl⟩ ?_)))
  · exact encP_at (m := kM) (src := zA) (dst := kD) (k_msg rfl rfl rfl (fun i hi => by (iterate 16 (rcases i with _ | i; · exact rfl)); exact absurd hi (by omega)) rfl rfl rfl rfl rfl rfl rfl rfl rfl rfl rfl rfl (fun i hi => by (iterate 16 (rcases i with _ | i; · exact rfl)); exact absurd hi (by omega)) rfl) (ipx_fun fun i hi => by (iterate 16 (rcases i with _ | i; · exact rfl)); exact absurd hi (by omega)) (ipx_fun fun i hi => by (iterate 16 (rcases i with _ | i; · exact rfl)); exact absurd hi (by omega)) ⟨kM_r, zA_r, kD_r, by decide, by decide⟩
  · exact rfl
  · show BL (toL eB B.length fun k j => rowF eB B (0 + k) j); rw [toL_b0]; exact hb
  · exact Eq.mpr (congrArg byteOk (ipx_fun (a := zA) (fun i hi => by (iterate 16 (rcases i with _ | i; · exact rfl)); exact absurd hi (by omega)))) zA_r
  · exact Eq.mpr (congrArg byteOk (ipx_fun (a := kD) (fun i hi => by (iterate 16 (rcases i with _ | i; · exact rfl)); exact absurd hi (by omega)))) kD_r
  · show (toL eB B.length fun k j => rowF eB B (0 + k) j).length ≤ _; rw [toL_len]; omega
  · exact Done.mk (leF_bool rfl)
abbrev dknownE : Entry := pureE AC.nil (fun _ => True) (fun _ => true) cB.enc
theorem dknownE_ok : EntOk Try.prog 16 dknownE := pureE_ok ⟨_, Try.func16, rfl, by kernel_rfl⟩ fun a _ => dknown_ok
end Go.Proofs.Ytmcjchffblfkaaa.AX

/- Layer 20 by AX2: what the laws call; lengths of encodings. -/
namespace Go.Proofs.Ytmcjchffblfkaaa.AX
open Go.RowKit
set_option linter.unusedVariables false
set_option linter.unusedSimpArgs false
theorem flat8 {α : Type} (f : α → List Int) : ∀ (L : List α), (∀ x ∈ L, (f x).length % 8 = 0) → (L.flatMap f).length % 8 = 0 := by
  intro L
  induction L with
  | nil => intro _; rfl
  | cons x L ih =>
    intro h
    rw [List.flatMap_cons, List.length_append]
    have h1 := h x (List.mem_cons_self ..)
    have h2 := ih fun y hy => h y (List.mem_cons_of_mem _ hy)
    omega
theorem optB_8 (m : Msg) : (optB m).length % 8 = 0 := by
  have h1 : (srcB m.a).length % 8 = 0 := by
    unfold srcB
    split
    · simp only [List.length_append, beN_len, zs_len, List.length_cons, List.length_nil]
    · split
      · simp only [List.length_append, beN_len, zs_len, List.length_cons, List.length_nil]
      · rfl
  have h2 : (ownO m.a).length % 8 = 0 := by
    unfold ownO ownB
    split
    · simp only [List.length_append, beN_len, List.length_cons, List.length_nil]
    · rfl
  have h3 := flat8 pfB m.p fun x _ => by unfold pfB; simp only [List.length_append, beN_len, zs_len, ipL_len, List.length_cons, List.length_nil]
  have h4 := flat8 ctB m.c fun x _ => by unfold ctB; simp only [List.length_append, beN_len, ipL_len, List.length_cons, List.length_nil]
  have h5 : (borO m.z).length % 8 = 0 := by
    unfold borO boB
    split
    · simp only [List.length_append, beN_len, ipL_len, List.length_cons, List.length_nil]
    · rfl
  unfold optB
  simp only [List.length_append]
  omega
theorem encX_8 (m : Msg) (s : Int) : (encX m s).length % 8 = 0 := by
  have h1 := optB_8 m
  have h2 : headN m.a.ty % 8 = 0 := by
    unfold headN
    split
    · rfl
    · split
      · rfl
      · split <;> rfl
  rw [encX_len]; omega
def LDk : CsL := (8, some newTapeE) :: (9, some msgE) :: (11, some dencE) :: (21, some ddecE) :: (22, some dsameE) :: (13, some valE2) :: (16, some dknownE) :: LT0
theorem LDk_ok : AllOk Try.prog LDk := ⟨newTapeE_ok, msgE_ok, dencE_ok, ddecE_ok, dsameE_ok, pureE_ok ⟨_, Try.func13, rfl, by kernel_rfl⟩ fun a h => valid_ok2 a.1 h.1 h.2, dknownE_ok, LT0_ok⟩
/-- A made message, and its encoding. -/
structure MB (m : Msg) (src dst : Fin 16 → Int) (B : List Int) : Prop where
  v : MsgV m
  e : encDM m src dst = some B
  d : decDM B src dst = (m, 0)
  b : BL B
  n : B.length ≤ 1056
  l : 8 ≤ B.length
  q : B.length % 8 = 0
theorem mb_of {m : Msg} (h : MsgV m) (src dst : Fin 16 → Int) : ∃ B, MB m src dst B := by
  have hv := valM_iff.2 h.v
  have h8 := headN_le m.a.ty
  exact ⟨encX m (sumM m src dst), h, if_pos hv, dec_enc h.r hv src dst, encX_BL h.r h.v _, encX_le h.v _, by rw [encX_len]; omega, encX_8 _ _⟩
end Go.Proofs.Ytmcjchffblfkaaa.AX

/- Layer 20: a changed bit changes the checksum (plain). -/
namespace Go.Proofs.Ytmcjchffblfkaaa.AX
open Go.RowKit
set_option linter.unusedVariables false
set_option linter.unusedSimpArgs false
theorem isRow_setD {G : Nat → Nat → CV} {L : List Int} {i : Nat} {x : Int} {g : Nat → CV} (h : IsRow G L) (hg : g 0 = .int .u8 x) : IsRow (updE false G i g) (L.set i x) := ⟨fun k hk => by
  rw [List.length_set] at hk
  show selC (Nat.beq k i) (g 0) (G k 0) = _
  rw [selC_eq, hg, h.at_ k hk]
  by_cases e : k = i
  · subst e
    rw [show Nat.beq k k = true by simp, cond_true, List.getD_eq_getElem?_getD, List.getElem?_set_self hk]; rfl
  · rw [show Nat.beq k i = false by
      cases hb : Nat.beq k i with
      | false => rfl
      | true => exact absurd (Nat.eq_of_beq_eq_true hb) e, cond_false, List.getD_eq_getElem?_getD, List.getD_eq_getElem?_getD, List.getElem?_set_ne (by omega)]⟩
theorem bl_setD {L : List Int} {i : Nat} {y : Int} (h : BL L) (hy : 0 ≤ y ∧ y < 256) : BL (L.set i y) := ⟨fun x hx => by
  rcases List.mem_or_eq_of_mem_set hx with h1 | h1
  · exact h.m x h1
  · rw [h1]; exact hy⟩
theorem toL_setD {L : List Int} {i : Nat} {y : Int} {g : Nat → CV} (hg : g 0 = .int .u8 y) : (toL eB L.length fun k j => updE false (rowF eB L) i g (0 + k) j) = L.set i y := by
  refine toL_is (List.length_set ..).symm ⟨fun k hk => ?_⟩
  have h := (isRow_setD (G := rowF eB L) (i := i) (x := y) (g := g) ⟨fun k hk => rfl⟩ hg).at_ k hk
  rw [Nat.zero_add]; exact h
theorem msg_rd0 {m : Msg} {P C : CV} : (⟨eMA.rd (msgC m.a P C m.z), toL ePI m.p.length (rowF ePI m.p), toL eCI m.c.length (rowF eCI m.c), eMZ.rd fun q => msgC m.a P C m.z (29 + q)⟩ : Msg) = m :=
  msg_is (a := m.a) (p := m.p) (c := m.c) (z := m.z) (fun j hj => msgC_a hj) (toL_P m.p) (toL_C m.c) (fun j hj => by rw [msgC_z (by omega), Nat.add_sub_cancel_left])
theorem eB_okU {L : List Int} {i k : Nat} {y : Int} {g : Nat → CV} (hg : g 0 = .int .u8 y) : eB.ok ((fun k j => updE false (rowF eB L) i g (0 + k) j) k) = true := by
  show isK .u8 (selC (Nat.beq (0 + k) i) (g 0) (rowF eB L (0 + k) 0)) = true
  rw [hg]; rfl
end Go.Proofs.Ytmcjchffblfkaaa.AX

/- DiscoveryCanonical, by AX2: the law returns true. -/
namespace Go.Proofs.Ytmcjchffblfkaaa.AX
open Go.RowKit
set_option linter.unusedVariables false
set_option linter.unusedSimpArgs false
def LDc : CsL := (18, some dsumE) :: (15, some sameE) :: LDk
theorem LDc_ok : AllOk Try.prog LDc := ⟨(LDs_ok).2.1, sameE_ok, LDk_ok⟩
theorem dec_facts {x : List Int} (hx : BL x) (src dst : Fin 16 → Int) : MsgR (decDM x src dst).1 ∧ ((decDM x src dst).2 = 0 → encDM (decDM x src dst).1 src dst = some x ∧ (decDM x src dst).1.p.length ≤ 16 ∧ (decDM x src dst).1.c.length ≤ 16) := by
  refine ⟨?_, fun h => ?_⟩
  · unfold decDM
    split
    · exact noM_r
    · split
      · exact noM_r
      · split
        · exact refM_r hx
        · exact noM_r
  · have h1 := dec_some h
    have hv := valM_iff.1 (encDM_some h1).1
    exact ⟨h1, hv.np, hv.nc⟩
theorem dec_t {A B x : List Int} (h1 : A = x) (h2 : B = x) : decide (A = B) = true := by rw [h1, h2]; exact decide_eq_true rfl
theorem xor_r {x y : Int} (hx : 0 ≤ x ∧ x < 256) (hy : 0 ≤ y ∧ y < 256) : 0 ≤ bits .xor .u8 x y ∧ bits .xor .u8 x y < 256 := u8r _
set_option maxHeartbeats 8000000 in
set_option maxRecDepth 20000 in
theorem dcanon_ok (raw : List Int) (hr : BL raw) (hrl : raw.length ≤ 1048576) (n : Nat) (l : List Int) (hl : rngL l) (src dst : Fin 16 → Int) (hs0 : byteOk src) (hd0 : byteOk dst) (at_ by_ : Int) (hby : 0 ≤ by_ ∧ by_ < 256) : PureOk Try.prog 6 [.e (.c (.sl true raw.length 1 (rowF eB raw))), .e (.c (.sl true n 1 (rI l))), (cE (eA .u8 16)).enc src, (cE (eA .u8 16)).enc dst, (cI .i64).enc at_, (cI .u8).enc by_] (cB.enc true) := by
  have g1 : True := trivial
  have g2 : True := trivial
  have g3 : True := trivial
  refine pure_intro (wd := 1) (Q := mkQ LDc) (by decide) tysOk (q_of LDc_ok) mixed Try.func6 rfl _ (by show 6 ≤ _; decide) _ ?_
  repeat' (first | (apply And.intro <;> intro hc <;> (first | exact Bool.noConfusion hc | (simp only [decide_eq_true_eq, decide_eq_false_iff_not, Bool.not_eq_true', Bool.not_eq_false', beq_iff_eq, beq_eq_false_iff_ne, bne_iff_ne, bne_eq_false_iff_eq, Bool.true_eq_false, Bool.false_eq_true] at hc) | skip)) | (refine And.intro (by first | exact trivial | decide | omega | (dsimp only; omega) | exact fun _ _ => rfl | exact ⟨by assumption, by first | exact trivial | decide | omega | (dsimp only; omega)⟩) ?_) | (apply And.intro) | (intro s hs))
  · exact ⟨l, rfl, hl⟩
  intro ht0
  refine And.intro (by exact ⟨by assumption, trivial⟩) ?_
  intro m hm q1 ht1
  obtain ⟨B, hB⟩ := mb_of hm src dst
  have hE := hB.e
  have hb := hB.b
  have hn := hB.n
  have h8 := hB.l
  have hvp := hm.v.np
  have hvc := hm.v.nc
  have hI := modF_lt (v := at_) (n := (B.length : Int)) (by omega)
  obtain ⟨I, eI⟩ : ∃ I, modF at_ (B.length : Int) = I := ⟨_, rfl⟩
  rw [eI] at hI
  have hx1 := xor_r (hb.get (0 + I.toNat)) hby
  have h8' : ¬ (((some B).getD []).length : Int) < 8 := by show ¬ (B.length : Int) < 8; omega
  repeat' (first | (apply And.intro <;> intro hc <;> (first | exact Bool.noConfusion hc | (exfalso; first | exact absurd rfl hc | exact absurd hc h8') | (simp only [decide_eq_true_eq, decide_eq_false_iff_not, Bool.not_eq_true', Bool.not_eq_false', beq_iff_eq, beq_eq_false_iff_ne, bne_iff_ne, bne_eq_false_iff_eq, Bool.true_eq_false, Bool.false_eq_true, ne_eq, not_true_eq_false] at hc <;> first | exact absurd rfl hc | (exfalso; first | exact absurd rfl hc | exact absurd hc h8') | skip) | skip)) | (refine And.intro (by first | exact trivial | decide | omega | (dsimp only; omega) | exact fun _ _ => rfl | exact ⟨by assumption, by first | exact trivial | decide | omega | (dsimp only; omega)⟩) ?_) | (apply And.intro) | (intro s hs; (first | (clear g1; have q : s = some B := (enc_at (m := m) (src := src) (dst := dst) hs msg_rd0 (rd_ip src) (rd_ip dst)).trans hE; clear hs; subst q) | (clear g2; have q : I = s := (hs.trans eI).symm; clear hs; subst q) | skip)) | (refine Exists.intro _ (And.intro ⟨rfl, rfl, rfl⟩ ?_)))
  · exact fun _ => rfl
  · exact fun _ => rfl
  · exact encP_at (m := m) (src := src) (dst := dst) msg_rd0 (rd_ip src) (rd_ip dst) ⟨hm.r, hs0, hd0, by omega, by omega⟩
  · show (B.length : Int) ≤ _; omega
  · exact hI.2
  · show 0 + I.toNat + 1 ≤ B.length; omega
  · exact hI.2
  · show 0 + I.toNat + 1 ≤ B.length; omega
  · exact eB_okU rfl
  · exact Eq.mpr (congrArg BL (toL_setD rfl)) (bl_setD hb hx1)
  · exact Eq.mpr (congrArg byteOk (rd_ip src)) hs0
  · exact Eq.mpr (congrArg byteOk (rd_ip dst)) hd0
  · exact Nat.le_trans (Nat.le_of_eq (toL_len _ _ _)) (by show B.length ≤ _; omega)
  rename_i sm hsm
  have hb3 : BL (((B.set (0 + I.toNat) (bits .xor .u8 (B.getD (0 + I.toNat) default) by_)).set 2 (IntKind.u8.wrap (shrI .u16 s 8))).set 3 (IntKind.u8.wrap s)) := bl_setD (bl_setD (bl_setD hb hx1) (u8r _)) (u8r _)
  have hl3 : (((B.set (0 + I.toNat) (bits .xor .u8 (B.getD (0 + I.toNat) default) by_)).set 2 (IntKind.u8.wrap (shrI .u16 s 8))).set 3 (IntKind.u8.wrap s)).length = B.length := by rw [List.length_set, List.length_set, List.length_set]
  have hr3 : IsRow (updE false (updE false (updE false (rowF eB B) (0 + I.toNat) (fun _ => CV.int .u8 (bits .xor .u8 (B.getD (0 + I.toNat) default) by_))) 2 (fun _ => CV.int .u8 (IntKind.u8.wrap (shrI .u16 s 8)))) 3 (fun _ => CV.int .u8 (IntKind.u8.wrap s))) (((B.set (0 + I.toNat) (bits .xor .u8 (B.getD (0 + I.toNat) default) by_)).set 2 (IntKind.u8.wrap (shrI .u16 s 8))).set 3 (IntKind.u8.wrap s)) := isRow_setD (isRow_setD (isRow_setD ⟨fun k _ => rfl⟩ rfl) rfl) rfl
  obtain ⟨B3, e3⟩ : ∃ B3, ((B.set (0 + I.toNat) (bits .xor .u8 (B.getD (0 + I.toNat) default) by_)).set 2 (IntKind.u8.wrap (shrI .u16 s 8))).set 3 (IntKind.u8.wrap s) = B3 := ⟨_, rfl⟩
  rw [e3] at hb3 hl3 hr3
  have g4 : True := trivial
  have g5 : True := trivial
  refine loop_intro (mono_of LDc_ok) (fun s : {i : Nat // i ≤ 2} => (⟨[(8, one (.ptr 0 0 0 false)), (9, one (.ptr 1 0 0 false)), (16, one (.os 46 0 2)), (17, one (.int .i64 (s.1 : Int)))], [(0, some (ipE src)), (1, some (ipE dst)), (8, some (ents eB 5 B3)), (46, some ⟨40, 2, 1, false, fun i _ => nth [.sl true raw.length eB.sz (rowF eB raw), .os 8 0 B3.length] i⟩)], 49⟩ : Hd)) (fun s => 2 - s.1) (fun _ => rfl) ?_ ⟨0, by omega⟩ [] ⟨rfl, ⟨leF_ptr rfl, leF_ptr rfl, leF_c (leC_os rfl rfl), leF_int rfl, trivial⟩, ⟨rfl, leN_varA fun _ _ => (Elem.flat _ _ _).le⟩, ⟨rfl, leN_varA fun _ _ => (Elem.flat _ _ _).le⟩, ⟨rfl, leN_is hl3.symm hr3⟩, ⟨rfl, leN_row rfl fun i hi j hj => ?_⟩, trivial⟩
  · rintro ⟨i, hi⟩
    dsimp only at hi ⊢
    rcases i with _ | _ | _ | i
    · obtain ⟨hmr, hk⟩ := dec_facts hr src dst
      obtain ⟨D, eD⟩ : ∃ D, decDM raw src dst = D := ⟨_, rfl⟩
      rw [eD] at hmr hk
      repeat' (first | (apply And.intro <;> intro hc <;> (first | exact Bool.noConfusion hc | (exfalso; first | exact absurd rfl hc | exact absurd (by assumption) hc) | (simp only [decide_eq_true_eq, decide_eq_false_iff_not, Bool.not_eq_true', Bool.not_eq_false', beq_iff_eq, beq_eq_false_iff_ne, bne_iff_ne, bne_eq_false_iff_eq, Bool.true_eq_false, Bool.false_eq_true, ne_eq, not_true_eq_false] at hc <;> first | exact absurd rfl hc | (exfalso; first | exact absurd rfl hc | exact absurd (by assumption) hc) | skip) | skip)) | (refine And.intro (by first | exact trivial | decide | omega | (dsimp only; omega) | exact fun _ _ => rfl | exact ⟨by assumption, by first | exact trivial | decide | omega | (dsimp only; omega)⟩) ?_) | (apply And.intro) | (intro s hs; (first | (clear g4; have q : D = s := ((dec_at (b := raw) (src := src) (dst := dst) hs (toL_b _) (rd_ip src) (rd_ip dst)).trans eD).symm; clear hs; subst q) | (clear g5; have q : s = some raw := (enc_at (m := D.1) (src := src) (dst := dst) hs msg_rd (rd_ip src) (rd_ip dst)).trans (hk (by assumption)).1; clear hs; subst q) | (have q : s = true := hs.trans (dec_t (toL_b0 _) (toL_b _)); clear hs; subst q) | skip)) | (refine Exists.intro _ (And.intro ⟨rfl, rfl, rfl⟩ ?_)))
      · exact Eq.mpr (congrArg BL (toL_b _)) hr
      · exact Eq.mpr (congrArg byteOk (rd_ip src)) hs0
      · exact Eq.mpr (congrArg byteOk (rd_ip dst)) hd0
      · exact Nat.le_trans (Nat.le_of_eq (toL_len _ _ _)) (by omega)
      · refine ⟨⟨1, by omega⟩, [], by dsimp only; omega, rfl, ⟨leF_ptr rfl, leF_ptr rfl, leF_c (leC_os rfl rfl), leF_int rfl, trivial⟩, ⟨rfl, leN_varA fun _ _ => (Elem.flat _ _ _).le⟩, ⟨rfl, leN_varA fun _ _ => (Elem.flat _ _ _).le⟩, ⟨rfl, leN_ents⟩, ⟨rfl, (leN_row rfl fun i hi j hj => by
          rcases i with _ | _ | i
          · exact leC_cl (cl_sl fun _ _ _ _ => (Elem.flat _ _ _).cl)
          · exact leC_os rfl rfl
          · exact absurd hi (Nat.not_lt.2 (Nat.le_of_ble_eq_true rfl)))⟩, trivial⟩
      · exact fun _ => rfl
      · exact fun _ => rfl
      · have h3 := (hk (by assumption)).2
        exact encP_at (m := D.1) (src := src) (dst := dst) msg_rd (rd_ip src) (rd_ip dst) ⟨hmr, hs0, hd0, by omega, by omega⟩
      · exact rfl
      · exact rfl
      · exact Nat.le_trans (Nat.le_of_eq (toL_len _ _ _)) (by show raw.length ≤ _; omega)
      · refine ⟨⟨1, by omega⟩, [], by dsimp only; omega, rfl, ⟨leF_ptr rfl, leF_ptr rfl, leF_c (leC_os rfl rfl), leF_int rfl, trivial⟩, ⟨rfl, leN_varA fun _ _ => (Elem.flat _ _ _).le⟩, ⟨rfl, leN_varA fun _ _ => (Elem.flat _ _ _).le⟩, ⟨rfl, leN_ents⟩, ⟨rfl, (leN_row rfl fun i hi j hj => by
          rcases i with _ | _ | i
          · exact leC_cl (cl_sl fun _ _ _ _ => (Elem.flat _ _ _).cl)
          · exact leC_os rfl rfl
          · exact absurd hi (Nat.not_lt.2 (Nat.le_of_ble_eq_true rfl)))⟩, trivial⟩
    · obtain ⟨hmr, hk⟩ := dec_facts hb3 src dst
      obtain ⟨D, eD⟩ : ∃ D, decDM B3 src dst = D := ⟨_, rfl⟩
      rw [eD] at hmr hk
      repeat' (first | (apply And.intro <;> intro hc <;> (first | exact Bool.noConfusion hc | (exfalso; first | exact absurd rfl hc | exact absurd (by assumption) hc) | (simp only [decide_eq_true_eq, decide_eq_false_iff_not, Bool.not_eq_true', Bool.not_eq_false', beq_iff_eq, beq_eq_false_iff_ne, bne_iff_ne, bne_eq_false_iff_eq, Bool.true_eq_false, Bool.false_eq_true, ne_eq, not_true_eq_false] at hc <;> first | exact absurd rfl hc | (exfalso; first | exact absurd rfl hc | exact absurd (by assumption) hc) | skip) | skip)) | (refine And.intro (by first | exact trivial | decide | omega | (dsimp only; omega) | exact fun _ _ => rfl | exact ⟨by assumption, by first | exact trivial | decide | omega | (dsimp only; omega)⟩) ?_) | (apply And.intro) | (intro s hs; (first | (clear g4; have q : D = s := ((dec_at (b := B3) (src := src) (dst := dst) hs (toL_b0 _) (rd_ip src) (rd_ip dst)).trans eD).symm; clear hs; subst q) | (clear g5; have q : s = some B3 := (enc_at (m := D.1) (src := src) (dst := dst) hs msg_rd (rd_ip src) (rd_ip dst)).trans (hk (by assumption)).1; clear hs; subst q) | (have q : s = true := hs.trans (dec_t (toL_b0 _) (toL_b0 _)); clear hs; subst q) | skip)) | (refine Exists.intro _ (And.intro ⟨rfl, rfl, rfl⟩ ?_)))
      · exact rfl
      · exact Eq.mpr (congrArg BL (toL_b0 _)) hb3
      · exact Eq.mpr (congrArg byteOk (rd_ip src)) hs0
      · exact Eq.mpr (congrArg byteOk (rd_ip dst)) hd0
      · exact Nat.le_trans (Nat.le_of_eq (toL_len _ _ _)) (by omega)
      · refine ⟨⟨2, by omega⟩, [], by dsimp only; omega, rfl, ⟨leF_ptr rfl, leF_ptr rfl, leF_c (leC_os rfl rfl), leF_int rfl, trivial⟩, ⟨rfl, leN_varA fun _ _ => (Elem.flat _ _ _).le⟩, ⟨rfl, leN_varA fun _ _ => (Elem.flat _ _ _).le⟩, ⟨rfl, leN_ents⟩, ⟨rfl, (leN_row rfl fun i hi j hj => by
          rcases i with _ | _ | i
          · exact leC_cl (cl_sl fun _ _ _ _ => (Elem.flat _ _ _).cl)
          · exact leC_os rfl rfl
          · exact absurd hi (Nat.not_lt.2 (Nat.le_of_ble_eq_true rfl)))⟩, trivial⟩
      · exact fun _ => rfl
      · exact fun _ => rfl
      · have h3 := (hk (by assumption)).2
        exact encP_at (m := D.1) (src := src) (dst := dst) msg_rd (rd_ip src) (rd_ip dst) ⟨hmr, hs0, hd0, by omega, by omega⟩
      · exact rfl
      · exact rfl
      · exact Nat.le_trans (Nat.le_of_eq (toL_len _ _ _)) (by show B3.length ≤ _; omega)
      · refine ⟨⟨2, by omega⟩, [], by dsimp only; omega, rfl, ⟨leF_ptr rfl, leF_ptr rfl, leF_c (leC_os rfl rfl), leF_int rfl, trivial⟩, ⟨rfl, leN_varA fun _ _ => (Elem.flat _ _ _).le⟩, ⟨rfl, leN_varA fun _ _ => (Elem.flat _ _ _).le⟩, ⟨rfl, leN_ents⟩, ⟨rfl, (leN_row rfl fun i hi j hj => by
          rcases i with _ | _ | i
          · exact leC_cl (cl_sl fun _ _ _ _ => (Elem.flat _ _ _).cl)
          · exact leC_os rfl rfl
          · exact absurd hi (Nat.not_lt.2 (Nat.le_of_ble_eq_true rfl)))⟩, trivial⟩
    · clear g4 g5
      repeat' (first | (apply And.intro <;> intro hc <;> (first | exact Bool.noConfusion hc | (exfalso; first | exact absurd rfl hc | exact absurd hc (by decide)) | (simp only [decide_eq_true_eq, decide_eq_false_iff_not, Bool.not_eq_true', Bool.not_eq_false', beq_iff_eq, beq_eq_false_iff_ne, bne_iff_ne, bne_eq_false_iff_eq, Bool.true_eq_false, Bool.false_eq_true, ne_eq, not_true_eq_false] at hc <;> first | exact absurd rfl hc | (exfalso; first | exact absurd rfl hc | exact absurd hc (by decide)) | skip) | skip)) | (refine And.intro (by first | exact trivial | decide | omega | (dsimp only; omega) | exact fun _ _ => rfl | exact ⟨by assumption, by first | exact trivial | decide | omega | (dsimp only; omega)⟩) ?_) | (apply And.intro) | (intro s hs; (first | (have q : s = true := hs; clear hs; subst q) | skip)) | (refine Exists.intro _ (And.intro ⟨rfl, rfl, rfl⟩ ?_)))
      all_goals exact Done.mk (leF_bool rfl)
    · exact absurd hi (by omega)
  · rcases i with _ | _ | i
    · exact leC_cl (cl_sl fun _ _ _ _ => (Elem.flat _ _ _).cl)
    · exact leC_os rfl hl3.symm
    · exact absurd hi (Nat.not_lt.2 (Nat.le_of_ble_eq_true rfl))
end Go.Proofs.Ytmcjchffblfkaaa.AX

/- Addresses as arguments of laws: kinds of cells. -/
namespace Go.Proofs.Ytmcjchffblfkaaa
open Go.RowKit AX
set_option linter.unusedVariables false
theorem wf_u8d {n : Int} (h : (Lit.int .u8 n).wf = true) : 0 ≤ n ∧ n < 256 := by
  simp [Lit.wf, IntKind.min, IntKind.max, IntKind.bits, IntKind.signed] at h
  omega
abbrev ksIP : List (Option IntKind) := [some .u8, some .u8, some .u8, some .u8, some .u8, some .u8, some .u8, some .u8, some .u8, some .u8, some .u8, some .u8, some .u8, some .u8, some .u8, some .u8]
theorem ksIP_at : ∀ i, i < 16 → ksIP[0 + i]? = some (some .u8) := by decide
theorem ok_ip (g : Nat → CV) (h : MtC ksIP g) : (eA .u8 16).ok g = true := okA_of fun i hi => h.k (ksIP_at i hi)
theorem by_ip {c : Fin 16 → Int} (h : ∃ g, MtC ksIP g ∧ c = (eA .u8 16).rd g) : byteOk c := by
  obtain ⟨g, hg, rfl⟩ := h
  exact ⟨fun q => wf_u8d (by have := hg.wf (ksIP_at q.1 q.2); rw [Nat.zero_add] at this; exact this)⟩
end Go.Proofs.Ytmcjchffblfkaaa

/- DiscoveryCanonical (up to 1048576 values): the walk. -/
namespace Go.Proofs.Ytmcjchffblfkaaa
open Go.RowKit AX
set_option linter.unusedVariables false
theorem walkDiscoveryCanonical (a0 : Option Addr) (len0 cap0 : Nat) (z0 : List Int) (a1 : Option Addr) (len1 cap1 : Nat) (z1 : List Int) (x2 : Array Value) (x3 : Array Value) (a4 : Int) (a5 : Int) (w : World) (w0 : IsRow .u8 w a0 len0 cap0 z0) (rr0 : cap0 ≤ 1048576) (w1 : IsRow .i64 w a1 len1 cap1 z1) (rr1 : cap1 ≤ 1048576) (w2 : Mt ksIP x2.toList) (w3 : Mt ksIP x3.toList) (w4 : (Lit.int .i64 a4).wf = true) (w5 : (Lit.int .u8 a5).wf = true) :
    Calls Try.prog 6 #[.slice a0 len0 cap0, .slice a1 len1 cap1, .agg x2, .agg x3, .int .i64 a4, .int .u8 a5] w fun e w' => e = .returned (.bool true) ∧ Below w.heap.size w w' := by
  obtain ⟨b, hb, hl, hrel⟩ := rowB_cut w0
  have h3 := (rowB_all w0).2.2
  obtain ⟨g, hg, h1⟩ := flat_rel w2 (E := eA .u8 16) (w := w) rfl ok_ip
  obtain ⟨g2, hg2, h2⟩ := flat_rel w3 (E := eA .u8 16) (w := w) rfl ok_ip
  exact walk_of (dcanon_ok b hb (by omega) len1 z1 (rng_of w1) g g2 (by_ip hg) (by_ip hg2) a4 a5 (wf_u8 w5)) (relL_cons hrel (relL_cons (row_rel w1) (relL_cons h1 (relL_cons h2 (relL_cons rfl (relL1 rfl))))))
end Go.Proofs.Ytmcjchffblfkaaa

/- What the bound of an upto statement gives (after the lemmas that lie beside the given rows). -/
namespace Go.Proofs.Ytmcjchffblfkaaa.bulks

theorem one_le {H : Type} (d : DataW H) : 1 ≤ Rows.uptoBulk d := by
  cases d with
  | lit l => cases l <;> simp [Rows.uptoBulk]
  | nil => simp [Rows.uptoBulk]
  | ptr d => simp [Rows.uptoBulk]
  | slice elems spare => simp [Rows.uptoBulk]
  | agg parts => simp [Rows.uptoBulk]
  | iface t d => simp [Rows.uptoBulk]
  | map entries => simp [Rows.uptoBulk]
  | held h => simp [Rows.uptoBulk]

/-- a part's bulk is at most the whole's -/
theorem part_le {H : Type} {d : DataW H} {l : List (DataW H)} (h : d ∈ l) : Rows.uptoBulk d ≤ Rows.uptoBulkAll l := by
  induction l with
  | nil => cases h
  | cons x r ih =>
    simp only [Rows.uptoBulkAll]
    cases List.mem_cons.1 h with
    | inl e => subst e; omega
    | inr e => have := ih e; omega

theorem append {H : Type} (l r : List (DataW H)) : Rows.uptoBulkAll (l ++ r) = Rows.uptoBulkAll l + Rows.uptoBulkAll r := by
  induction l with
  | nil => simp [Rows.uptoBulkAll]
  | cons x l ih => simp only [List.cons_append, Rows.uptoBulkAll, ih]; omega

/-- so many values at the most -/
theorem length_le {H : Type} (l : List (DataW H)) : l.length ≤ Rows.uptoBulkAll l := by
  induction l with
  | nil => simp [Rows.uptoBulkAll]
  | cons x r ih => have := one_le x; simp only [Rows.uptoBulkAll, List.length_cons]; omega

/-- a slice's places, and what they hold -/
theorem slice_le {H : Type} (elems spare : List (DataW H)) : elems.length + spare.length + 1 ≤ Rows.uptoBulk (.slice elems spare) := by
  have h1 := length_le elems
  have h2 := length_le spare
  simp only [Rows.uptoBulk]
  omega
/-- THE BOUND, as the builder hands it over ('hk') -/
theorem bound {H : Type} {l : List (DataW H)} (hk : Rows.uptoSmall H l = true) : Rows.uptoBulkAll l ≤ 1048576 := by
  exact of_decide_eq_true hk

end Go.Proofs.Ytmcjchffblfkaaa.bulks

