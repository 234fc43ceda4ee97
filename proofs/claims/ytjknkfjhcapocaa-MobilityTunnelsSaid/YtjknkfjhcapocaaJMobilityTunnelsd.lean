/- Texts of one's own in one file: Pk5, PkM, PkQ, PkP, PkR, PkT, PkT2, PkT3, PkT4, PkT5, PkN, PkU, Cmp, Be, Tn, Tn2, Tn3, Mb, Mb2, Mb3, MbW, MbK, MobilityTunnelsA, Fp, Pw, MobilityTunnelsW. -/
import Derived.Test.YtjknkfjhcapocaaJMobilityTunnelsc
import Derived.Laws.BitsAllLaws
import Derived.Test.YtjknkfjhcapocaaJMobilityTunnelsb
import Derived.Lib.BytesEntry
import Derived.Laws.Externs
import Derived.WalkKit
import Derived.Laws.BytesArg
import Derived.SizedLaws
import Derived.ChangeSlices
/- Layer 13 by AX2: Forward of the program. -/
namespace Go.Proofs.Ytjknkfjhcapocaa.AX
open Go.RowKit
set_option linter.unusedVariables false
set_option linter.unusedSimpArgs false
theorem dec_len {b : List Int} (h : (decF b).2 = 0) : 40 ≤ b.length ∧ b.length ≤ 1280 ∧ decF b = (pkF b, 0) := by
  unfold decF at h ⊢
  split at h
  · cases h
  · split at h
    · cases h
    · rename_i h1 h2
      rw [if_neg h2]
      split at h
      · cases h
      · split at h
        · cases h
        · split at h
          · cases h
          · split at h
            · cases h
            · rename_i h3 h4 h5 h6
              rw [if_neg h1, if_neg h3, if_neg h4, if_neg h5, if_neg h6]
              refine ⟨by omega, by omega, rfl⟩
theorem pkF_hops (b : List Int) : (pkF b).1.hops = b.getD 7 default := by
  unfold pkF
  split <;> rfl
/-- Forward: the bytes with one hop less, and the answer. -/
def fwdF (b : List Int) : List Int × Int :=
  if (decF b).2 ≠ 0 then ([], (decF b).2)
  else if (decF b).1.1.hops < 2 then ([], 2)
  else (b.set 7 (IntKind.u8.wrap (b.getD 7 default - 1)), 0)
set_option maxHeartbeats 8000000 in
set_option maxRecDepth 20000 in
theorem forward_ok (b : List Int) (hb : BL b) (hl : b.length ≤ 140737488355328) : NewOk Try.prog 32 [(cSl eB eB_sz).enc b] (some (fwdF b).1.length) (some [i64V (fwdF b).2]) (ents eB 5 (fwdF b).1) := by
  obtain ⟨d, eD⟩ : ∃ d, decF b = d := ⟨_, rfl⟩
  obtain ⟨w, eW⟩ : ∃ w, fwdF b = w := ⟨_, rfl⟩
  rw [eW]
  refine new_intro (wd := 1) (Q := mkQ LPh) (by decide) tysOk (q_of LPh_ok) mixed Try.func32 rfl _ (by show 1 ≤ _; decide) (fun i _ j _ => row_nf eB _ i j) ?_
  repeat' (first | (apply And.intro <;> intro hc <;> (first | exact Bool.noConfusion hc | (simp only [decide_eq_true_eq, decide_eq_false_iff_not, Bool.not_eq_true', Bool.not_eq_false', beq_iff_eq, beq_eq_false_iff_ne, bne_iff_ne, bne_eq_false_iff_eq, Bool.true_eq_false, Bool.false_eq_true, ne_eq, not_true_eq_false] at hc <;> first | exact absurd rfl hc | skip) | skip)) | (refine And.intro (by first | exact trivial | decide | omega | (dsimp only; omega) | exact fun _ _ => rfl | exact ⟨by assumption, by first | exact trivial | decide | omega | (dsimp only; omega)⟩) ?_) | (apply And.intro) | (intro s hs; (first | (have q : s = d := by (rw [hs]; dsimp only; rw [toL_b, eD]); clear hs; subst q) | skip)))
  · dsimp only; rw [toL_b]; exact hb
  · dsimp only; rw [toL_b]; exact hl
  · have q : decF b = s := by rw [hs]; dsimp only; rw [toL_b]
    have e : w = ([], s.2) := by rw [← eW]; unfold fwdF; rw [q, if_pos hc]
    rw [e]
    exact ⟨⟨none, leF_tup ⟨leC_nils_os rfl, leC_int rfl, trivial⟩, rfl, rfl, (by show 0 < 1; omega)⟩⟩
  · have q : decF b = s := by rw [hs]; dsimp only; rw [toL_b]
    have e : w = ([], 2) := by rw [← eW]; unfold fwdF; rw [q, if_neg (fun h => h (by assumption)), if_pos hc]
    rw [e]
    exact ⟨⟨none, leF_tup ⟨leC_nils_os rfl, leC_int rfl, trivial⟩, rfl, rfl, (by show 0 < 1; omega)⟩⟩
  · have q : decF b = s := by rw [hs]; dsimp only; rw [toL_b]
    have := dec_len (b := b) (by rw [q]; assumption)
    omega
  · have q : decF b = s := by rw [hs]; dsimp only; rw [toL_b]
    have := dec_len (b := b) (by rw [q]; assumption)
    omega
  · have q : decF b = s := by rw [hs]; dsimp only; rw [toL_b]
    have := dec_len (b := b) (by rw [q]; assumption)
    omega
  · have q : decF b = s := by rw [hs]; dsimp only; rw [toL_b]
    have := dec_len (b := b) (by rw [q]; assumption)
    omega
  · have q : decF b = s := by rw [hs]; dsimp only; rw [toL_b]
    have hl7 := dec_len (b := b) (by rw [q]; assumption)
    have e : w = (b.set 7 (IntKind.u8.wrap (b.getD 7 default - 1)), 0) := by rw [← eW]; unfold fwdF; rw [q, if_neg (fun h => h (by assumption)), if_neg hc]
    rw [e]
    refine ⟨⟨some 17, leF_tup ⟨leC_os rfl ?_, leC_int rfl, trivial⟩, leN_set (E := eB) ?_ ?_ (fun i hi j hj => ?_) fun j hj => ?_⟩⟩
    · show _ = (b.set 7 _).length
      rw [List.length_set]; omega
    · show _ = b.length; omega
    · show 7 < b.length; omega
    · refine leC_is (isRow_un (isRow_ov (l := b) ?_ ?_)) hi hj
      · exact min_ge (by omega) (by omega)
      · exact fun k hk => rfl
    · have hj : j < 1 := hj
      obtain rfl : j = 0 := by omega
      have h7 : Nat.blt (0 + Int.toNat 7) (0 + Nat.min b.length (b.length : Int).toNat) = true := blt_lt (by
        have : b.length ≤ Nat.min b.length (b.length : Int).toNat := min_ge (by omega) (by omega)
        show 0 + 7 < _; omega)
      refine leC_int ?_
      rw [h7]
      rfl
abbrev fwdE : Entry := newE (AC.cons (cSl eB eB_sz) AC.nil) (fun a => BL a.1 ∧ a.1.length ≤ 140737488355328) (fun a => fwdF a.1) (fun s => some s.1.length) (fun s => some [i64V s.2]) (fun s => ents eB 5 s.1)
def LPi : CsL := (32, some fwdE) :: LPh
theorem LPi_ok : AllOk Try.prog LPi := ⟨newE_ok ⟨_, Try.func32, rfl, by kernel_rfl⟩ (fun s l h x hx => by injection h with h; subst h; obtain rfl := List.mem_singleton.1 hx; exact nfE_c nf_int) fun a h => forward_ok a.1 h.1 h.2, LPh_ok⟩
end Go.Proofs.Ytjknkfjhcapocaa.AX
/- What the makers draw from a tape: packets. -/
namespace Go.Proofs.Ytjknkfjhcapocaa.AX
open Go.RowKit
set_option linter.unusedVariables false
set_option linter.unusedSimpArgs false
set_option maxRecDepth 10000 in
theorem ip_ok (n : Nat) (l : List Int) (q : Int) (a : Adr) (ht : TapeOk n (rI l) q) :
    ∃ (r : Fin 16 → Int) (q' : Int), byteOk r ∧ TapeOk n (rI l) q' ∧ MethOk Try.prog 76 [(cE eAdr).enc a] (tapeN n (rI l) q) ((cE (eA .u8 16)).enc r) (tapeN n (rI l) q') := by
  refine tape_intro (wd := 1) (Q := mkQ LT2) (by decide) tysOk (q_of LT2_ok) mixed Try.func76 rfl _ (by show 1 + 1 ≤ _; decide) (nff_elem (eA .u8 16)) ?_
  repeat' (first | (apply And.intro <;> intro hc <;> (first | exact Bool.noConfusion hc | (simp only [decide_eq_true_eq, decide_eq_false_iff_not, Bool.not_eq_true', Bool.not_eq_false', beq_iff_eq, beq_eq_false_iff_ne, bne_iff_ne, bne_eq_false_iff_eq, Bool.true_eq_false, Bool.false_eq_true] at hc) | skip)) | (refine And.intro (by first | exact trivial | decide | omega | (dsimp only; omega) | exact fun _ _ => rfl | exact ⟨by assumption, by first | exact trivial | decide | omega | (dsimp only; omega)⟩) ?_) | (apply And.intro) | (intro s hs))
  all_goals first
    | exact ⟨(s, _), ⟨by rw [hs]; exact of_byteOk _ _, by assumption⟩, ⟨leF_e (leE_all (by repeat' (first | exact trivial | exact rfl | exact leC_int rfl | exact leC_bool rfl | refine leE_all ?_ | exact leC_bool (by assumption) | apply And.intro))), tapeN_le⟩⟩
    | (rename_i r hr; exact ⟨(r, _), ⟨hr, by assumption⟩, ⟨leF_e (leE_all (by repeat' (first | exact trivial | exact rfl | exact leC_int rfl | exact leC_bool rfl | refine leE_all ?_ | exact leC_bool (by assumption) | apply And.intro))), tapeN_le⟩⟩)
    | exact ⟨(fun _ => 0, _), ⟨⟨fun q => show (0 : Int) ≤ 0 ∧ (0 : Int) < 256 from ⟨by decide, by decide⟩⟩, by assumption⟩, ⟨leF_e (leE_all (by repeat' (first | exact trivial | exact rfl | exact leC_int rfl | exact leC_bool rfl | refine leE_all ?_ | exact leC_bool (by assumption) | apply And.intro))), tapeN_le⟩⟩
theorem addr_ok (n : Nat) (l : List Int) (q : Int) (ht : TapeOk n (rI l) q) :
    ∃ (r : Adr) (q' : Int), True ∧ TapeOk n (rI l) q' ∧ MethOk Try.prog 34 [] (tapeN n (rI l) q) ((cE eAdr).enc r) (tapeN n (rI l) q') := by
  refine tape_intro (wd := 1) (Q := mkQ LT2) (by decide) tysOk (q_of LT2_ok) mixed Try.func34 rfl _ (by show 0 + 1 ≤ _; decide) (nff_elem eAdr) ?_
  repeat' (first | (apply And.intro <;> intro hc <;> (first | exact Bool.noConfusion hc | (simp only [decide_eq_true_eq, decide_eq_false_iff_not, Bool.not_eq_true', Bool.not_eq_false', beq_iff_eq, beq_eq_false_iff_ne, bne_iff_ne, bne_eq_false_iff_eq, Bool.true_eq_false, Bool.false_eq_true] at hc) | skip)) | (refine And.intro (by first | exact trivial | decide | omega | (dsimp only; omega) | exact fun _ _ => rfl | exact ⟨by assumption, by first | exact trivial | decide | omega | (dsimp only; omega)⟩) ?_) | (apply And.intro) | (intro s hs))
  · exact ⟨(⟨2, 65535, 0⟩, _), ⟨trivial, by assumption⟩, ⟨leF_e (leE_all ⟨⟨⟨trivial, leC_int rfl⟩, leC_int rfl⟩, leC_int rfl⟩), tapeN_le⟩⟩
  · exact ⟨(⟨0, 0, 0⟩, _), ⟨trivial, by assumption⟩, ⟨leF_e (leE_all ⟨⟨⟨trivial, leC_int rfl⟩, leC_int rfl⟩, leC_int rfl⟩), tapeN_le⟩⟩
  · exact ⟨(⟨_, _, _⟩, _), ⟨trivial, by assumption⟩, ⟨leF_e (leE_all ⟨⟨⟨trivial, leC_int rfl⟩, leC_int rfl⟩, leC_int rfl⟩), tapeN_le⟩⟩
theorem u16r' (z : Int) : 0 ≤ IntKind.u16.wrap z ∧ IntKind.u16.wrap z < 65536 := by
  simp only [IntKind.wrap, IntKind.signed, IntKind.bits]
  constructor
  · exact Int.emod_nonneg _ (by decide)
  · exact Int.emod_lt_of_pos _ (by decide)
theorem port_ok (n : Nat) (l : List Int) (q : Int) (ht : TapeOk n (rI l) q) :
    ∃ (r : Int) (q' : Int), (0 ≤ r ∧ r < 65536) ∧ TapeOk n (rI l) q' ∧ MethOk Try.prog 78 [] (tapeN n (rI l) q) ((cI .u16).enc r) (tapeN n (rI l) q') := by
  refine tape_intro (wd := 1) (Q := mkQ LT2) (by decide) tysOk (q_of LT2_ok) mixed Try.func78 rfl _ (by show 0 + 1 ≤ _; decide) (fun _ => nff_int) ?_
  repeat' (first | (apply And.intro <;> intro hc <;> (first | exact Bool.noConfusion hc | (simp only [decide_eq_true_eq, decide_eq_false_iff_not, Bool.not_eq_true', Bool.not_eq_false', beq_iff_eq, beq_eq_false_iff_ne, bne_iff_ne, bne_eq_false_iff_eq, Bool.true_eq_false, Bool.false_eq_true] at hc) | skip)) | (refine And.intro (by first | exact trivial | decide | omega | (dsimp only; omega) | exact fun _ _ => rfl | exact ⟨by assumption, by first | exact trivial | decide | omega | (dsimp only; omega)⟩) ?_) | (apply And.intro) | (intro s hs))
  all_goals exact ⟨(_, _), ⟨u16r' _, by assumption⟩, ⟨leF_int rfl, tapeN_le⟩⟩
theorem nff_slB {L : List Int} : NFF (.e (.c (slR eB L))) := nff_c (nf_sl fun i _ j _ => (eB.flat _ _).nf)
structure BytS (n : Nat) (l : List Int) (K : Nat) where
  i : Nat
  L : List Int
  q : Int
  hi : i ≤ K
  hL : L.length = K
  hb : BL L
  ht : TapeOk n (rI l) q
theorem bl_set {L : List Int} {i : Nat} {v : Int} (h : BL L) (hv : 0 ≤ v ∧ v < 256) : BL (L.set i v) := ⟨fun x hx => by
  rcases List.mem_or_eq_of_mem_set hx with h1 | h1
  · exact h.m x h1
  · rw [h1]; exact hv⟩
theorem bl_rep (n : Nat) : BL (List.replicate n 0) := ⟨fun x hx => by rw [(List.mem_replicate.1 hx).2]; omega⟩
theorem isRow_rep (n : Nat) : IsRow (fun _ => nth [CV.int .u8 0]) (List.replicate n 0) := ⟨fun k hk => by show CV.int .u8 0 = _; rw [List.getD_eq_getElem?_getD, List.getElem?_eq_getElem hk, List.getElem_replicate]; rfl⟩
theorem leN_setI {c : Wc} {t : TypeId} {L : List Int} {idx i n : Nat} {x : Int} {g : Nat → CV} (e : idx = i) (hn : n = L.length) (hi : i < L.length) (hg : g 0 = .int .u8 x) : LeN c ⟨t, n, eB.sz, false, updE false (rowF eB L) idx g⟩ (ents eB t (L.set i x)) := by
  subst e
  refine leN_set hn hi (fun i _ j _ => (eB.flat _ _).le) fun j hj => ?_
  have hj : j < 1 := hj
  obtain rfl : j = 0 := by omega
  rw [hg]
  exact leC_int rfl
set_option maxHeartbeats 4000000 in
set_option maxRecDepth 10000 in
theorem bytes_ok (n : Nat) (l : List Int) (q m : Int) (ht : TapeOk n (rI l) q) (h1 : 0 ≤ m) (h2 : m ≤ 2000) :
    ∃ (r : List Int) (q' : Int), (BL r ∧ (r.length : Int) ≤ m) ∧ TapeOk n (rI l) q' ∧ MethOk Try.prog 77 [(cI .i64).enc m] (tapeN n (rI l) q) (.e (.c (slR eB r))) (tapeN n (rI l) q') := by
  have w1 : IntKind.i64.wrap (m + 1) = m + 1 := IntWalk.i64_in _ (by omega)
  refine tape_intro (S := fun r => BL r ∧ (r.length : Int) ≤ m) (enc := fun r => .e (.c (slR eB r))) (wd := 1) (Q := mkQ LT2) (by decide) tysOk (q_of LT2_ok) mixed Try.func77 rfl _ (by show 1 + 1 ≤ _; decide) (fun _ => nff_slB) ?_
  repeat' (first | (apply And.intro <;> intro hc <;> (first | exact Bool.noConfusion hc | (simp only [decide_eq_true_eq, decide_eq_false_iff_not, Bool.not_eq_true', Bool.not_eq_false', beq_iff_eq, beq_eq_false_iff_ne, bne_iff_ne, bne_eq_false_iff_eq, Bool.true_eq_false, Bool.false_eq_true] at hc) | skip)) | (refine And.intro (by first | exact trivial | decide | omega | (dsimp only; omega) | exact fun _ _ => rfl | exact ⟨by assumption, by first | exact trivial | decide | omega | (dsimp only; omega)⟩) ?_) | (apply And.intro) | (intro s hs))
  rename_i s1 hs1
  have hs1' : 0 ≤ s1 ∧ s1 < IntKind.i64.wrap (m + 1) := hs1
  rw [w1] at hs1'
  refine loop_intro (mono_of LT2_ok) (fun s : BytS n l s1.toNat => (⟨[(0, one (.ptr 0 0 0 false)), (5, one (.os 6 0 s.L.length)), (6, one (.int .i64 (s.i : Int)))],
    [(0, some (tapeN n (rI l) s.q)), (6, some (ents eB 5 s.L))], 7⟩ : Hd)) (fun s => s1.toNat - s.i) (fun _ => rfl) ?_ ⟨0, List.replicate s1.toNat 0, _, by omega, by simp, bl_rep _, hs⟩ [] ?_
  · rintro ⟨i, L, q2, hi, hL, hb, ht2⟩
    dsimp only at hi hL hb ht2 ⊢
    repeat' (first | (apply And.intro <;> intro hc <;> (first | exact Bool.noConfusion hc | (simp only [decide_eq_true_eq, decide_eq_false_iff_not, Bool.not_eq_true', Bool.not_eq_false', beq_iff_eq, beq_eq_false_iff_ne, bne_iff_ne, bne_eq_false_iff_eq, Bool.true_eq_false, Bool.false_eq_true] at hc) | skip)) | (refine And.intro (by first | exact trivial | decide | omega | (dsimp only; omega) | exact fun _ _ => rfl | exact ⟨by assumption, by first | exact trivial | decide | omega | (dsimp only; omega)⟩) ?_) | (apply And.intro) | (intro s hs))
    · rename_i s2 hs2
      refine ⟨⟨i + 1, L.set i (IntKind.u8.wrap s2), _, by omega, by rw [List.length_set]; exact hL, bl_set hb (u8r _), hs⟩, [], by dsimp only; omega, rfl, ?_, ?_⟩
      · repeat' (first | exact trivial | exact rfl | exact leF_ptr rfl | exact leF_int rfl | exact leF_bool rfl | exact leF_cl (cl_slB _ _) | exact leF_cl (cl_slR _ _) | exact leF_cl (cl_ll _ _) | exact leF_c (leC_os rfl rfl) | refine leF_int ?_ | refine leF_bool ?_ | exact leN_varA (fun _ _ => (Elem.flat _ _ _).le) | exact leN_varA (fun _ _ => leC_top) | apply And.intro)
        · exact leF_c (leC_os rfl (by dsimp only; rw [List.length_set]))
        · refine (IntWalk.i64_in _ ?_).trans ?_
          · constructor <;> omega
          · dsimp only
            omega
      · repeat' (first | exact trivial | exact rfl | exact leF_ptr rfl | exact leF_int rfl | exact leF_bool rfl | exact leF_cl (cl_slB _ _) | exact leF_cl (cl_slR _ _) | exact leF_cl (cl_ll _ _) | exact leF_c (leC_os rfl rfl) | refine leF_int ?_ | refine leF_bool ?_ | exact leN_varA (fun _ _ => (Elem.flat _ _ _).le) | exact leN_varA (fun _ _ => leC_top) | apply And.intro)
        · exact tapeN_le
        · exact leN_setI (by omega) rfl (by omega) rfl
    · exact ⟨(L, q2), ⟨⟨hb, (show (L.length : Int) ≤ m by omega)⟩, ht2⟩, ⟨leF_c (leC_row_fin rfl rfl), tapeN_le⟩⟩
  · refine ⟨rfl, ?_, ?_⟩
    · repeat' (first | exact trivial | exact rfl | exact leF_ptr rfl | exact leF_int rfl | exact leF_bool rfl | exact leF_cl (cl_slB _ _) | exact leF_cl (cl_slR _ _) | exact leF_cl (cl_ll _ _) | exact leF_c (leC_os rfl rfl) | refine leF_int ?_ | refine leF_bool ?_ | exact leN_varA (fun _ _ => (Elem.flat _ _ _).le) | exact leN_varA (fun _ _ => leC_top) | apply And.intro)
      exact leF_c (leC_os rfl (by simp))
    · repeat' (first | exact trivial | exact rfl | exact leF_ptr rfl | exact leF_int rfl | exact leF_bool rfl | exact leF_cl (cl_slB _ _) | exact leF_cl (cl_slR _ _) | exact leF_cl (cl_ll _ _) | exact leF_c (leC_os rfl rfl) | refine leF_int ?_ | refine leF_bool ?_ | exact leN_varA (fun _ _ => (Elem.flat _ _ _).le) | exact leN_varA (fun _ _ => leC_top) | apply And.intro)
      · exact tapeN_le
      · exact leN_is (by simp) (isRow_rep _)
abbrev bytesE : Entry := tapeE (AC.cons (cI .i64) AC.nil) (fun a => 0 ≤ a.1 ∧ a.1 ≤ 2000) (fun a (r : List Int) => BL r ∧ (r.length : Int) ≤ a.1) (fun r => .e (.c (slR eB r)))
structure FilS (K : Nat) where
  i : Nat
  L : List Int
  hi : i ≤ K
  hL : L.length = K
  hb : BL L
def arr5 (a b c d e : Int) : Fin 5 → Int := fun q => if q.1 = 0 then a else if q.1 = 1 then b else if q.1 = 2 then c else if q.1 = 3 then d else e
set_option maxHeartbeats 4000000 in
set_option maxRecDepth 10000 in
theorem pfill_ok (n : Nat) (l : List Int) (q m : Int) (ht : TapeOk n (rI l) q) (h1 : 0 ≤ m) (h2 : m ≤ 2000) :
    ∃ (r : List Int) (q' : Int), (BL r ∧ (r.length : Int) = m) ∧ TapeOk n (rI l) q' ∧ MethOk Try.prog 51 [(cI .i64).enc m] (tapeN n (rI l) q) (.e (.c (slR eB r))) (tapeN n (rI l) q') := by
  refine tape_intro (S := fun r => BL r ∧ (r.length : Int) = m) (enc := fun r => .e (.c (slR eB r))) (wd := 1) (Q := mkQ LT2) (by decide) tysOk (q_of LT2_ok) mixed Try.func51 rfl _ (by show 1 + 1 ≤ _; decide) (fun _ => nff_slB) ?_
  repeat' (first | (apply And.intro <;> intro hc <;> (first | exact Bool.noConfusion hc | (simp only [decide_eq_true_eq, decide_eq_false_iff_not, Bool.not_eq_true', Bool.not_eq_false', beq_iff_eq, beq_eq_false_iff_ne, bne_iff_ne, bne_eq_false_iff_eq, Bool.true_eq_false, Bool.false_eq_true] at hc) | skip)) | (refine And.intro (by first | exact trivial | decide | omega | (dsimp only; omega) | exact fun _ _ => rfl | exact ⟨by assumption, by first | exact trivial | decide | omega | (dsimp only; omega)⟩) ?_) | (apply And.intro) | (intro s hs))
  rename_i s4 hs4 q4 hq4 s2 hs2 q2 hq2 s0 hs0
  refine loop_intro (mono_of LT2_ok) (fun z : FilS m.toNat => (⟨[(0, one (.ptr 0 0 0 false)), (1, one (.int .i64 m)), (5, one (.ptr 12 0 0 false)), (6, one (.os 15 0 z.L.length)), (7, one (.int .i64 (z.i : Int)))],
    [(0, some (tapeN n (rI l) s)), (12, some ⟨130, 1, 5, true, fun _ => (eA .u8 5).cell (arr5 (IntKind.u8.wrap s4) (IntKind.u8.wrap s2) 0 (IntKind.u8.wrap s0) 7)⟩), (15, some (ents eB 5 z.L))], 16⟩ : Hd)) (fun z => m.toNat - z.i) (fun _ => rfl) ?_ ⟨0, List.replicate m.toNat 0, by omega, by simp, bl_rep _⟩ [] ?_
  · rintro ⟨i, L, hi, hL, hb⟩
    dsimp only at hi hL hb ⊢
    have a1 : 0 ≤ (i : Int).tmod 5 := Int.tmod_nonneg 5 (by omega)
    have a2 : (i : Int).tmod 5 < 5 := Int.tmod_lt_of_pos (i : Int) (by decide)
    repeat' (first | (apply And.intro <;> intro hc <;> (first | exact Bool.noConfusion hc | (simp only [decide_eq_true_eq, decide_eq_false_iff_not, Bool.not_eq_true', Bool.not_eq_false', beq_iff_eq, beq_eq_false_iff_ne, bne_iff_ne, bne_eq_false_iff_eq, Bool.true_eq_false, Bool.false_eq_true] at hc) | skip)) | (refine And.intro (by first | exact trivial | decide | omega | (dsimp only; omega) | exact fun _ _ => rfl | exact ⟨by assumption, by first | exact trivial | decide | omega | (dsimp only; omega)⟩) ?_) | (apply And.intro) | (intro s hs))
    · refine ⟨⟨i + 1, L.set i (IntKind.u8.wrap (vget (arr5 (IntKind.u8.wrap s4) (IntKind.u8.wrap s2) 0 (IntKind.u8.wrap s0) 7) (0 + ((i : Int).tmod 5).toNat * 1 + 0) + IntKind.u8.wrap (IntKind.i64.wrap ((i : Int).tdiv 5)))), by omega, by rw [List.length_set]; exact hL, bl_set hb (u8r _)⟩, [], by dsimp only; omega, rfl, ?_, ?_⟩
      · repeat' (first | exact trivial | exact rfl | exact leF_ptr rfl | exact leF_int rfl | exact leF_bool rfl | exact leF_cl (cl_slB _ _) | exact leF_cl (cl_slR _ _) | exact leF_cl (cl_ll _ _) | exact leF_c (leC_os rfl rfl) | refine leF_int ?_ | refine leF_bool ?_ | exact leN_varA (fun _ _ => (Elem.flat _ _ _).le) | exact leN_varA (fun _ _ => leC_top) | apply And.intro)
        · exact leF_c (leC_os rfl (by dsimp only; rw [List.length_set]))
        · refine (IntWalk.i64_in _ ?_).trans ?_
          · constructor <;> omega
          · dsimp only
            omega
      · repeat' (first | exact trivial | exact rfl | exact leF_ptr rfl | exact leF_int rfl | exact leF_bool rfl | exact leF_cl (cl_slB _ _) | exact leF_cl (cl_slR _ _) | exact leF_cl (cl_ll _ _) | exact leF_c (leC_os rfl rfl) | refine leF_int ?_ | refine leF_bool ?_ | exact leN_varA (fun _ _ => (Elem.flat _ _ _).le) | exact leN_varA (fun _ _ => leC_top) | apply And.intro)
        · exact tapeN_le
        · exact leN_setI (by omega) rfl (by omega) rfl
    · exact ⟨(L, s), ⟨⟨hb, (show (L.length : Int) = m by omega)⟩, hs⟩, ⟨leF_c (leC_row_fin rfl rfl), tapeN_le⟩⟩
  · refine ⟨rfl, ?_, ?_⟩
    · repeat' (first | exact trivial | exact rfl | exact leF_ptr rfl | exact leF_int rfl | exact leF_bool rfl | exact leF_cl (cl_slB _ _) | exact leF_cl (cl_slR _ _) | exact leF_cl (cl_ll _ _) | exact leF_c (leC_os rfl rfl) | refine leF_int ?_ | refine leF_bool ?_ | exact leN_varA (fun _ _ => (Elem.flat _ _ _).le) | exact leN_varA (fun _ _ => leC_top) | apply And.intro)
      exact leF_c (leC_os rfl (by simp))
    · repeat' (first | exact trivial | exact rfl | exact leF_ptr rfl | exact leF_int rfl | exact leF_bool rfl | exact leF_cl (cl_slB _ _) | exact leF_cl (cl_slR _ _) | exact leF_cl (cl_ll _ _) | exact leF_c (leC_os rfl rfl) | refine leF_int ?_ | refine leF_bool ?_ | exact leN_varA (fun _ _ => (Elem.flat _ _ _).le) | exact leN_varA (fun _ _ => leC_top) | apply And.intro)
      · exact tapeN_le
      · refine leN_var ?_
        repeat' (first | exact trivial | exact leC_int rfl | apply And.intro)
      · exact leN_is (by simp) (isRow_rep _)
abbrev pfillE : Entry := tapeE (AC.cons (cI .i64) AC.nil) (fun a => 0 ≤ a.1 ∧ a.1 ≤ 2000) (fun a (r : List Int) => BL r ∧ (r.length : Int) = a.1) (fun r => .e (.c (slR eB r)))
abbrev ipE : Entry := tapeE (AC.cons (cE eAdr) AC.nil) (fun _ => True) (fun a r => byteOk r) (cE (eA .u8 16)).enc
abbrev addrE : Entry := tapeE AC.nil (fun _ => True) (fun a (r : Adr) => True) (cE eAdr).enc
abbrev portE : Entry := tapeE AC.nil (fun _ => True) (fun a (r : Int) => 0 ≤ r ∧ r < 65536) (cI .u16).enc
def LM0 : CsL := (77, some bytesE) :: (51, some pfillE) :: (76, some ipE) :: (34, some addrE) :: (78, some portE) :: (33, some newTapeE) :: []
theorem LM0_ok : AllOk Try.prog LM0 := ⟨tapeE_ok ⟨_, Try.func77, rfl, by kernel_rfl⟩ fun n l q a ht hp => bytes_ok n l q a.1 ht hp.1 hp.2, tapeE_ok ⟨_, Try.func51, rfl, by kernel_rfl⟩ fun n l q a ht hp => pfill_ok n l q a.1 ht hp.1 hp.2, tapeE_ok ⟨_, Try.func76, rfl, by kernel_rfl⟩ fun n l q a ht hp => ip_ok n l q a.1 ht, tapeE_ok ⟨_, Try.func34, rfl, by kernel_rfl⟩ fun n l q a ht hp => addr_ok n l q ht, tapeE_ok ⟨_, Try.func78, rfl, by kernel_rfl⟩ fun n l q a ht hp => port_ok n l q ht, newTapeE_ok, trivial⟩
def LM : CsL := LM0 ++ (LT1 ++ LPi)
theorem LM_ok : AllOk Try.prog LM := append_ok LM0_ok (append_ok LT1_ok LPi_ok)
end Go.Proofs.Ytjknkfjhcapocaa.AX
/- When a drawn packet is valid (plain law for the maker Packet). -/
namespace Go.Proofs.Ytjknkfjhcapocaa.AX
open Go.RowKit
set_option linter.unusedVariables false
structure PkM (p : Pkt) : Prop where
  v : validP p = true
  w : PkW p
theorem vget_in {a : Fin 16 → Int} (h : byteOk a) (i : Nat) : 0 ≤ vget a i ∧ vget a i < 256 := by
  unfold vget
  split
  · exact h.q _
  · exact ⟨by decide, by decide⟩
theorem pkM_mk {cls flow nxt hops sp dp : Int} {src dst : Fin 16 → Int} {pay : List Int} (h1 : 0 ≤ cls ∧ cls < 256) (h2 : 0 ≤ flow ∧ flow < 1048576) (h3 : 0 ≤ nxt ∧ nxt < 256) (h4 : 0 ≤ hops ∧ hops < 256)
    (h5 : byteOk src) (h6 : byteOk dst) (h7 : 0 ≤ sp ∧ sp < 65536) (h8 : 0 ≤ dp ∧ dp < 65536) (h9 : BL pay) (h10 : vget src 0 ≠ 255) (h11 : (if nxt = 17 then (48 : Int) else 40) + pay.length ≤ 1280) (h12 : nxt = 17 ∨ sp = 0 ∧ dp = 0) :
    PkM (⟨cls, flow, nxt, hops, src, dst, sp, dp⟩, pay) := by
  refine ⟨?_, ⟨h1, ⟨h2.1, ?_⟩, h3, h4, vget_in h5, vget_in h6, h7, h8, h9⟩⟩
  · unfold validP mcast sizeP
    simp only [Bool.and_eq_true, Bool.or_eq_true, decide_eq_true_eq, Bool.not_eq_true', decide_eq_false_iff_not]
    exact ⟨⟨⟨by omega, h10⟩, h11⟩, h12⟩
  · show flow < 4294967296
    omega
/-- The choices of the next header and of the hops, as the walk leaves them. -/
theorem pick5 (s a b c d e : Int) (h : ∀ x, (x = a ∨ x = b ∨ x = c ∨ x = d ∨ x = e ∨ x = 0) → 0 ≤ x ∧ x < 256) (t : Nat) :
    0 ≤ (bif t.beq 4 then a else bif t.beq 3 then b else bif t.beq 2 then c else bif t.beq 1 then d else bif t.beq 0 then e else 0) ∧ (bif t.beq 4 then a else bif t.beq 3 then b else bif t.beq 2 then c else bif t.beq 1 then d else bif t.beq 0 then e else 0) < 256 := by
  apply h
  cases t.beq 4 <;> cases t.beq 3 <;> cases t.beq 2 <;> cases t.beq 1 <;> cases t.beq 0 <;> simp
end Go.Proofs.Ytjknkfjhcapocaa.AX
/- Plain laws of packets and their encodings: no program in sight. (Printed by gen/pkp.py.) -/
namespace Go.Proofs.Ytjknkfjhcapocaa.AX
open Go.RowKit
set_option linter.unusedVariables false
set_option linter.unusedSimpArgs false
theorem beB4 (v : Int) : beB v 4 = [v / 16777216 % 256, v / 65536 % 256, v / 256 % 256, v % 256] := by
  simp [beB, beN]
theorem beB2 (v : Int) : beB v 2 = [v / 256 % 256, v % 256] := by
  simp [beB, beN]
theorem ipL_list (a : Fin 16 → Int) : ipL a = [vget a 0, vget a 1, vget a 2, vget a 3, vget a 4, vget a 5, vget a 6, vget a 7, vget a 8, vget a 9, vget a 10, vget a 11, vget a 12, vget a 13, vget a 14, vget a 15] := rfl
def hdL (p : Pkt) : List Int := [(1610612736 + p.1.cls * 1048576 + p.1.flow) / 16777216 % 256, (1610612736 + p.1.cls * 1048576 + p.1.flow) / 65536 % 256, (1610612736 + p.1.cls * 1048576 + p.1.flow) / 256 % 256, (1610612736 + p.1.cls * 1048576 + p.1.flow) % 256, (sizeP p - 40) / 256 % 256, (sizeP p - 40) % 256, p.1.nxt, p.1.hops, vget p.1.src 0, vget p.1.src 1, vget p.1.src 2, vget p.1.src 3, vget p.1.src 4, vget p.1.src 5, vget p.1.src 6, vget p.1.src 7, vget p.1.src 8, vget p.1.src 9, vget p.1.src 10, vget p.1.src 11, vget p.1.src 12, vget p.1.src 13, vget p.1.src 14, vget p.1.src 15, vget p.1.dst 0, vget p.1.dst 1, vget p.1.dst 2, vget p.1.dst 3, vget p.1.dst 4, vget p.1.dst 5, vget p.1.dst 6, vget p.1.dst 7, vget p.1.dst 8, vget p.1.dst 9, vget p.1.dst 10, vget p.1.dst 11, vget p.1.dst 12, vget p.1.dst 13, vget p.1.dst 14, vget p.1.dst 15]
def ulL (p : Pkt) (s : Int) : List Int := [p.1.sp / 256 % 256, p.1.sp % 256, p.1.dp / 256 % 256, p.1.dp % 256, (sizeP p - 40) / 256 % 256, (sizeP p - 40) % 256, s / 256 % 256, s % 256]
theorem encB_hd (p : Pkt) (s : Int) : encB p s = hdL p ++ ((if p.1.nxt = 17 then ulL p s else []) ++ p.2) := by
  unfold encB
  rw [beB4, beB2, ipL_list, ipL_list]
  by_cases h : p.1.nxt = 17
  · rw [if_pos h, if_pos h, beB2, beB2, beB2]; rfl
  · rw [if_neg h, if_neg h]; rfl
theorem split40 {b : List Int} (h : 40 ≤ b.length) : b = [b.getD 0 default, b.getD 1 default, b.getD 2 default, b.getD 3 default, b.getD 4 default, b.getD 5 default, b.getD 6 default, b.getD 7 default, b.getD 8 default, b.getD 9 default, b.getD 10 default, b.getD 11 default, b.getD 12 default, b.getD 13 default, b.getD 14 default, b.getD 15 default, b.getD 16 default, b.getD 17 default, b.getD 18 default, b.getD 19 default, b.getD 20 default, b.getD 21 default, b.getD 22 default, b.getD 23 default, b.getD 24 default, b.getD 25 default, b.getD 26 default, b.getD 27 default, b.getD 28 default, b.getD 29 default, b.getD 30 default, b.getD 31 default, b.getD 32 default, b.getD 33 default, b.getD 34 default, b.getD 35 default, b.getD 36 default, b.getD 37 default, b.getD 38 default, b.getD 39 default] ++ b.drop 40 := by
  have e : b.take 40 = (List.range 40).map fun i => b.getD i default := by
    apply List.ext_getElem
    · simp; omega
    · intro i h1 h2
      simp only [List.getElem_take, List.getElem_map, List.getElem_range, List.getD_eq_getElem?_getD]
      rw [List.getElem?_eq_getElem (by simp at h1; omega)]; rfl
  conv => lhs; rw [← List.take_append_drop 40 b, e]
  rfl
theorem split48 {b : List Int} (h : 48 ≤ b.length) : b.drop 40 = [b.getD 40 default, b.getD 41 default, b.getD 42 default, b.getD 43 default, b.getD 44 default, b.getD 45 default, b.getD 46 default, b.getD 47 default] ++ b.drop 48 := by
  have e : (b.drop 40).take 8 = (List.range 8).map fun i => b.getD (40 + i) default := by
    apply List.ext_getElem
    · simp; omega
    · intro i h1 h2
      simp only [List.getElem_take, List.getElem_map, List.getElem_range, List.getD_eq_getElem?_getD, List.getElem_drop]
      rw [List.getElem?_eq_getElem (by simp at h1; omega)]; rfl
  conv => lhs; rw [← List.take_append_drop 8 (b.drop 40), e, List.drop_drop]
  rfl
theorem take4_at {b : List Int} {a : Nat} (h : a + 4 ≤ b.length) : (b.drop a).take 4 = [b.getD a default, b.getD (a + 1) default, b.getD (a + 2) default, b.getD (a + 3) default] := by
  have e : (b.drop a).take 4 = (List.range 4).map fun i => b.getD (a + i) default := by
    apply List.ext_getElem
    · simp; omega
    · intro i h1 h2
      simp only [List.getElem_take, List.getElem_map, List.getElem_range, List.getD_eq_getElem?_getD, List.getElem_drop]
      rw [List.getElem?_eq_getElem (by simp at h1; omega)]; rfl
  exact e
theorem take2_at {b : List Int} {a : Nat} (h : a + 2 ≤ b.length) : (b.drop a).take 2 = [b.getD a default, b.getD (a + 1) default] := by
  have e : (b.drop a).take 2 = (List.range 2).map fun i => b.getD (a + i) default := by
    apply List.ext_getElem
    · simp; omega
    · intro i h1 h2
      simp only [List.getElem_take, List.getElem_map, List.getElem_range, List.getD_eq_getElem?_getD, List.getElem_drop]
      rw [List.getElem?_eq_getElem (by simp at h1; omega)]; rfl
  exact e
theorem uI_4 {b : List Int} (h : 4 ≤ b.length) : uI b 0 4 = b.getD 0 default * 16777216 + b.getD 1 default * 65536 + b.getD 2 default * 256 + b.getD 3 default := by
  unfold uI uintF
  rw [if_pos (by omega)]
  show beVal ((b.drop 0).take 4) = _
  rw [take4_at (by omega)]
  unfold beVal
  simp only [List.foldl_cons, List.foldl_nil, Nat.zero_add]
  omega
theorem uI_2 {b : List Int} {a : Int} {k : Nat} (e : a = k) (h : k + 2 ≤ b.length) : uI b a 2 = b.getD k default * 256 + b.getD (k + 1) default := by
  subst e
  unfold uI uintF
  rw [if_pos (by omega)]
  show beVal ((b.drop k).take 2) = _
  rw [take2_at h]
  unfold beVal
  simp only [List.foldl_cons, List.foldl_nil]
  omega
theorem and20 {x : Int} (h : 0 ≤ x ∧ x < 4294967296) : bits .and .u64 x 1048575 = x % 1048576 := by
  rw [u64_and x 1048575 h.1 (by omega) (by decide) (by decide)]
  rw [show (1048575 : Int).toNat = 2 ^ 20 - 1 from rfl, Nat.and_two_pow_sub_one_eq_mod]
  omega
theorem shr_lit (x : Int) (n : Nat) (h : n ≤ 64) : shrI .u64 x (n : Int) = x / 2 ^ n := by
  unfold shrI
  rw [show min (n : Int).toNat (IntKind.bits .u64) = n from by show min n 64 = n; omega]
  rw [Int.fdiv_eq_ediv_of_nonneg _ (by exact Int.le_of_lt (Int.pow_pos (by decide)))]
theorem shr28 (x : Int) : shrI .u64 x 28 = x / 268435456 := shr_lit x 28 (by decide)
theorem shr20 (x : Int) : shrI .u64 x 20 = x / 1048576 := shr_lit x 20 (by decide)
/-- The first four bytes of a header. -/
theorem first_iff {x0 x1 x2 x3 c f : Int} (h0 : 0 ≤ x0 ∧ x0 < 256) (h1 : 0 ≤ x1 ∧ x1 < 256) (h2 : 0 ≤ x2 ∧ x2 < 256) (h3 : 0 ≤ x3 ∧ x3 < 256)
    (hc : c = IntKind.u8.wrap (shrI .u64 (x0 * 16777216 + x1 * 65536 + x2 * 256 + x3) 20)) (hf : f = IntKind.u32.wrap (bits .and .u64 (x0 * 16777216 + x1 * 65536 + x2 * 256 + x3) 1048575)) :
    (shrI .u64 (x0 * 16777216 + x1 * 65536 + x2 * 256 + x3) 28 = 6 ↔ x0 = (1610612736 + c * 1048576 + f) / 16777216 % 256) ∧ x1 = (1610612736 + c * 1048576 + f) / 65536 % 256 ∧ x2 = (1610612736 + c * 1048576 + f) / 256 % 256 ∧ x3 = (1610612736 + c * 1048576 + f) % 256 ∧ (0 ≤ c ∧ c < 256) ∧ 0 ≤ f ∧ f < 1048576 := by
  rw [shr20] at hc
  rw [and20 (by omega), IntWalk.u32_in _ (by omega)] at hf
  rw [show ∀ z : Int, IntKind.u8.wrap z = z % 256 from fun z => by simp [IntKind.wrap, IntKind.signed, IntKind.bits]] at hc
  rw [shr28]
  omega
theorem pkF_nxt (b : List Int) : (pkF b).1.nxt = b.getD 6 default := by
  unfold pkF; split <;> rfl
theorem pkF_pay (b : List Int) : (pkF b).2 = if b.getD 6 default = 17 then b.drop 48 else b.drop 40 := by
  unfold pkF; split <;> rfl
theorem sizeP_pkF {b : List Int} (h : 40 ≤ b.length) (h2 : b.getD 6 default = 17 → 48 ≤ b.length) : sizeP (pkF b) = b.length := by
  unfold sizeP
  rw [pkF_nxt, pkF_pay]
  split
  · have := h2 (by assumption)
    rw [List.length_drop]; omega
  · rw [List.length_drop]; omega
theorem hd1_F {b : List Int} {sp dp : Int} (hb : BL b) (h : 40 ≤ b.length) :
    (0 ≤ (hd1 b sp dp).cls ∧ (hd1 b sp dp).cls < 256) ∧ (0 ≤ (hd1 b sp dp).flow ∧ (hd1 b sp dp).flow < 1048576) := by
  have := (first_iff (hb.get 0) (hb.get 1) (hb.get 2) (hb.get 3) rfl rfl).2.2.2.2
  rw [← uI_4 (by omega)] at this
  exact this
theorem u16_2 {x y : Int} (hx : 0 ≤ x ∧ x < 256) (hy : 0 ≤ y ∧ y < 256) : IntKind.u16.wrap (x * 256 + y) = x * 256 + y := IntWalk.u16_in _ (by omega)
/-- The numbers of a decoded packet are in their ranges. -/
theorem pkF_w {b : List Int} (hb : BL b) (h : 40 ≤ b.length) : PkW (pkF b) := by
  have hv : ∀ o i, 0 ≤ vget (fun q : Fin 16 => b.getD (o + q.1) default) i ∧ vget (fun q : Fin 16 => b.getD (o + q.1) default) i < 256 := fun o i => by
    unfold vget
    split
    · exact hb.get _
    · omega
  have hw : ∀ z, 0 ≤ IntKind.u16.wrap z ∧ IntKind.u16.wrap z < 65536 := fun z => by
    simp only [IntKind.wrap, IntKind.signed, IntKind.bits]
    exact ⟨Int.emod_nonneg _ (by decide), Int.emod_lt_of_pos _ (by decide)⟩
  unfold pkF
  split
  · obtain ⟨c1, c2⟩ := hd1_F (sp := IntKind.u16.wrap (uI b 40 2)) (dp := IntKind.u16.wrap (uI b 42 2)) hb h
    exact ⟨c1, ⟨c2.1, Int.lt_trans c2.2 (by decide)⟩, hb.get 6, hb.get 7, hv 8, hv 24, hw _, hw _, hb.drop 48⟩
  · obtain ⟨c1, c2⟩ := hd1_F (sp := 0) (dp := 0) hb h
    exact ⟨c1, ⟨c2.1, Int.lt_trans c2.2 (by decide)⟩, hb.get 6, hb.get 7, hv 8, hv 24, ⟨Int.le_refl _, (by show (0 : Int) < 65536; decide)⟩, ⟨Int.le_refl _, (by show (0 : Int) < 65536; decide)⟩, hb.drop 40⟩
theorem len_w {n : Nat} (h : 40 ≤ n ∧ n ≤ 1280) : IntKind.u64.wrap (IntKind.i64.wrap ((n : Int) - 40)) = n - 40 := by
  rw [IntWalk.i64_in _ (by omega)]
  exact IntWalk.u64_in _ (by omega)
/-- Where the header of a decoded packet is the bytes. -/
theorem hdL_pkF {b : List Int} (hb : BL b) (h : 40 ≤ b.length ∧ b.length ≤ 1280) (h2 : b.getD 6 default = 17 → 48 ≤ b.length) :
    hdL (pkF b) = b.take 40 ↔ shrI .u64 (uI b 0 4) 28 = 6 ∧ uI b 4 2 = IntKind.u64.wrap (IntKind.i64.wrap (b.length - 40)) := by
  have e40 : b.take 40 = [b.getD 0 default, b.getD 1 default, b.getD 2 default, b.getD 3 default, b.getD 4 default, b.getD 5 default, b.getD 6 default, b.getD 7 default, b.getD 8 default, b.getD 9 default, b.getD 10 default, b.getD 11 default, b.getD 12 default, b.getD 13 default, b.getD 14 default, b.getD 15 default, b.getD 16 default, b.getD 17 default, b.getD 18 default, b.getD 19 default, b.getD 20 default, b.getD 21 default, b.getD 22 default, b.getD 23 default, b.getD 24 default, b.getD 25 default, b.getD 26 default, b.getD 27 default, b.getD 28 default, b.getD 29 default, b.getD 30 default, b.getD 31 default, b.getD 32 default, b.getD 33 default, b.getD 34 default, b.getD 35 default, b.getD 36 default, b.getD 37 default, b.getD 38 default, b.getD 39 default] := by
    conv => lhs; rw [split40 h.1]
    rfl
  rw [len_w h, uI_4 (by omega), uI_2 (a := 4) (k := 4) rfl (by omega), e40]
  have hs := sizeP_pkF h.1 h2
  have g0 := hb.get 0; have g1 := hb.get 1; have g2 := hb.get 2; have g3 := hb.get 3; have g4 := hb.get 4; have g5 := hb.get 5
  have hc : (pkF b).1.cls = IntKind.u8.wrap (shrI .u64 (uI b 0 4) 20) := by unfold pkF; split <;> rfl
  have hf : (pkF b).1.flow = IntKind.u32.wrap (bits .and .u64 (uI b 0 4) 1048575) := by unfold pkF; split <;> rfl
  rw [uI_4 (by omega)] at hc hf
  obtain ⟨f0, f1, f2, f3, fc, ff⟩ := first_iff g0 g1 g2 g3 hc hf
  have hsrc : (pkF b).1.src = fun q => b.getD (8 + q.1) default := by unfold pkF; split <;> rfl
  have hdst : (pkF b).1.dst = fun q => b.getD (24 + q.1) default := by unfold pkF; split <;> rfl
  have hhop := pkF_hops b
  have hnx := pkF_nxt b
  constructor
  · intro e
    unfold hdL at e
    rw [hs] at e
    simp only [List.cons.injEq] at e
    obtain ⟨k0, _, _, _, k4, k5, _⟩ := e
    refine ⟨f0.2 k0.symm, ?_⟩
    show b.getD 4 default * 256 + b.getD 5 default = _
    omega
  · rintro ⟨k0, k1⟩
    have k1' : b.getD 4 default * 256 + b.getD 5 default = (b.length : Int) - 40 := k1
    unfold hdL
    rw [hsrc, hdst, hhop, hnx, hs, ← f0.1 k0, ← f1, ← f2, ← f3]
    rw [show ((b.length : Int) - 40) / 256 % 256 = b.getD 4 default by omega, show ((b.length : Int) - 40) % 256 = b.getD 5 default by omega]
    rfl
theorem app_iff {a b c d : List Int} (h : a.length = b.length) : a ++ c = b ++ d ↔ a = b ∧ c = d :=
  ⟨fun e => List.append_inj e h, fun ⟨e1, e2⟩ => by rw [e1, e2]⟩
/-- A decoded packet is encoded to the same bytes where the version and the lengths are right. -/
theorem encB_pkF {b : List Int} (hb : BL b) (h : 40 ≤ b.length ∧ b.length ≤ 1280) (h2 : b.getD 6 default = 17 → 48 ≤ b.length) {s : Int} (hs : 0 ≤ s ∧ s < 65536) :
    encB (pkF b) s = b ↔ (shrI .u64 (uI b 0 4) 28 = 6 ∧ uI b 4 2 = IntKind.u64.wrap (IntKind.i64.wrap (b.length - 40))) ∧ (b.getD 6 default = 17 → uI b 44 2 = IntKind.u64.wrap (IntKind.i64.wrap (b.length - 40)) ∧ s = uI b 46 2) := by
  have hz := sizeP_pkF h.1 h2
  rw [← hdL_pkF hb h h2, encB_hd, pkF_nxt, pkF_pay]
  have hl : (hdL (pkF b)).length = (b.take 40).length := by rw [List.length_take]; show 40 = _; omega
  conv => lhs; rhs; rw [← List.take_append_drop 40 b]
  rw [app_iff hl]
  by_cases hu : b.getD 6 default = 17
  · rw [if_pos hu, if_pos hu]
    refine and_congr_right fun _ => ?_
    have h48 := h2 hu
    have g := fun i => hb.get i
    have a0 := hb.get 40; have a1 := hb.get 41; have a2 := hb.get 42; have a3 := hb.get 43; have a4 := hb.get 44; have a5 := hb.get 45; have a6 := hb.get 46; have a7 := hb.get 47
    have hsp : (pkF b).1.sp = b.getD 40 default * 256 + b.getD 41 default := by
      unfold pkF; rw [if_pos hu]
      show IntKind.u16.wrap (uI b 40 2) = _
      rw [uI_2 (a := 40) (k := 40) rfl (by omega)]; exact u16_2 a0 a1
    have hdp : (pkF b).1.dp = b.getD 42 default * 256 + b.getD 43 default := by
      unfold pkF; rw [if_pos hu]
      show IntKind.u16.wrap (uI b 42 2) = _
      rw [uI_2 (a := 42) (k := 42) rfl (by omega)]; exact u16_2 a2 a3
    rw [len_w h, uI_2 (a := 44) (k := 44) rfl (by omega), uI_2 (a := 46) (k := 46) rfl (by omega), split48 h48]
    unfold ulL
    rw [hsp, hdp, hz, List.append_cancel_right_eq]
    simp only [List.cons.injEq, and_true]
    constructor
    · rintro ⟨_, _, _, _, k4, k5, k6, k7⟩ _
      show b.getD 44 default * 256 + b.getD 45 default = _ ∧ _ = b.getD 46 default * 256 + b.getD 47 default
      omega
    · intro k
      obtain ⟨k1, k2⟩ := k hu
      have k1' : b.getD 44 default * 256 + b.getD 45 default = (b.length : Int) - 40 := k1
      have k2' : s = b.getD 46 default * 256 + b.getD 47 default := k2
      omega
  · rw [if_neg hu, if_neg hu, List.nil_append]
    exact ⟨fun h => ⟨h.1, fun k => absurd k hu⟩, fun h => ⟨h.1, rfl⟩⟩
/-- What a checksum covers: no checksum, and nothing of the first eight bytes. -/
def covL (p : Pkt) : List Int := [vget p.1.src 0, vget p.1.src 1, vget p.1.src 2, vget p.1.src 3, vget p.1.src 4, vget p.1.src 5, vget p.1.src 6, vget p.1.src 7, vget p.1.src 8, vget p.1.src 9, vget p.1.src 10, vget p.1.src 11, vget p.1.src 12, vget p.1.src 13, vget p.1.src 14, vget p.1.src 15, vget p.1.dst 0, vget p.1.dst 1, vget p.1.dst 2, vget p.1.dst 3, vget p.1.dst 4, vget p.1.dst 5, vget p.1.dst 6, vget p.1.dst 7, vget p.1.dst 8, vget p.1.dst 9, vget p.1.dst 10, vget p.1.dst 11, vget p.1.dst 12, vget p.1.dst 13, vget p.1.dst 14, vget p.1.dst 15] ++ (beB (sizeP p - 40) 4 ++ ([0, 0, 0, 17] ++ ([p.1.sp / 256 % 256, p.1.sp % 256, p.1.dp / 256 % 256, p.1.dp % 256, (sizeP p - 40) / 256 % 256, (sizeP p - 40) % 256] ++ ([0, 0] ++ p.2))))
theorem cover_enc {p : Pkt} (h : p.1.nxt = 17) (s : Int) : coverB (encB p s) = covL p := by
  unfold coverB
  rw [encB_len, encB_hd, if_pos h]
  rfl
theorem cover_b {b : List Int} (h : 48 ≤ b.length) {c : List Int} (hc : b.drop 8 = c.drop 8) (hl : b.length = c.length) : coverB b = coverB c := by
  unfold coverB
  rw [show b.drop 40 = (b.drop 8).drop 32 by rw [List.drop_drop], show b.drop 48 = (b.drop 8).drop 40 by rw [List.drop_drop], hc, hl, List.drop_drop, List.drop_drop]
theorem sumP_covL {p : Pkt} (hv : validP p = true) (h : p.1.nxt = 17) : sumP p = sum0 (covL p) := by
  unfold sumP
  rw [if_pos ⟨hv, h⟩, cover_enc h]
theorem sum0_pos (l : List Int) : sum0 l ≠ 0 := by
  unfold sum0
  split
  · decide
  · assumption
/-- The fields of an encoding. -/
theorem pkF_enc {p : Pkt} (hw : PkW p) (hv : validP p = true) {s : Int} (hs : 0 ≤ s ∧ s < 65536) : pkF (encB p s) = p := by
  have h1 := hw.cls; have h2 := hw.flow
  have hfl : p.1.flow < 1048576 := by
    unfold validP at hv
    simp only [Bool.and_eq_true, decide_eq_true_eq] at hv
    have := hv.1.1.1
    omega
  have hz := valid_size hv
  have hl := encB_len p s
  have hz0 : 40 ≤ sizeP p := by unfold sizeP; split <;> omega
  have hF : uI (encB p s) 0 4 = 1610612736 + p.1.cls * 1048576 + p.1.flow := by
    rw [uI_4 (by omega), encB_hd]
    show (1610612736 + p.1.cls * 1048576 + p.1.flow) / 16777216 % 256 * 16777216 + (1610612736 + p.1.cls * 1048576 + p.1.flow) / 65536 % 256 * 65536 + (1610612736 + p.1.cls * 1048576 + p.1.flow) / 256 % 256 * 256 + (1610612736 + p.1.cls * 1048576 + p.1.flow) % 256 = _
    omega
  have hcls : IntKind.u8.wrap (shrI .u64 (uI (encB p s) 0 4) 20) = p.1.cls := by
    rw [hF, shr20, show ∀ z : Int, IntKind.u8.wrap z = z % 256 from fun z => by simp [IntKind.wrap, IntKind.signed, IntKind.bits]]
    omega
  have hflow : IntKind.u32.wrap (bits .and .u64 (uI (encB p s) 0 4) 1048575) = p.1.flow := by
    rw [hF, and20 (by omega), IntWalk.u32_in _ (by omega)]
    omega
  have hn : (encB p s).getD 6 default = p.1.nxt := by rw [encB_hd]; rfl
  have hh : (encB p s).getD 7 default = p.1.hops := by rw [encB_hd]; rfl
  have hsrc : (fun q : Fin 16 => (encB p s).getD (8 + q.1) default) = p.1.src := by
    rw [encB_hd]
    funext q
    have hq := q.2
    obtain ⟨q, _⟩ := q
    iterate 16 (rcases q with _ | q; rfl)
    exact absurd hq (by omega)
  have hdst : (fun q : Fin 16 => (encB p s).getD (24 + q.1) default) = p.1.dst := by
    rw [encB_hd]
    funext q
    have hq := q.2
    obtain ⟨q, _⟩ := q
    iterate 16 (rcases q with _ | q; rfl)
    exact absurd hq (by omega)
  unfold pkF
  rw [hn]
  split
  · rename_i hu
    have h48 : sizeP p = 48 + p.2.length := by unfold sizeP; rw [if_pos hu]
    have hsp := hw.sp; have hdp := hw.dp
    have e1 : IntKind.u16.wrap (uI (encB p s) 40 2) = p.1.sp := by
      rw [uI_2 (a := 40) (k := 40) rfl (by omega), encB_hd, if_pos hu]
      show IntKind.u16.wrap (p.1.sp / 256 % 256 * 256 + p.1.sp % 256) = _
      rw [IntWalk.u16_in _ (by omega)]
      omega
    have e2 : IntKind.u16.wrap (uI (encB p s) 42 2) = p.1.dp := by
      rw [uI_2 (a := 42) (k := 42) rfl (by omega), encB_hd, if_pos hu]
      show IntKind.u16.wrap (p.1.dp / 256 % 256 * 256 + p.1.dp % 256) = _
      rw [IntWalk.u16_in _ (by omega)]
      omega
    have e3 : (encB p s).drop 48 = p.2 := by rw [encB_hd, if_pos hu]; rfl
    unfold pkU hd1
    rw [hcls, hflow, hn, hh, hsrc, hdst, e1, e2, e3]
  · rename_i hu
    have e3 : (encB p s).drop 40 = p.2 := by rw [encB_hd, if_neg hu]; rfl
    have hp : p.1.sp = 0 ∧ p.1.dp = 0 := by
      unfold validP at hv
      simp only [Bool.and_eq_true, Bool.or_eq_true, decide_eq_true_eq] at hv
      rcases hv.2 with h | h
      · exact absurd h hu
      · exact h
    unfold pkN hd1
    rw [hcls, hflow, hn, hh, hsrc, hdst, e3]
    calc _ = ((⟨p.1.cls, p.1.flow, p.1.nxt, p.1.hops, p.1.src, p.1.dst, p.1.sp, p.1.dp⟩, p.2) : Pkt) := by rw [hp.1, hp.2]
      _ = p := rfl
end Go.Proofs.Ytjknkfjhcapocaa.AX
/- Plain laws: decoding undoes encoding, and the other way; the reference's decoder and forwarder are those of the program. -/
namespace Go.Proofs.Ytjknkfjhcapocaa.AX
open Go.RowKit
set_option linter.unusedVariables false
set_option linter.unusedSimpArgs false
theorem u16_id {x : Int} (h : 0 ≤ x ∧ x < 65536) : IntKind.u16.wrap x = x := IntWalk.u16_in _ (by omega)
theorem uI2_r {b : List Int} (hb : BL b) {a : Int} {k : Nat} (e : a = k) (h : k + 2 ≤ b.length) : 0 ≤ uI b a 2 ∧ uI b a 2 < 65536 := by
  rw [uI_2 e h]
  have h1 := hb.get k; have h2 := hb.get (k + 1)
  omega
theorem sizeP_ge (p : Pkt) : 40 ≤ sizeP p ∧ (p.1.nxt = 17 → 48 ≤ sizeP p) := by unfold sizeP; split <;> omega
theorem enc_nxt (p : Pkt) (s : Int) : (encB p s).getD 6 default = p.1.nxt := by rw [encB_hd]; rfl
theorem enc_hops (p : Pkt) (s : Int) : (encB p s).getD 7 default = p.1.hops := by rw [encB_hd]; rfl
theorem sumP_other {p : Pkt} (h : p.1.nxt ≠ 17) : sumP p = 0 := by
  unfold sumP; rw [if_neg (fun k => h k.2)]
/-- What is needed of the length of an encoding. -/
theorem enc_lens {p : Pkt} (hp : PkM p) (s : Int) : (40 ≤ (encB p s).length ∧ (encB p s).length ≤ 1280) ∧ ((encB p s).getD 6 default = 17 → 48 ≤ (encB p s).length) := by
  have h1 := encB_len p s
  have h2 := valid_size hp.v
  have h3 := sizeP_ge p
  rw [enc_nxt]
  refine ⟨by omega, fun h => ?_⟩
  have := h3.2 h
  omega
/-- What the decoder says of bytes with a right header. -/
theorem dec_hdr {p : Pkt} (hp : PkM p) {s : Int} (hs : 0 ≤ s ∧ s < 65536) : decF (encB p s) = if p.1.nxt = 17 ∧ s ≠ sumP p then (pk0, 6) else (p, 0) := by
  have hl := enc_lens hp s
  have hb := encB_BL hp.w s
  have hk := pkF_enc hp.w hp.v hs
  have hc := (encB_pkF hb hl.1 hl.2 hs).1 (by rw [hk])
  have hl2 := hl.2
  have hcv : p.1.nxt = 17 → IntKind.u16.wrap (uI (encB p s) 46 2) = s ∧ sum0 (coverB (encB p s)) = sumP p := fun h => by
    rw [← (hc.2 ((enc_nxt p s).trans h)).2, u16_id hs, cover_enc h, sumP_covL hp.v h]
    exact ⟨rfl, rfl⟩
  rw [enc_nxt] at hc hl2
  unfold decF
  rw [hk, hp.v, enc_nxt, if_neg (by omega), if_neg (by omega), if_neg (fun h => h.elim (fun h => h hc.1.1) (fun h => h hc.1.2)), if_neg (fun h => h.2 (hc.2 h.1).1), if_neg (by decide)]
  by_cases hu : p.1.nxt = 17
  · obtain ⟨e1, e2⟩ := hcv hu
    rw [e1, e2]
  · rw [if_neg (fun h => hu h.1), if_neg (fun h => hu h.1)]
theorem enc_dec {p : Pkt} (hp : PkM p) : decF (encB p (sumP p)) = (p, 0) := by
  rw [dec_hdr hp (sumP_r p), if_neg (fun h => h.2 rfl)]
/-- What is decoded is the encoding of a valid packet. -/
theorem dec_enc {b : List Int} (hb : BL b) (h : (decF b).2 = 0) : decF b = (pkF b, 0) ∧ PkM (pkF b) ∧ b = encB (pkF b) (sumP (pkF b)) := by
  obtain ⟨l1, l2, e⟩ := dec_len h
  rw [e] at h
  refine ⟨e, ?_⟩
  unfold decF at e
  split at e
  · cases congrArg Prod.snd e
  · split at e
    · cases congrArg Prod.snd e
    · rename_i c1 c2
      split at e
      · cases congrArg Prod.snd e
      · rename_i c3
        split at e
        · cases congrArg Prod.snd e
        · rename_i c4
          split at e
          · cases congrArg Prod.snd e
          · rename_i c5
            split at e
            · cases congrArg Prod.snd e
            · rename_i c6
              have hlen : b.getD 6 default = 17 → 48 ≤ b.length := fun k => by
                rcases Nat.lt_or_ge b.length 48 with h' | h'
                · exact absurd (.inr ⟨h', k⟩) c2
                · exact h'
              have hv : validP (pkF b) = true := by cases hv : validP (pkF b) with | true => rfl | false => exact absurd hv c5
              have hw := pkF_w hb l1
              have d3 : shrI .u64 (uI b 0 4) 28 = 6 ∧ uI b 4 2 = IntKind.u64.wrap (IntKind.i64.wrap (b.length - 40)) := by
                refine ⟨Classical.byContradiction fun k => c3 (.inl k), Classical.byContradiction fun k => c3 (.inr k)⟩
              refine ⟨⟨hv, hw⟩, ?_⟩
              by_cases hu : b.getD 6 default = 17
              · have h48 := hlen hu
                have d4 : uI b 44 2 = IntKind.u64.wrap (IntKind.i64.wrap (b.length - 40)) := Classical.byContradiction fun k => c4 ⟨hu, k⟩
                have d6 : IntKind.u16.wrap (uI b 46 2) = sum0 (coverB b) := Classical.byContradiction fun k => c6 ⟨hu, k⟩
                have hr := uI2_r hb (a := 46) (k := 46) rfl (by omega)
                rw [u16_id hr] at d6
                have e1 := (encB_pkF hb ⟨l1, l2⟩ hlen hr).2 ⟨d3, fun _ => ⟨d4, rfl⟩⟩
                have e2 : sumP (pkF b) = uI b 46 2 := by
                  rw [sumP_covL hv ((pkF_nxt b).trans hu), ← cover_enc ((pkF_nxt b).trans hu) (uI b 46 2), e1, d6]
                rw [e2]; exact e1.symm
              · rw [sumP_other (by rw [pkF_nxt]; exact hu)]
                exact ((encB_pkF hb ⟨l1, l2⟩ hlen ⟨Int.le_refl _, by decide⟩).2 ⟨d3, fun k => absurd k hu⟩).symm
/-- The checksum that the reference reads. -/
def rsumB (b : List Int) : Int := if b.getD 6 default = 17 then IntKind.u16.wrap (uI b 46 2) else 0
def rdecF (b : List Int) : Pkt × Int :=
  if 1280 < b.length then (pk0, 3)
  else if b.length < 40 ∨ b.length < 48 ∧ b.getD 6 default = 17 then (pk0, 4)
  else if validP (pkF b) = false ∨ encB (pkF b) (rsumB b) ≠ b then (pk0, 5)
  else if b.getD 6 default = 17 ∧ rsumB b ≠ sumP (pkF b) then (pk0, 6)
  else (pkF b, 0)
theorem rdec_eq {b : List Int} (hb : BL b) : rdecF b = decF b := by
  unfold rdecF decF
  split
  · rfl
  · rename_i c1
    split
    · rfl
    · rename_i c2
      have l1 : 40 ≤ b.length := by omega
      have l2 : b.length ≤ 1280 := by omega
      have hlen : b.getD 6 default = 17 → 48 ≤ b.length := fun k => by
        rcases Nat.lt_or_ge b.length 48 with h' | h'
        · exact absurd (.inr ⟨h', k⟩) c2
        · exact h'
      have hr : 0 ≤ rsumB b ∧ rsumB b < 65536 := by
        unfold rsumB
        split
        · exact u16r' _
        · omega
      have hk := encB_pkF hb ⟨l1, l2⟩ hlen hr
      have hs46 : b.getD 6 default = 17 → rsumB b = uI b 46 2 := fun hu => by
        have h48 := hlen hu
        unfold rsumB
        rw [if_pos hu, u16_id (uI2_r hb (a := 46) (k := 46) rfl (by omega))]
      cases hv : validP (pkF b) with
      | false =>
        rw [if_pos (.inl rfl)]
        split
        · rfl
        · split
          · rfl
          · rw [if_pos rfl]
      | true =>
        by_cases he : encB (pkF b) (rsumB b) = b
        · obtain ⟨d3, d4⟩ := hk.1 he
          rw [if_neg (fun h => h.elim (by decide) (fun h => h he)), if_neg (c := shrI .u64 (uI b 0 4) 28 ≠ 6 ∨ _) (fun h => h.elim (fun h => h d3.1) (fun h => h d3.2)), if_neg (c := b.getD 6 default = 17 ∧ uI b 44 2 ≠ _) (fun h => h.2 (d4 h.1).1), if_neg (c := true = false) (by decide)]
          by_cases hu : b.getD 6 default = 17
          · have e2 : sumP (pkF b) = sum0 (coverB b) := by
              rw [sumP_covL hv ((pkF_nxt b).trans hu), ← cover_enc ((pkF_nxt b).trans hu) (rsumB b), he]
            have e3 : rsumB b = IntKind.u16.wrap (uI b 46 2) := by unfold rsumB; rw [if_pos hu]
            rw [e2, e3]
          · rw [if_neg (fun h => hu h.1), if_neg (fun h => hu h.1)]
        · rw [if_pos (.inr he)]
          by_cases d3 : shrI .u64 (uI b 0 4) 28 ≠ 6 ∨ uI b 4 2 ≠ IntKind.u64.wrap (IntKind.i64.wrap (b.length - 40))
          · rw [if_pos d3]
          · rw [if_neg d3]
            by_cases d4 : b.getD 6 default = 17 ∧ uI b 44 2 ≠ IntKind.u64.wrap (IntKind.i64.wrap (b.length - 40))
            · rw [if_pos d4]
            · exact absurd (hk.2 ⟨⟨Classical.byContradiction fun k => d3 (.inl k), Classical.byContradiction fun k => d3 (.inr k)⟩, fun hu => ⟨Classical.byContradiction fun k => d4 ⟨hu, k⟩, hs46 hu⟩⟩) he
/-- Other hops. -/
def withHops (p : Pkt) (h : Int) : Pkt := ({ p.1 with hops := h }, p.2)
theorem sumP_hops (p : Pkt) (h : Int) : sumP (withHops p h) = sumP p := by
  by_cases hv : validP p = true ∧ p.1.nxt = 17
  · rw [sumP_covL (p := withHops p h) hv.1 hv.2, sumP_covL hv.1 hv.2]; rfl
  · unfold sumP
    rw [if_neg hv, if_neg (show ¬ (validP (withHops p h) = true ∧ (withHops p h).1.nxt = 17) from hv)]
theorem encB_hops (p : Pkt) (h s : Int) : encB (withHops p h) s = (encB p s).set 7 h := by
  rw [encB_hd, encB_hd]; rfl
theorem withHops_m {p : Pkt} (hp : PkM p) {h : Int} (hh : 0 ≤ h ∧ h < 256) : PkM (withHops p h) := ⟨hp.v, ⟨hp.w.cls, hp.w.flow, hp.w.nxt, hh, hp.w.src, hp.w.dst, hp.w.sp, hp.w.dp, hp.w.pay⟩⟩
/-- Forwarding an encoding. -/
theorem fwd_enc {p : Pkt} (hp : PkM p) : fwdF (encB p (sumP p)) = if p.1.hops < 2 then ([], 2) else (encB (withHops p (p.1.hops - 1)) (sumP p), 0) := by
  unfold fwdF
  rw [enc_dec hp, if_neg (fun h => h rfl)]
  dsimp only
  split
  · rfl
  · have h := hp.w.hops
    rw [enc_hops, encB_hops, IntWalk.u8_in _ (by omega)]
def rfwdF (b : List Int) : List Int × Int :=
  if (decF b).2 ≠ 0 then ([], (decF b).2)
  else if (decF b).1.1.hops < 2 then ([], 2)
  else ((encR (withHops (decF b).1 (IntKind.u8.wrap ((decF b).1.1.hops - 1)))).getD [], ecR (encR (withHops (decF b).1 (IntKind.u8.wrap ((decF b).1.1.hops - 1)))))
theorem rfwd_eq {b : List Int} (hb : BL b) : rfwdF b = fwdF b := by
  by_cases h : (decF b).2 = 0
  · obtain ⟨e1, hp, e2⟩ := dec_enc hb h
    generalize hpp : pkF b = p at e1 hp e2
    subst e2
    rw [fwd_enc hp]
    unfold rfwdF
    rw [enc_dec hp, if_neg (fun h => h rfl)]
    dsimp only
    have hh := hp.w.hops
    split
    · rfl
    · have hm := withHops_m hp (h := p.1.hops - 1) (by omega)
      rw [IntWalk.u8_in _ (by omega)]
      have e : encR (withHops p (p.1.hops - 1)) = some (encB (withHops p (p.1.hops - 1)) (sumP p)) := by
        unfold encR
        rw [if_pos hm.v, sumP_hops]
      rw [e]; rfl
  · unfold rfwdF fwdF
    rw [if_pos h, if_pos h]
end Go.Proofs.Ytjknkfjhcapocaa.AX
/- Layer 13 by AX2: upper, Pseudo, Sum, encode, Encode of the reference. -/
namespace Go.Proofs.Ytjknkfjhcapocaa.AX
open Go.RowKit
set_option linter.unusedVariables false
set_option linter.unusedSimpArgs false
def upB (p : Pkt) (s : Int) : List Int := (if p.1.nxt = 17 then encU p s else []) ++ p.2
theorem wlen {p : Pkt} (hl : p.2.length ≤ 70368744177664) : IntKind.u64.wrap (IntKind.i64.wrap (sizeP p - 40)) = sizeP p - 40 := by
  have : 40 ≤ sizeP p ∧ sizeP p ≤ 70368744200000 := by unfold sizeP; split <;> omega
  rw [IntWalk.i64_in _ (by omega)]
  exact IntWalk.u64_in _ (by omega)
theorem leN_app2 {c : Wc} {n : Nat} {F : Nat → Nat → CV} {l : List Int} {t : TypeId} (hn : n = l.length) (h : IsRow F l) : LeN c ⟨t, n, 1, false, F⟩ (ents eB t l) := leN_is hn h
theorem toL_nil (f : Nat → Nat → CV) : toL eB 0 f = [] := rfl
theorem app_le {s t : List Int} {v n : Int} (h : s = t ++ beB v n) : s.length ≤ t.length + 8 := by
  rw [h, List.length_append]
  have := beB_len v n
  omega
theorem ip_at {a : Fin 16 → Int} {k i : Nat} (e : i = k) (hk : k < (ipL a).length) : CV.int .u8 (vget a i) = .int .u8 ((ipL a).getD k default) := by
  rw [ipL_len] at hk
  rw [e]
  unfold ipL
  rw [List.getD_eq_getElem?_getD, List.getElem?_map, List.getElem?_range hk]; rfl
def LRp0 : CsL := (22, some validE) :: LPi
theorem LRp0_ok : AllOk Try.prog LRp0 := ⟨pureE_ok ⟨_, Try.func22, rfl, by kernel_rfl⟩ fun a h => rpvalid_ok a.1 h, LPi_ok⟩
set_option maxHeartbeats 8000000 in
set_option maxRecDepth 20000 in
theorem upper_ok (p : Pkt) (s0 : Int) (hp : PkW p) (hl : p.2.length ≤ 70368744177664) (hs0 : 0 ≤ s0 ∧ s0 < 65536) : NewOk Try.prog 70 [cPk.enc p, (cI .u16).enc s0] (some (upB p s0).length) none (ents eB 5 (upB p s0)) := by
  obtain ⟨w, eW⟩ : ∃ w, upB p s0 = w := ⟨_, rfl⟩
  have h1 := hp.sp
  have h2 := hp.dp
  have w1 : IntKind.u64.wrap p.1.sp = p.1.sp := IntWalk.u64_in _ (by omega)
  have w2 : IntKind.u64.wrap p.1.dp = p.1.dp := IntWalk.u64_in _ (by omega)
  have w3 : IntKind.u64.wrap s0 = s0 := IntWalk.u64_in _ (by omega)
  have w4 := wlen hl
  rw [eW]
  refine new_intro (wd := 1) (Q := mkQ LRp0) (by decide) tysOk (q_of LRp0_ok) mixed Try.func70 rfl _ (by show 2 ≤ _; decide) (fun i _ j _ => row_nf eB _ i j) ?_
  repeat' (first | (apply And.intro <;> intro hc <;> (first | exact Bool.noConfusion hc | (simp only [decide_eq_true_eq, decide_eq_false_iff_not, Bool.not_eq_true', Bool.not_eq_false', beq_iff_eq, beq_eq_false_iff_ne, bne_iff_ne, bne_eq_false_iff_eq, Bool.true_eq_false, Bool.false_eq_true, ne_eq, not_true_eq_false] at hc <;> first | exact absurd rfl hc | skip) | skip)) | (refine And.intro (by first | exact trivial | decide | omega | (dsimp only; omega) | exact fun _ _ => rfl | exact ⟨by assumption, by first | exact trivial | decide | omega | (dsimp only; omega)⟩) ?_) | (apply And.intro) | (intro s hs; (first | (have q : s = sizeP p := hs.trans (congrArg sizeP (pk_eq p _)); clear hs; subst q) | (dsimp only at hs; (first | rw [toL_b0] at hs | rw [toL_nil] at hs); have hln := app_le hs; try rw [List.length_nil] at hln) | skip)))
  all_goals first
    | exact rfl
    | (dsimp only; rw [toL_b0]; omega)
    | (dsimp only; rw [toL_b]; omega)
    | (dsimp only; rw [toL_nil]; decide)
    | omega
    | (dsimp only; omega)
    | skip
  · rename_i z1 hz1 _ z2 hz2 _ z3 hz3 _
    have e : w = s ++ p.2 := by
      rw [← eW]
      unfold upB encU
      rw [if_pos hc, hs, hz3, hz2, hz1, w1, w2, w3, w4]; rfl
    rw [e]
    refine ⟨⟨some _, leF_c (leC_os rfl (by rw [List.length_append])), leN_is (by rw [List.length_append]) (isRow_sel rfl (isRow_row _) fun k hk => ?_)⟩⟩
    rw [show s.length + k - s.length = k by omega]; rfl
  · have e : w = p.2 := by
      rw [← eW]
      unfold upB
      rw [if_neg hc]; rfl
    rw [e]
    exact ⟨⟨some _, leF_c (leC_os rfl rfl), leN_is rfl (isRow_row _)⟩⟩
abbrev upE : Entry := newE (AC.cons cPk (AC.cons (cI .u16) AC.nil)) (fun a => PkW a.1 ∧ a.1.2.length ≤ 70368744177664 ∧ 0 ≤ a.2.1 ∧ a.2.1 < 65536) (fun a => upB a.1 a.2.1) (fun L => some L.length) (fun _ => none) (fun L => ents eB 5 L)
def psB (src dst : Fin 16 → Int) (n nx : Int) : List Int := ipL src ++ ipL dst ++ beB (IntKind.u64.wrap n) 4 ++ [0, 0, 0, nx]
theorem ps_row (Z : Nat → Nat → CV) (src dst : Fin 16 → Int) : IsRow (fun k j => (fun k j => selC (k.blt (0 + (16 - 0))) ((fun k j => selC (k.blt 0) (Z k j) ((fun k q => (fun x => (eA IntKind.u8 16).cell src) 0 (0 + 0 * 1 + (k * 1 + q))) (k - 0) j)) k j) ((fun k q => (fun x => (eA IntKind.u8 16).cell dst) 0 (0 + 0 * 1 + (k * 1 + q))) (k - (0 + (16 - 0))) j)) (0 + k) j) ([] ++ ipL src ++ ipL dst) := by
  refine isRow_0 (F := fun k j => selC (k.blt (0 + (16 - 0))) (selC (k.blt 0) (Z k j) ((eA IntKind.u8 16).cell src (0 + 0 * 1 + ((k - 0) * 1 + j)))) ((eA IntKind.u8 16).cell dst (0 + 0 * 1 + ((k - (0 + (16 - 0))) * 1 + j)))) (isRow_sel (A := fun k j => selC (k.blt 0) (Z k j) ((eA IntKind.u8 16).cell src (0 + 0 * 1 + ((k - 0) * 1 + j)))) (C := fun k j => (eA IntKind.u8 16).cell dst (0 + 0 * 1 + ((k - (0 + (16 - 0))) * 1 + j))) (n := 16) rfl (isRow_sel (A := Z) (C := fun k j => (eA IntKind.u8 16).cell src (0 + 0 * 1 + ((k - 0) * 1 + j))) (n := 0) (l1 := []) rfl ⟨fun k hk => absurd hk (Nat.not_lt_zero _)⟩ fun k hk => ?_) fun k hk => ?_)
  · exact ip_at (by omega) hk
  · exact ip_at (by omega) hk
set_option maxHeartbeats 8000000 in
set_option maxRecDepth 20000 in
theorem pseudo_ok (src dst : Fin 16 → Int) (n nx : Int) : NewOk Try.prog 69 [(cE (eA .u8 16)).enc src, (cE (eA .u8 16)).enc dst, (cI .i64).enc n, (cI .u8).enc nx] (some (psB src dst n nx).length) none (ents eB 5 (psB src dst n nx)) := by
  obtain ⟨w, eW⟩ : ∃ w, psB src dst n nx = w := ⟨_, rfl⟩
  rw [eW]
  refine new_intro (wd := 1) (Q := mkQ LRp0) (by decide) tysOk (q_of LRp0_ok) mixed Try.func69 rfl _ (by show 4 ≤ _; decide) (fun i _ j _ => row_nf eB _ i j) ?_
  repeat' (first | (apply And.intro <;> intro hc <;> (first | exact Bool.noConfusion hc | (simp only [decide_eq_true_eq, decide_eq_false_iff_not, Bool.not_eq_true', Bool.not_eq_false', beq_iff_eq, beq_eq_false_iff_ne, bne_iff_ne, bne_eq_false_iff_eq, Bool.true_eq_false, Bool.false_eq_true, ne_eq, not_true_eq_false] at hc <;> first | exact absurd rfl hc | skip) | skip)) | (refine And.intro (by first | exact trivial | decide | omega | (dsimp only; omega) | exact fun _ _ => rfl | exact ⟨by assumption, by first | exact trivial | decide | omega | (dsimp only; omega)⟩) ?_) | (apply And.intro) | (intro s hs; (have q : s = ([] ++ ipL src ++ ipL dst) ++ beB (IntKind.u64.wrap n) 4 := hs.trans (congrArg (fun l => l ++ beB (IntKind.u64.wrap n) 4) (toL_is (l := [] ++ ipL src ++ ipL dst) rfl (ps_row (fun _ => nth [CV.int IntKind.u8 0]) src dst)))); clear hs))
  all_goals first
    | exact rfl
    | (show (toL eB _ _).length ≤ _; rw [toL_len]; omega)
    | (have := congrArg List.length q; have h2 := beB_len (IntKind.u64.wrap n) 4; simp only [List.length_append, ipL_len, List.length_nil] at this; omega)
    | skip
  · exact fun i hi => ok_is (ps_row (fun _ => nth [CV.int IntKind.u8 0]) src dst) hi
  · have e : w = s ++ [0, 0, 0, nx] := by
      rw [← eW, q]; rfl
    rw [e]
    refine ⟨⟨some _, leF_c (leC_os rfl (by rw [List.length_append]; rfl)), leN_is (by rw [List.length_append]; rfl) (isRow_sel rfl (isRow_row _) fun k hk => ?_)⟩⟩
    rw [show s.length + k - s.length = k by omega]
    rcases k with _ | _ | _ | _ | k
    · rfl
    · rfl
    · rfl
    · rfl
    · exact absurd hk (by show ¬ _ < 4; omega)
abbrev pseudoE : Entry := newE (AC.cons (cE (eA .u8 16)) (AC.cons (cE (eA .u8 16)) (AC.cons (cI .i64) (AC.cons (cI .u8) AC.nil)))) (fun _ => True) (fun a => psB a.1 a.2.1 a.2.2.1 a.2.2.2.1) (fun L => some L.length) (fun _ => none) (fun L => ents eB 5 L)
def LRp1 : CsL := (70, some upE) :: (69, some pseudoE) :: LRp0
theorem LRp1_ok : AllOk Try.prog LRp1 := ⟨newE_ok ⟨_, Try.func70, rfl, by kernel_rfl⟩ (fun s l h => by cases h) fun a h => upper_ok a.1 a.2.1 h.1 h.2.1 h.2.2, newE_ok ⟨_, Try.func69, rfl, by kernel_rfl⟩ (fun s l h => by cases h) fun a _ => pseudo_ok a.1 a.2.1 a.2.2.1 a.2.2.2.1, LRp0_ok⟩
theorem dst_eq (h : Hdr) (last : CV) : ((eA .u8 16).rd fun q => tailC eHd h last (0 + 20 + q)) = h.dst := by
  funext q
  show valI (tailC eHd h last (0 + 20 + q.1)) = h.dst q
  rw [show 0 + 20 + q.1 = 20 + q.1 by omega, tailC_lt (show 20 + q.1 < 38 by omega), eHd_dst_at _ _ q.2]
  exact vget_lt _ q.2
theorem upB_17 {p : Pkt} (h : p.1.nxt = 17) (s : Int) : upB p s = encU p s ++ p.2 := by unfold upB; rw [if_pos h]
theorem sum_key {p : Pkt} (hl : p.2.length ≤ 70368744177664) (h : p.1.nxt = 17) : [psB p.1.src p.1.dst (IntKind.i64.wrap (sizeP p - 40)) 17, upB p 0].flatten = covL p := by
  unfold psB
  rw [wlen hl, upB_17 h, ipL_list, ipL_list]
  unfold encU
  rw [beB2, beB2, beB2, beB2]
  simp only [List.flatten_cons, List.flatten_nil, List.append_nil, List.append_assoc]
  rfl
theorem psB_BL {src dst : Fin 16 → Int} (h1 : ∀ i, 0 ≤ vget src i ∧ vget src i < 256) (h2 : ∀ i, 0 ≤ vget dst i ∧ vget dst i < 256) {n nx : Int} (h3 : 0 ≤ nx ∧ nx < 256) : BL (psB src dst n nx) :=
  (((ipL_BL h1).append (ipL_BL h2)).append (beB_BL _ _)).append (BL.cons (by omega) (BL.cons (by omega) (BL.cons (by omega) (BL.cons h3 BL.nil))))
theorem upB_BL {p : Pkt} (hp : PkW p) (s : Int) : BL (upB p s) := by
  unfold upB encU
  refine BL.append ?_ hp.pay
  split
  · exact (((beB_BL _ _).append (beB_BL _ _)).append (beB_BL _ _)).append (beB_BL _ _)
  · exact BL.nil
theorem upB_len (p : Pkt) (s : Int) : (upB p s).length ≤ p.2.length + 8 := by
  unfold upB encU
  split
  · simp only [List.length_append, beB2]; simp; omega
  · simp
theorem psB_len (src dst : Fin 16 → Int) (n nx : Int) : (psB src dst n nx).length ≤ 44 := by
  unfold psB
  have := beB_len (IntKind.u64.wrap n) 4
  simp only [List.length_append, ipL_len, List.length_cons, List.length_nil]
  omega
set_option maxHeartbeats 8000000 in
set_option maxRecDepth 20000 in
theorem rsumP_ok (p : Pkt) (hp : PkW p) (hl : p.2.length ≤ 140737488355328) : PureOk Try.prog 26 [cPk.enc p] ((cI .u16).enc (sumP p)) := by
  refine pure_intro (wd := 1) (Q := mkQ LRp1) (by decide) tysOk (q_of LRp1_ok) mixed Try.func26 rfl _ (by show 1 ≤ _; decide) _ ?_
  repeat' (first | (apply And.intro <;> intro hc <;> (first | exact Bool.noConfusion hc | (simp only [decide_eq_true_eq, decide_eq_false_iff_not, Bool.not_eq_true', Bool.not_eq_false', beq_iff_eq, beq_eq_false_iff_ne, bne_iff_ne, bne_eq_false_iff_eq, Bool.true_eq_false, Bool.false_eq_true, ne_eq, not_true_eq_false] at hc <;> first | exact absurd rfl hc | skip) | skip)) | (refine And.intro (by first | exact trivial | decide | omega | (dsimp only; omega) | exact fun _ _ => rfl | exact ⟨by assumption, by first | exact trivial | decide | omega | (dsimp only; omega)⟩) ?_) | (apply And.intro) | (intro s hs; (first | (have hs' : s = validP p := hs.trans (congrArg validP (pk_eq p _)); clear hs; subst hs') | (have q : s = sizeP p := hs.trans (congrArg sizeP (pk_eq p _)); clear hs; subst q) | (have hq1 : s = psB p.1.src p.1.dst (IntKind.i64.wrap (sizeP p - 40)) 17 := by (rw [hs]; dsimp only; rw [src_eq, dst_eq])) | (have hq2 : s = upB p 0 := hs.trans (congrArg (fun x => upB x 0) (pk_eq p _))) | skip)))
  all_goals
    try (have hvl := valid_len (p := p) (by assumption))
  all_goals first
    | (dsimp only; rw [toL_b]; omega)
    | (dsimp only; rw [pk_eq]; exact hp)
    | exact rfl
    | (dsimp only; omega)
    | exact Done.mk (leF_int (by unfold sumP; rw [if_neg fun h => by first | exact absurd h.1 (by assumption) | exact absurd h.2 (by assumption) | exact Bool.noConfusion (h.1.symm.trans (by assumption))]))
    | skip
  · refine ⟨fun l h => ?_⟩
    dsimp only at h
    rw [toL_b0, toL_b0] at h
    simp only [List.mem_cons, List.not_mem_nil, or_false] at h
    rcases h with rfl | rfl
    · rw [hq1]; exact psB_BL hp.src hp.dst (by omega)
    · rw [hq2]; exact upB_BL hp 0
  · show 2 ≤ 16; decide
  · dsimp only
    rw [toL_b0, toL_b0]
    have h1 := psB_len p.1.src p.1.dst (IntKind.i64.wrap (sizeP p - 40)) 17
    have h2 := upB_len p 0
    rw [← hq1] at h1
    rw [← hq2] at h2
    simp only [List.flatten_cons, List.flatten_nil, List.length_append, List.length_nil]
    omega
  all_goals
    have hv : validP p = true := by assumption
    have h17 : p.1.nxt = 17 := by assumption
    have e : s = inetF (covL p) := by
      refine hs.trans ?_
      clear hs
      dsimp only
      rw [toL_b0, toL_b0, hq1, hq2, sum_key (by have := valid_len hv; omega) h17]
    clear hs
    refine Done.mk (leF_int ?_)
    rw [sumP_covL hv h17]
    unfold sum0
    rw [← e]
    clear e hv h17 hq1 hq2
    first | (rw [if_pos (by assumption)]) | (rw [if_neg (by assumption)])
abbrev rsumE : Entry := pureE PA (fun a => PkW a.1 ∧ a.1.2.length ≤ 140737488355328) (fun a => sumP a.1) (cI .u16).enc
def LRp2 : CsL := (26, some rsumE) :: LRp1
theorem LRp2_ok : AllOk Try.prog LRp2 := ⟨pureE_ok ⟨_, Try.func26, rfl, by kernel_rfl⟩ fun a h => rsumP_ok a.1 h.1 h.2, LRp1_ok⟩
end Go.Proofs.Ytjknkfjhcapocaa.AX
/- Layer 13 by AX2: encode and Encode of the reference. -/
namespace Go.Proofs.Ytjknkfjhcapocaa.AX
open Go.RowKit
set_option linter.unusedVariables false
set_option linter.unusedSimpArgs false
theorem encB_up (p : Pkt) (s : Int) : encB p s = ((((beB (1610612736 + p.1.cls * 1048576 + p.1.flow) 4 ++ beB (sizeP p - 40) 2) ++ [p.1.nxt, p.1.hops]) ++ ipL p.1.src) ++ ipL p.1.dst) ++ upB p s := by
  unfold encB upB encU
  rw [List.append_assoc _ _ p.2]
set_option maxHeartbeats 8000000 in
set_option maxRecDepth 20000 in
theorem rencode_ok (p : Pkt) (s0 : Int) (hp : PkW p) (hl : p.2.length ≤ 70368744170000) (hs0 : 0 ≤ s0 ∧ s0 < 65536) : NewOk Try.prog 64 [cPk.enc p, (cI .u16).enc s0] (some (encB p s0).length) none (ents eB 5 (encB p s0)) := by
  obtain ⟨w, eW⟩ : ∃ w, encB p s0 = w := ⟨_, rfl⟩
  rw [eW]
  have c1 := hp.cls
  have c2 := hp.flow
  have w1 : IntKind.u64.wrap p.1.cls = p.1.cls := IntWalk.u64_in _ (by omega)
  have w2 : shlI .u64 (IntKind.u64.wrap p.1.cls) 20 = p.1.cls * 1048576 := by
    rw [w1]
    unfold shlI
    rw [show min (20 : Int).toNat (IntKind.bits .u64) = 20 from rfl]
    exact IntWalk.u64_in _ (by omega)
  have w3 : IntKind.u64.wrap (IntKind.u64.wrap (1610612736 + shlI .u64 (IntKind.u64.wrap p.1.cls) 20) + IntKind.u64.wrap p.1.flow) = 1610612736 + p.1.cls * 1048576 + p.1.flow := by
    rw [w2, IntWalk.u64_in p.1.flow (by omega), IntWalk.u64_in (1610612736 + p.1.cls * 1048576) (by omega)]
    exact IntWalk.u64_in _ (by omega)
  have w4 := wlen (p := p) (by omega)
  refine new_intro (wd := 1) (Q := mkQ LRp2) (by decide) tysOk (q_of LRp2_ok) mixed Try.func64 rfl _ (by show 2 ≤ _; decide) (fun i _ j _ => row_nf eB _ i j) ?_
  repeat' (first | (apply And.intro <;> intro hc <;> (first | exact Bool.noConfusion hc | (simp only [decide_eq_true_eq, decide_eq_false_iff_not, Bool.not_eq_true', Bool.not_eq_false', beq_iff_eq, beq_eq_false_iff_ne, bne_iff_ne, bne_eq_false_iff_eq, Bool.true_eq_false, Bool.false_eq_true, ne_eq, not_true_eq_false] at hc <;> first | exact absurd rfl hc | skip) | skip)) | (refine And.intro (by first | exact trivial | decide | omega | (dsimp only; omega) | exact fun _ _ => rfl | exact ⟨by assumption, by first | exact trivial | decide | omega | (dsimp only; omega)⟩) ?_) | (apply And.intro) | (intro s hs; (first | (have q : s = sizeP p := hs.trans (congrArg sizeP (pk_eq p _)); clear hs; subst q) | (have hq2 : s = upB p s0 := hs.trans (congrArg (fun x => upB x s0) (pk_eq p _)); clear hs; have hun := upB_len p s0; rw [← hq2] at hun) | (dsimp only at hs; (first | rw [toL_b0] at hs | rw [toL_nil] at hs); have hln := app_le hs; try rw [List.length_nil] at hln) | skip)))
  all_goals first
    | (dsimp only; rw [toL_b]; omega)
    | (dsimp only; rw [toL_b0]; omega)
    | (dsimp only; rw [toL_nil]; decide)
    | (dsimp only; rw [pk_eq]; exact hp)
    | exact rfl
    | (dsimp only; omega)
    | omega
    | skip
  · rename_i z1 hz1 l1 s2
    have hz2 := hs
    clear hs
    have e : w = (((s2 ++ [p.1.nxt, p.1.hops]) ++ ipL p.1.src) ++ ipL p.1.dst) ++ s := by
      rw [← eW, encB_up, hz2, hz1, hq2, w3, w4]; rfl
    rw [e]
    clear e hz1 hz2 hq2 hun
    refine ⟨⟨some _, leF_c (leC_os rfl ?_), leN_is ?_ (isRow_sel ?_ (isRow_sel ?_ (isRow_sel ?_ (isRow_sel rfl (isRow_row _) fun k hk => ?_) fun k hk => ?_) fun k hk => ?_) fun k hk => ?_)⟩⟩
    · simp only [List.length_append, ipL_len, List.length_cons, List.length_nil]
    · simp only [List.length_append, ipL_len, List.length_cons, List.length_nil]
    · simp only [List.length_append, ipL_len, List.length_cons, List.length_nil]
    · simp only [List.length_append, ipL_len, List.length_cons, List.length_nil]
    · simp only [List.length_append, ipL_len, List.length_cons, List.length_nil]
    · rw [show s2.length + k - s2.length = k by omega]
      rcases k with _ | _ | k
      · rfl
      · rfl
      · exact absurd hk (by show ¬ _ < 2; omega)
    · have h16 : k < 16 := by rw [ipL_len] at hk; exact hk
      exact (tailC_src (k := k) (by omega) h16).trans (ip_at rfl hk)
    · have h16 : k < 16 := by rw [ipL_len] at hk; exact hk
      exact (tailC_dst (k := k) (by omega) h16).trans (ip_at rfl hk)
    · show CV.int .u8 (s.getD (0 + (s2.length + 2 + (16 - 0) + (16 - 0) + k - (s2.length + 2 + (16 - 0) + (16 - 0)))) default) = _
      rw [show 0 + (s2.length + 2 + (16 - 0) + (16 - 0) + k - (s2.length + 2 + (16 - 0) + (16 - 0))) = k by omega]
abbrev rencE0 : Entry := newE (AC.cons cPk (AC.cons (cI .u16) AC.nil)) (fun a => PkW a.1 ∧ a.1.2.length ≤ 70368744170000 ∧ 0 ≤ a.2.1 ∧ a.2.1 < 65536) (fun a => encB a.1 a.2.1) (fun L => some L.length) (fun _ => none) (fun L => ents eB 5 L)
def LRp3 : CsL := (64, some rencE0) :: LRp2
theorem LRp3_ok : AllOk Try.prog LRp3 := ⟨newE_ok ⟨_, Try.func64, rfl, by kernel_rfl⟩ (fun s l h => by cases h) fun a h => rencode_ok a.1 a.2.1 h.1 h.2.1 h.2.2, LRp2_ok⟩
set_option maxHeartbeats 8000000 in
set_option maxRecDepth 20000 in
theorem rEncode_ok (p : Pkt) (hp : PkW p) (hl : p.2.length ≤ 140737488355328) : NewOk Try.prog 20 [cPk.enc p] (some ((encR p).getD []).length) (some [i64V (ecR (encR p))]) (ents eB 5 ((encR p).getD [])) := by
  refine new_intro (wd := 1) (Q := mkQ LRp3) (by decide) tysOk (q_of LRp3_ok) mixed Try.func20 rfl _ (by show 1 ≤ _; decide) (fun i _ j _ => row_nf eB _ i j) ?_
  repeat' (first | (apply And.intro <;> intro hc <;> (first | exact Bool.noConfusion hc | (simp only [decide_eq_true_eq, decide_eq_false_iff_not, Bool.not_eq_true', Bool.not_eq_false', beq_iff_eq, beq_eq_false_iff_ne, bne_iff_ne, bne_eq_false_iff_eq, Bool.true_eq_false, Bool.false_eq_true, ne_eq, not_true_eq_false] at hc <;> first | exact absurd rfl hc | skip) | skip)) | (refine And.intro (by first | exact trivial | decide | omega | (dsimp only; omega) | exact fun _ _ => rfl | exact ⟨by assumption, by first | exact trivial | decide | omega | (dsimp only; omega)⟩) ?_) | (apply And.intro) | (intro s hs; (first | (have hs' : s = validP p := hs.trans (congrArg validP (pk_eq p _)); clear hs; subst hs') | (have hs' : s = sumP p := hs.trans (congrArg sumP (pk_eq p _)); clear hs; subst hs') | (have hq : s = encB p (sumP p) := hs.trans (congrArg (fun x => encB x (sumP p)) (pk_eq p _)); clear hs) | skip)))
  all_goals
    try (have hvv : validP p = true := by assumption)
    try (have hvl := valid_len hvv)
  all_goals first
    | (dsimp only; rw [pk_eq]; exact hp)
    | (dsimp only; rw [toL_b]; omega)
    | exact (sumP_r p).1
    | exact (sumP_r p).2
    | skip
  · have e : encR p = none := if_neg (fun h => by simp_all)
    rw [e]
    exact ⟨⟨none, leF_tup ⟨leC_nils_os rfl, leC_int rfl, trivial⟩, rfl, rfl, by decide⟩⟩
  · have hv : validP p = true := by simp_all
    have e : encR p = some s := by unfold encR; rw [if_pos hv, hq]
    rw [e]
    exact ⟨⟨some _, leF_tup ⟨leC_os rfl rfl, leC_int rfl, trivial⟩, leN_ents⟩⟩
abbrev rencE : Entry := newE PA (fun a => PkW a.1 ∧ a.1.2.length ≤ 140737488355328) (fun a => encR a.1) (fun s => some (s.getD []).length) (fun s => some [i64V (ecR s)]) (fun s => ents eB 5 (s.getD []))
def LRp4 : CsL := (20, some rencE) :: LRp3
theorem LRp4_ok : AllOk Try.prog LRp4 := ⟨newE_ok ⟨_, Try.func20, rfl, by kernel_rfl⟩ (fun s l h x hx => by injection h with h; subst h; obtain rfl := List.mem_singleton.1 hx; exact nfE_c nf_int) fun a h => rEncode_ok a.1 h.1 h.2, LRp3_ok⟩
end Go.Proofs.Ytjknkfjhcapocaa.AX
/- Layer 13 by AX2: parse, Decode, Forward, Same of the reference. -/
namespace Go.Proofs.Ytjknkfjhcapocaa.AX
open Go.RowKit
set_option linter.unusedVariables false
set_option linter.unusedSimpArgs false
def upTo (b : List Int) (o i : Nat) : Fin 16 → Int := fun q => if q.1 < i then b.getD (o + q.1) default else 0
def hdI (b : List Int) (v : Int) (i : Nat) : Hdr := ⟨IntKind.u8.wrap (shrI .u64 v 20), IntKind.u32.wrap (v.tmod 1048576), b.getD 6 default, b.getD 7 default, upTo b 8 i, upTo b 24 i, 0, 0⟩
theorem upTo_step (b : List Int) (o i q : Nat) (hq : q < 16) : vget (upTo b o (i + 1)) q = if q = i then b.getD (o + i) default else vget (upTo b o i) q := by
  rw [vget_lt _ hq, vget_lt _ hq]
  unfold upTo
  dsimp only
  by_cases h : q = i
  · subst h; rw [if_pos (by omega), if_pos rfl]
  · rw [if_neg h]
    by_cases h2 : q < i
    · rw [if_pos (by omega), if_pos h2]
    · rw [if_neg (by omega), if_neg h2]
theorem hd_step {c : Wc} {b : List Int} {v : Int} {i : Nat} (hi : i < 16) {o1 o2 : Nat} (h1 : o1 = 4 + i) (h2 : o2 = 20 + i) {x1 x2 : Int} (e1 : x1 = b.getD (8 + i) default) (e2 : x2 = b.getD (24 + i) default) (j : Nat) (hj : j < 39) :
    LeC c (ovs (ovs (tailC eHd (hdI b v i) .nils) o1 1 fun _ => .int .u8 x1) o2 1 (fun _ => .int .u8 x2) j) (tailC eHd (hdI b v (i + 1)) .nils j) := by
  subst h1 h2 e1 e2
  rw [ovs_eq, ovs_eq]
  rcases Nat.lt_or_ge j 38 with hj2 | hj2
  · by_cases c2 : j = 20 + i
    · subst c2
      rw [ovrI (by omega), tailC_dst (k := i) rfl hi, show (hdI b v (i + 1)).dst = upTo b 24 (i + 1) from rfl, upTo_step _ _ _ _ hi, if_pos rfl]
      exact leC_int rfl
    · rw [ovrO (by omega)]
      by_cases c1 : j = 4 + i
      · subst c1
        rw [ovrI (by omega), tailC_src (k := i) rfl hi, show (hdI b v (i + 1)).src = upTo b 8 (i + 1) from rfl, upTo_step _ _ _ _ hi, if_pos rfl]
        exact leC_int rfl
      · rw [ovrO (by omega)]
        rcases Nat.lt_or_ge j 4 with g | g
        · rcases j with _ | _ | _ | _ | j
          · exact leC_int rfl
          · exact leC_int rfl
          · exact leC_int rfl
          · exact leC_int rfl
          · omega
        · rcases Nat.lt_or_ge j 20 with g2 | g2
          · obtain ⟨q, rfl⟩ : ∃ q, j = 4 + q := ⟨j - 4, by omega⟩
            rw [tailC_src (k := q) rfl (by omega), tailC_src (k := q) rfl (by omega), show (hdI b v (i + 1)).src = upTo b 8 (i + 1) from rfl, upTo_step _ _ _ _ (by omega), if_neg (by omega)]
            exact leC_int rfl
          · rcases Nat.lt_or_ge j 36 with g3 | g3
            · obtain ⟨q, rfl⟩ : ∃ q, j = 20 + q := ⟨j - 20, by omega⟩
              rw [tailC_dst (k := q) rfl (by omega), tailC_dst (k := q) rfl (by omega), show (hdI b v (i + 1)).dst = upTo b 24 (i + 1) from rfl, upTo_step _ _ _ _ (by omega), if_neg (by omega)]
              exact leC_int rfl
            · rcases (show j = 36 ∨ j = 37 by omega) with rfl | rfl
              · exact leC_int rfl
              · exact leC_int rfl
  · obtain rfl : j = 38 := by omega
    rw [ovrO (by omega), ovrO (by omega)]
    exact leC_nils
theorem isRow_b0 {b : List Int} {Z : Nat → Nat → CV} (a : Nat) : IsRow (fun q j => selC (Nat.blt (0 + q) 0) (Z (0 + q) j) (rowF eB b (a + (0 + q - 0)) j)) (b.drop a) := ⟨fun k hk => by
  rw [getD_dropI]
  show selC false _ (.int .u8 (b.getD (a + (0 + k - 0)) default)) = _
  rw [selC_false, show 0 + k - 0 = k by omega]⟩
theorem tail_le {c : Wc} {h : Hdr} {j : Nat} : LeC c (tailC eHd h .nils j) (tailC eHd h .nils j) := by
  unfold tailC
  cases Nat.blt j eHd.sz with
  | true => exact (eHd.flat _ _).le
  | false => exact leC_nils
set_option maxHeartbeats 8000000 in
set_option maxRecDepth 20000 in
theorem parse_ok (b : List Int) (hb : BL b) (hl : 40 ≤ b.length ∧ b.length ≤ 1280) (h17 : b.getD 6 default = 17 → 48 ≤ b.length) : PureOk Try.prog 110 [(cSl eB eB_sz).enc b] (.tup [tailR eHd eB (pkF b), .c (.int .u16 (rsumB b))]) := by
  obtain ⟨W, eW⟩ : ∃ W : Pkt × Int, (pkF b, rsumB b) = W := ⟨_, rfl⟩
  rw [show pkF b = W.1 from congrArg Prod.fst eW, show rsumB b = W.2 from congrArg Prod.snd eW]
  have hl2 : b.length ≤ 70368744177664 := by omega
  refine pure_intro (wd := 1) (Q := mkQ LRp4) (by decide) tysOk (q_of LRp4_ok) mixed Try.func110 rfl _ (by show 1 ≤ _; decide) _ ?_
  repeat' (first | (apply And.intro <;> intro hc <;> (first | exact Bool.noConfusion hc | (simp only [decide_eq_true_eq, decide_eq_false_iff_not, Bool.not_eq_true', Bool.not_eq_false', beq_iff_eq, beq_eq_false_iff_ne, bne_iff_ne, bne_eq_false_iff_eq, Bool.true_eq_false, Bool.false_eq_true, ne_eq, not_true_eq_false] at hc <;> first | exact absurd rfl hc | skip) | skip)) | (refine And.intro (by first | exact trivial | decide | omega | (dsimp only; omega) | exact fun _ _ => rfl | exact ⟨by assumption, by first | exact trivial | decide | omega | (dsimp only; omega)⟩) ?_) | (apply And.intro) | (intro s hs; skip))
  · dsimp only; rw [toL_b]; exact hb
  · dsimp only; rw [toL_b]; exact hl2
  have ev : s.1 = uI b 0 4 := congrArg Prod.fst (hs.trans (congrArg (fun x => uintF x 0 4) (toL_b b)))
  clear hs
  obtain ⟨v, vb⟩ := s
  have ev : v = uI b 0 4 := ev
  have hf : IntKind.u32.wrap (v.tmod 1048576) = IntKind.u32.wrap (bits .and .u64 (uI b 0 4) 1048575) := by
    have h0 := hb.get 0; have h1 := hb.get 1; have h2 := hb.get 2; have h3 := hb.get 3
    have e4 := uI_4 (b := b) (by omega)
    rw [ev, and20 (by omega), Int.tmod_eq_emod_of_nonneg (by omega)]
  refine loop_intro (mono_of LRp4_ok) (fun i : {i : Nat // i ≤ 16} => (⟨[(0, one (.sl false b.length eB.sz (rowF eB b))), (2, one (.ptr 0 0 0 false)), (3, one (.int .u16 0)), (6, one (.ptr 22 0 0 false)), (7, one (.int .i64 (i.1 : Int)))],
    [(0, some ⟨28, 1, 39, true, fun _ => tailC eHd pk0.1 .nils⟩), (22, some ⟨28, 1, 39, true, fun _ => tailC eHd (hdI b v i.1) .nils⟩)], 25⟩ : Hd)) (fun i => 16 - i.1) (fun _ => rfl) ?_ ⟨0, by omega⟩ [] ?_
  · rintro ⟨i, hi⟩
    dsimp only at hi ⊢
    have w8 : IntKind.i64.wrap (8 + (i : Int)) = 8 + i := IntWalk.i64_in _ (by omega)
    have w24 : IntKind.i64.wrap (24 + (i : Int)) = 24 + i := IntWalk.i64_in _ (by omega)
    repeat' (first | (apply And.intro <;> intro hc <;> (first | exact Bool.noConfusion hc | (simp only [decide_eq_true_eq, decide_eq_false_iff_not, Bool.not_eq_true', Bool.not_eq_false', beq_iff_eq, beq_eq_false_iff_ne, bne_iff_ne, bne_eq_false_iff_eq, Bool.true_eq_false, Bool.false_eq_true, ne_eq, not_true_eq_false] at hc <;> first | exact absurd rfl hc | skip) | skip)) | (refine And.intro (by first | exact trivial | decide | omega | (dsimp only; omega) | exact fun _ _ => rfl | exact ⟨by assumption, by first | exact trivial | decide | omega | (dsimp only; omega)⟩) ?_) | (apply And.intro) | (intro s hs; (dsimp only at hs; rw [toL_b] at hs)))
    all_goals first
      | (rw [w8]; omega)
      | (rw [w24]; omega)
      | (dsimp only; rw [toL_b]; exact hb)
      | (dsimp only; rw [toL_b]; exact hl2)
      | (show (0 : Int) ≤ _; omega)
      | skip
    · refine ⟨⟨i + 1, by omega⟩, [], by dsimp only; omega, rfl, ?_, ?_⟩
      · repeat' (first | exact trivial | exact rfl | exact leF_ptr rfl | exact leF_int rfl | exact leF_bool rfl | exact leF_cl (cl_slB _ _) | exact leF_cl (cl_slR _ _) | exact leF_cl (cl_ll _ _) | exact leF_c (leC_os rfl rfl) | refine leF_int ?_ | refine leF_bool ?_ | exact leN_varA (fun _ _ => (Elem.flat _ _ _).le) | exact leN_varA (fun _ _ => leC_top) | apply And.intro)
        refine (IntWalk.i64_in _ ?_).trans ?_
        · constructor <;> omega
        · dsimp only
          omega
      · repeat' (first | exact trivial | exact rfl | exact leF_ptr rfl | exact leF_int rfl | exact leF_bool rfl | exact leF_cl (cl_slB _ _) | exact leF_cl (cl_slR _ _) | exact leF_cl (cl_ll _ _) | exact leF_c (leC_os rfl rfl) | refine leF_int ?_ | refine leF_bool ?_ | exact leN_varA (fun _ _ => (Elem.flat _ _ _).le) | exact leN_varA (fun _ _ => leC_top) | apply And.intro)
        all_goals first
          | exact leN_varA fun j _ => tail_le
          | (refine leN_varA fun j hj => hd_step (by omega) ?_ ?_ ?_ ?_ j hj
             · omega
             · omega
             · exact congrArg (fun z => b.getD (Int.toNat z) default) w8
             · exact congrArg (fun z => b.getD (Int.toNat z) default) w24)
          | skip
    · have h48 := h17 (by assumption)
      omega
    · obtain rfl : i = 16 := by omega
      have h6 : b.getD 6 default = 17 := by assumption
      have h48 := h17 h6
      rename_i z1 hz1 z2 hz2 _
      have e : W = (pkU b, IntKind.u16.wrap (uI b 46 2)) := by rw [← eW]; unfold pkF rsumB; rw [if_pos h6, if_pos h6]
      rw [e]
      have e1 : z1.1 = uI b 40 2 := congrArg Prod.fst hz1
      have e2 : z2.1 = uI b 42 2 := congrArg Prod.fst hz2
      have e3 : s.1 = uI b 46 2 := congrArg Prod.fst hs
      refine Done.mk (leF_tup ⟨leE_tail rfl (fun j hj => ?_) (leC_os_is (l := b.drop 48) rfl rfl rfl ?_ ?_ ?_), leC_int (by rw [e3]), trivial⟩)
      · rcases j with _ | _ | j
        · exact leC_int (by rw [ev]; rfl)
        · exact leC_int hf
        · iterate 34 (rcases j with _ | j; exact leC_int rfl)
          rcases j with _ | _ | j
          · exact leC_int (by rw [e1]; rfl)
          · exact leC_int (by rw [e2]; rfl)
          · exact absurd hj (by show ¬ _ < 38; omega)
      · rw [List.length_drop]; show 0 + (b.length - 48) = _; omega
      · exact Nat.le_refl _
      · exact isRow_b0 (Z := fun _ => nth [.int .u8 0]) 48
    · obtain rfl : i = 16 := by omega
      have h6 : b.getD 6 default ≠ 17 := by assumption
      have e : W = (pkN b, 0) := by rw [← eW]; unfold pkF rsumB; rw [if_neg h6, if_neg h6]
      rw [e]
      refine Done.mk (leF_tup ⟨leE_tail rfl (fun j hj => ?_) (leC_os_is (l := b.drop 40) rfl rfl rfl ?_ ?_ ?_), leC_int rfl, trivial⟩)
      · rcases j with _ | _ | j
        · exact leC_int (by rw [ev]; rfl)
        · exact leC_int hf
        · iterate 36 (rcases j with _ | j; exact leC_int rfl)
          exact absurd hj (by show ¬ _ < 38; omega)
      · rw [List.length_drop]; show 0 + (b.length - 40) = _; omega
      · exact Nat.le_refl _
      · exact isRow_b0 (Z := fun _ => nth [.int .u8 0]) 40
  · refine ⟨rfl, ?_, ?_⟩
    · repeat' (first | exact trivial | exact rfl | exact leF_ptr rfl | exact leF_int rfl | exact leF_bool rfl | exact leF_cl (cl_slB _ _) | exact leF_cl (cl_slR _ _) | exact leF_cl (cl_ll _ _) | exact leF_c (leC_os rfl rfl) | refine leF_int ?_ | refine leF_bool ?_ | exact leN_varA (fun _ _ => (Elem.flat _ _ _).le) | exact leN_varA (fun _ _ => leC_top) | apply And.intro)
    · repeat' (first | exact trivial | exact rfl | exact leF_ptr rfl | exact leF_int rfl | exact leF_bool rfl | exact leF_cl (cl_slB _ _) | exact leF_cl (cl_slR _ _) | exact leF_cl (cl_ll _ _) | exact leF_c (leC_os rfl rfl) | refine leF_int ?_ | refine leF_bool ?_ | exact leN_varA (fun _ _ => (Elem.flat _ _ _).le) | exact leN_varA (fun _ _ => leC_top) | apply And.intro)
      all_goals
        refine leN_var ?_
        repeat' (first | exact trivial | exact leC_int rfl | exact leC_nils | apply And.intro)
def encPS (s : Pkt × Int) : FV := .tup [tailR eHd eB s.1, .c (.int .u16 s.2)]
abbrev parseE : Entry := pureE (AC.cons (cSl eB eB_sz) AC.nil) (fun a => BL a.1 ∧ (40 ≤ a.1.length ∧ a.1.length ≤ 1280) ∧ (a.1.getD 6 default = 17 → 48 ≤ a.1.length)) (fun a => (pkF a.1, rsumB a.1)) encPS
def LRp5 : CsL := (110, some parseE) :: LRp4
theorem LRp5_ok : AllOk Try.prog LRp5 := ⟨pureE_ok ⟨_, Try.func110, rfl, by kernel_rfl⟩ fun a h => parse_ok a.1 h.1 h.2.1 h.2.2, LRp4_ok⟩
end Go.Proofs.Ytjknkfjhcapocaa.AX
/- Layer 13 by AX2: Decode, Forward, Same of the reference. -/
namespace Go.Proofs.Ytjknkfjhcapocaa.AX
open Go.RowKit
set_option linter.unusedVariables false
set_option linter.unusedSimpArgs false
set_option maxHeartbeats 8000000 in
set_option maxRecDepth 20000 in
theorem rdecode_ok (b : List Int) (hb : BL b) (hl : b.length ≤ 140737488355328) : PureOk Try.prog 71 [(cSl eB eB_sz).enc b] (encPE (rdecF b)) := by
  obtain ⟨P, eP⟩ : ∃ P, pkF b = P := ⟨_, rfl⟩
  obtain ⟨R, eR⟩ : ∃ R, rsumB b = R := ⟨_, rfl⟩
  have hR : 0 ≤ R ∧ R < 65536 := by
    rw [← eR]
    unfold rsumB
    split
    · exact u16r' _
    · omega
  obtain ⟨W, eW⟩ : ∃ W, rdecF b = W := ⟨_, rfl⟩
  rw [eW]
  have hP : 40 ≤ b.length → b.length ≤ 1280 → PkW P ∧ P.2.length ≤ 1280 := fun h1 h2 => by
    rw [← eP]
    refine ⟨pkF_w hb h1, ?_⟩
    rw [pkF_pay]
    split
    · rw [List.length_drop]; omega
    · rw [List.length_drop]; omega
  unfold rdecF at eW
  rw [eP, eR] at eW
  have hn : P.1.nxt = b.getD 6 default := by rw [← eP]; exact pkF_nxt b
  refine pure_intro (wd := 1) (Q := mkQ LRp5) (by decide) tysOk (q_of LRp5_ok) mixed Try.func71 rfl _ (by show 1 ≤ _; decide) _ ?_
  repeat' (first | (apply And.intro <;> intro hc <;> (first | exact Bool.noConfusion hc | (simp only [decide_eq_true_eq, decide_eq_false_iff_not, Bool.not_eq_true', Bool.not_eq_false', beq_iff_eq, beq_eq_false_iff_ne, bne_iff_ne, bne_eq_false_iff_eq, Bool.true_eq_false, Bool.false_eq_true, ne_eq, not_true_eq_false] at hc <;> first | exact absurd rfl hc | skip) | skip)) | (refine And.intro (by first | exact trivial | decide | omega | (dsimp only; omega) | exact fun _ _ => rfl | exact ⟨by assumption, by first | exact trivial | decide | omega | (dsimp only; omega)⟩) ?_) | (apply And.intro) | (intro s hs; (first | (have q : s = (P, R) := (by (rw [hs]; dsimp only; rw [toL_b, eP, eR])); clear hs; subst q) | (have q : s = validP P := hs.trans (congrArg validP (pk_eq P _)); clear hs; subst q) | (have q : s = sumP P := hs.trans (congrArg sumP (pk_eq P _)); clear hs; subst q) | (have hE : s = encB P R := hs.trans (congrArg (fun x => encB x R) (pk_eq P _)); clear hs) | (have hS := hs; dsimp only at hS; rw [toL_b0, toL_b] at hS; clear hs) | skip)))
  all_goals
    try (have h6 : b.getD 6 default = 17 := by assumption)
    try (have h6 : ¬ b.getD 6 default = 17 := by assumption)
  all_goals first
    | (dsimp only; rw [toL_b]; exact hb)
    | (dsimp only; rw [toL_b]; omega)
    | exact rfl
    | exact Eq.mp (congrArg PkW (pk_eq P _).symm) (hP (by omega) (by omega)).1
    | (show (toL eB _ _).length ≤ _; rw [toL_len]; have := (hP (by omega) (by omega)).2; omega)
    | (have hq := encB_len P R; have hz := (hP (by omega) (by omega)).2; dsimp only; rw [toL_b0, hE]; unfold sizeP at hq; split at hq <;> omega)
    | exact hR.1
    | exact hR.2
    | (dsimp only; rw [toL_b]; intro h; omega)
    | (have e : W = (pk0, 3) := by rw [← eW, if_pos (by omega)]
       rw [e]
       refine Done.mk (leF_tup ⟨leE_tail rfl (fun j hj => ?_) (leC_nils_sl rfl), leC_int rfl, trivial⟩)
       iterate 38 (rcases j with _ | j; exact leC_int rfl)
       exact absurd hj (by show ¬ _ < 38; omega))
    | (have e : W = (pk0, 4) := by rw [← eW, if_neg (by omega), if_pos (by omega)]
       rw [e]
       refine Done.mk (leF_tup ⟨leE_tail rfl (fun j hj => ?_) (leC_nils_sl rfl), leC_int rfl, trivial⟩)
       iterate 38 (rcases j with _ | j; exact leC_int rfl)
       exact absurd hj (by show ¬ _ < 38; omega))
    | (have hv : validP P = false := by assumption
       have e : W = (pk0, 5) := by rw [← eW, if_neg (by omega), if_neg (by omega), if_pos (.inl hv)]
       rw [e]
       refine Done.mk (leF_tup ⟨leE_tail rfl (fun j hj => ?_) (leC_nils_sl rfl), leC_int rfl, trivial⟩)
       iterate 38 (rcases j with _ | j; exact leC_int rfl)
       exact absurd hj (by show ¬ _ < 38; omega))
    | (have hv := of_decide_eq_false (hS.symm.trans (by assumption))
       rw [hE] at hv
       have e : W = (pk0, 5) := by rw [← eW, if_neg (by omega), if_neg (by omega), if_pos (.inr hv)]
       rw [e]
       refine Done.mk (leF_tup ⟨leE_tail rfl (fun j hj => ?_) (leC_nils_sl rfl), leC_int rfl, trivial⟩)
       iterate 38 (rcases j with _ | j; exact leC_int rfl)
       exact absurd hj (by show ¬ _ < 38; omega))
    | (have hv := of_decide_eq_true (hS.symm.trans (by assumption))
       rw [hE] at hv
       have hvv : validP P = true := by assumption
       have n5 : ¬ (validP P = false ∨ encB P R ≠ b) := fun h => h.elim (fun h => Bool.noConfusion (hvv.symm.trans h)) (fun h => h hv)
       first
         | (have e : W = (pk0, 6) := by rw [← eW, if_neg (by omega), if_neg (by omega), if_neg n5, if_pos ⟨by omega, by assumption⟩]
            rw [e]
            refine Done.mk (leF_tup ⟨leE_tail rfl (fun j hj => ?_) (leC_nils_sl rfl), leC_int rfl, trivial⟩)
            iterate 38 (rcases j with _ | j; exact leC_int rfl)
            exact absurd hj (by show ¬ _ < 38; omega))
         | (have e : W = (P, 0) := by rw [← eW, if_neg (by omega), if_neg (by omega), if_neg n5, if_neg (fun h => by first | exact h.2 (by assumption) | omega)]
            rw [e]
            refine Done.mk (leF_tup ⟨leE_tail rfl (fun j hj => ?_) (leC_sl (fun _ => rfl) rfl rfl fun i _ j _ => leC_int rfl), leC_int rfl, trivial⟩)
            iterate 38 (rcases j with _ | j; exact leC_int rfl)
            exact absurd hj (by show ¬ _ < 38; omega)))
    | skip
abbrev rdecE : Entry := decE
def LRp6 : CsL := (71, some decE) :: LRp5
theorem LRp6_ok : AllOk Try.prog LRp6 := ⟨pureE_ok ⟨_, Try.func71, rfl, by kernel_rfl⟩ fun a h => (rdec_eq h.1) ▸ rdecode_ok a.1 h.1 h.2, LRp5_ok⟩
end Go.Proofs.Ytjknkfjhcapocaa.AX
/- Layer 13 by AX2: Forward, Same of the reference. -/
namespace Go.Proofs.Ytjknkfjhcapocaa.AX
open Go.RowKit
set_option linter.unusedVariables false
set_option linter.unusedSimpArgs false
theorem pkF_w' {b : List Int} (hb : BL b) (h : (decF b).2 = 0) : PkM (decF b).1 := by
  obtain ⟨e, hp, _⟩ := dec_enc hb h
  rw [e]; exact hp
theorem hops_eq {P : Pkt} {G : Nat → CV} {h : Int} (h0 : ∀ j, j < 38 → G j = eHd.cell (withHops P h).1 j) {F : Nat → Nat → CV} {n : Nat} (hF : toL eB n F = P.2) : ((eHd.rd G, toL eB n F) : Pkt) = withHops P h := by
  rw [hF, hd_congr G (eHd.cell (withHops P h).1) h0, eHd_rd]; rfl
set_option maxHeartbeats 8000000 in
set_option maxRecDepth 20000 in
theorem rforward_ok (b : List Int) (hb : BL b) (hl : b.length ≤ 140737488355328) : NewOk Try.prog 72 [(cSl eB eB_sz).enc b] (some (rfwdF b).1.length) (some [i64V (rfwdF b).2]) (ents eB 5 (rfwdF b).1) := by
  obtain ⟨d, eD⟩ : ∃ d, decF b = d := ⟨_, rfl⟩
  obtain ⟨w, eW⟩ : ∃ w, rfwdF b = w := ⟨_, rfl⟩
  rw [eW]
  unfold rfwdF at eW
  have hm := pkF_w' hb
  rw [eD] at eW hm
  have w8 : ∀ x, IntKind.u8.wrap x = IntKind.u8.wrap x := fun x => rfl
  refine new_intro (wd := 1) (Q := mkQ LRp6) (by decide) tysOk (q_of LRp6_ok) mixed Try.func72 rfl _ (by show 1 ≤ _; decide) (fun i _ j _ => row_nf eB _ i j) ?_
  repeat' (first | (apply And.intro <;> intro hc <;> (first | exact Bool.noConfusion hc | (simp only [decide_eq_true_eq, decide_eq_false_iff_not, Bool.not_eq_true', Bool.not_eq_false', beq_iff_eq, beq_eq_false_iff_ne, bne_iff_ne, bne_eq_false_iff_eq, Bool.true_eq_false, Bool.false_eq_true, ne_eq, not_true_eq_false] at hc <;> first | exact absurd rfl hc | skip) | skip)) | (refine And.intro (by first | exact trivial | decide | omega | (dsimp only; omega) | exact fun _ _ => rfl | exact ⟨by assumption, by first | exact trivial | decide | omega | (dsimp only; omega)⟩) ?_) | (apply And.intro) | (intro s hs; (first | (have q : d = s := (by (rw [hs]; dsimp only; rw [toL_b, eD])); clear hs; subst q) | skip)))
  all_goals first
    | (dsimp only; rw [toL_b]; exact hb)
    | (dsimp only; rw [toL_b]; exact hl)
    | (have e : w = ([], d.2) := by rw [← eW, if_pos hc]
       rw [e]
       exact ⟨⟨none, leF_tup ⟨leC_nils_os rfl, leC_int rfl, trivial⟩, rfl, rfl, (by show 0 < 1; omega)⟩⟩)
    | (have e : w = ([], 2) := by rw [← eW, if_neg (fun h => h (by assumption)), if_pos hc]
       rw [e]
       exact ⟨⟨none, leF_tup ⟨leC_nils_os rfl, leC_int rfl, trivial⟩, rfl, rfl, (by show 0 < 1; omega)⟩⟩)
    | skip
  · have hw := withHops_m (hm (by assumption)) (u8r (d.1.1.hops - 1))
    refine Eq.mp (congrArg PkW (hops_eq (P := d.1) (h := IntKind.u8.wrap (d.1.1.hops - 1)) (fun j hj => ?_) (toL_b d.1.2)).symm) hw.w
    iterate 38 (rcases j with _ | j; exact rfl)
    exact absurd hj (by omega)
  · have hw := valid_len (hm (by assumption)).v
    show (toL eB _ _).length ≤ _
    rw [toL_len]
    omega
  · have q : s = encR (withHops d.1 (IntKind.u8.wrap (d.1.1.hops - 1))) := by
      refine hs.trans (congrArg encR (hops_eq (P := d.1) (h := IntKind.u8.wrap (d.1.1.hops - 1)) (fun j hj => ?_) (toL_b d.1.2)))
      iterate 38 (rcases j with _ | j; exact rfl)
      exact absurd hj (by omega)
    clear hs
    have e : w = (s.getD [], ecR s) := by rw [← eW, if_neg (fun h => h (by assumption)), if_neg hc, ← q]
    rw [e]
    exact ⟨⟨some _, leF_tup ⟨leC_os rfl rfl, leC_int rfl, trivial⟩, leN_ents⟩⟩
def LRp7 : CsL := (72, some fwdE) :: LRp6
theorem LRp7_ok : AllOk Try.prog LRp7 := ⟨newE_ok ⟨_, Try.func72, rfl, by kernel_rfl⟩ (fun s l h x hx => by injection h with h; subst h; obtain rfl := List.mem_singleton.1 hx; exact nfE_c nf_int) fun a h => (rfwd_eq h.1) ▸ rforward_ok a.1 h.1 h.2, LRp6_ok⟩
theorem eqFrom_self {f : Nat → CV} : ∀ (n off : Nat), (∀ i, i < n → eqCell (f (off + i)) (f (off + i)) = true) → eqFrom f f n off = true := fun n off h => eqFrom_iff.2 h
theorem ip_self (a : Fin 16 → Int) (g : Nat → CV) (h : ∀ j, j < 16 → g j = .int .u8 (vget a j)) : eqFrom g g 16 0 = true := eqFrom_self 16 0 fun i hi => by
  rw [Nat.zero_add, h i hi]
  show (vget a i == vget a i) = true
  exact beq_self_eq_true _
set_option maxHeartbeats 8000000 in
set_option maxRecDepth 20000 in
theorem rsame_ok (p : Pkt) (hl : p.2.length ≤ 140737488355328) : PureOk Try.prog 31 [cPk.enc p, cPk.enc p] (cB.enc true) := by
  refine pure_intro (wd := 1) (Q := mkQ LRp7) (by decide) tysOk (q_of LRp7_ok) mixed Try.func31 rfl _ (by show 2 ≤ _; decide) _ ?_
  repeat' (first | (apply And.intro <;> intro hc <;> (first | exact Bool.noConfusion hc | (exfalso; first | exact absurd rfl hc | exact absurd (beq_self_eq_true _) (by rw [hc]; decide) | exact Bool.noConfusion ((ip_self p.1.src _ fun j hj => tailC_src (by omega) hj).symm.trans hc) | exact Bool.noConfusion ((ip_self p.1.dst _ fun j hj => tailC_dst (by omega) hj).symm.trans hc)) | (simp only [decide_eq_true_eq, decide_eq_false_iff_not, Bool.not_eq_true', Bool.not_eq_false', beq_iff_eq, beq_eq_false_iff_ne, bne_iff_ne, bne_eq_false_iff_eq, Bool.true_eq_false, Bool.false_eq_true, ne_eq, not_true_eq_false] at hc <;> first | exact absurd rfl hc | (exfalso; first | exact absurd rfl hc | exact absurd (beq_self_eq_true _) (by rw [hc]; decide) | exact Bool.noConfusion ((ip_self p.1.src _ fun j hj => tailC_src (by omega) hj).symm.trans hc) | exact Bool.noConfusion ((ip_self p.1.dst _ fun j hj => tailC_dst (by omega) hj).symm.trans hc)) | skip) | skip)) | (refine And.intro (by first | exact trivial | decide | omega | (dsimp only; omega) | exact fun _ _ => rfl | exact ⟨by assumption, by first | exact trivial | decide | omega | (dsimp only; omega)⟩) ?_) | (apply And.intro) | (intro s hs; skip))
  · exact fun _ => rfl
  · exact fun _ => rfl
  · dsimp only; rw [toL_b]; omega
  · have q : s = true := by
      rw [hs]
      dsimp only
      exact decide_eq_true rfl
    exact Done.mk (leF_bool q)
/-- Same, asked only where the packets are equal. -/
abbrev rsameE : Entry := pureE (AC.cons cPk (AC.cons cPk AC.nil)) (fun a => a.1 = a.2.1 ∧ a.1.2.length ≤ 140737488355328) (fun a => true) cB.enc
def LRp : CsL := (31, some rsameE) :: LRp7
theorem LRp_ok : AllOk Try.prog LRp := ⟨pureE_ok ⟨_, Try.func31, rfl, by kernel_rfl⟩ fun a h => by
  obtain ⟨p, q, u⟩ := a
  obtain ⟨h1, h2⟩ := h
  have h1 : p = q := h1
  subst h1
  exact rsame_ok p h2, LRp7_ok⟩
end Go.Proofs.Ytjknkfjhcapocaa.AX
/- What the maker Packet draws from a tape. -/
namespace Go.Proofs.Ytjknkfjhcapocaa.AX
open Go.RowKit
set_option linter.unusedVariables false
set_option linter.unusedSimpArgs false
theorem fin_mk {n : Nat} {l : List Int} {H : Hp} {g : Nat → CV} {m : Nat} (cls flow nxt hops : Int) (src dst : Fin 16 → Int) (sp dp : Int) (pay : List Int) (q : Int) (hm : m = 39)
    (hc : ∀ j, j < 38 → LeC ⟨H, [(0, some (tapeN n (rI l) q))], [], 1, true⟩ (g j) (eHd.cell ⟨cls, flow, nxt, hops, src, dst, sp, dp⟩ j))
    (hl : LeC ⟨H, [(0, some (tapeN n (rI l) q))], [], 1, true⟩ (g 38) (slR eB pay))
    (hE : WkE ⟨H, [(0, some (tapeN n (rI l) q))], [], 1, true⟩ (tapeN n (rI l) q) (some 0)) (hT : TapeOk n (rI l) q) (hP : PkM (⟨cls, flow, nxt, hops, src, dst, sp, dp⟩, pay)) :
    ∃ r : Pkt × Int, (PkM r.1 ∧ TapeOk n (rI l) r.2) ∧ FinM (.e (tailR eHd eB r.1)) (tapeN n (rI l) r.2) (.e (.agg m g)) H :=
  ⟨((⟨cls, flow, nxt, hops, src, dst, sp, dp⟩, pay), q), ⟨hP, hT⟩, ⟨leF_e (leE_tail hm hc hl), hE⟩⟩
theorem sz_r (p : Pkt) (h : p.2.length = 0) : sizeP p = 40 ∨ sizeP p = 48 := by
  unfold sizeP
  split <;> omega
theorem sz_eq (p : Pkt) (h : p.2.length = 0) : sizeP p = if p.1.nxt = 17 then 48 else 40 := by
  unfold sizeP
  rw [h]
  exact Int.add_zero _
theorem flow_r {s : Int} (h : 0 ≤ s ∧ s < 1048576) : 0 ≤ IntKind.u32.wrap s ∧ IntKind.u32.wrap s < 1048576 := by
  rw [IntWalk.u32_in s (by omega)]; exact h
theorem nff_tail {p : Pkt} : NFF (.e (tailR eHd eB p)) := nfE_tail
theorem fill_sz {nxt : Int} {zl : List Int} {z1 z0 : Int} {p : Pkt} (hz1 : z1 = sizeP p) (hp : p.2.length = 0) (hn : p.1.nxt = nxt) (h0 : 0 ≤ z0 ∧ z0 < 2) (h : BL zl ∧ (zl.length : Int) = IntKind.i64.wrap (IntKind.i64.wrap (1280 - z1) - z0)) : (if nxt = 17 then (48 : Int) else 40) + zl.length ≤ 1280 := by
  rw [sz_eq p hp, hn] at hz1
  have e1 : z1 = 40 ∨ z1 = 48 := by rw [hz1]; split <;> omega
  have w1 : IntKind.i64.wrap (1280 - z1) = 1280 - z1 := IntWalk.i64_in _ (by omega)
  have w2 : IntKind.i64.wrap (1280 - z1 - z0) = 1280 - z1 - z0 := IntWalk.i64_in _ (by omega)
  have h2 := h.2
  rw [w1, w2] at h2
  rw [← hz1]; omega
theorem byte_sz {nxt : Int} {zl : List Int} (h : BL zl ∧ (zl.length : Int) ≤ 12) : (if nxt = 17 then (48 : Int) else 40) + zl.length ≤ 1280 := by
  have := h.2
  split <;> omega
theorem mc_no {a' : Fin 16 → Int} {s : Bool} (hs : s = mcast a') (hc : s = false) : vget a' 0 ≠ 255 := by
  rw [hs] at hc
  unfold mcast at hc
  exact of_decide_eq_false hc
theorem zz256 : (0 : Int) ≤ 0 ∧ (0 : Int) < 256 := by decide
theorem zzf : (0 : Int) ≤ 0 ∧ (0 : Int) < 1048576 := by decide
theorem zz16 : (0 : Int) ≤ 0 ∧ (0 : Int) < 65536 := by decide
set_option maxHeartbeats 16000000 in
set_option maxRecDepth 20000 in
theorem packet_ok (n : Nat) (l : List Int) (q : Int) (a1 a2 : Adr) (ht : TapeOk n (rI l) q) :
    ∃ (r : Pkt) (q' : Int), PkM r ∧ TapeOk n (rI l) q' ∧ MethOk Try.prog 36 [(cE eAdr).enc a1, (cE eAdr).enc a2] (tapeN n (rI l) q) (.e (tailR eHd eB r)) (tapeN n (rI l) q') := by
  refine tape_intro (S := PkM) (enc := fun r => .e (tailR eHd eB r)) (wd := 1) (Q := mkQ LM) (by decide) tysOk (q_of LM_ok) mixed Try.func36 rfl _ (by show 2 + 1 ≤ _; decide) (fun _ => nff_tail) ?_
  repeat' (first | (apply And.intro <;> intro hc <;> (first | exact Bool.noConfusion hc | (simp only [decide_eq_true_eq, decide_eq_false_iff_not, Bool.not_eq_true', Bool.not_eq_false', beq_iff_eq, beq_eq_false_iff_ne, bne_iff_ne, bne_eq_false_iff_eq, Bool.true_eq_false, Bool.false_eq_true] at hc) | skip)) | (refine And.intro (by first | exact trivial | decide | omega | (dsimp only; omega) | exact fun _ _ => rfl | exact ⟨by assumption, by first | exact trivial | decide | omega | (dsimp only; omega)⟩) ?_) | (apply And.intro) | (intro s hs))
  all_goals first
    | exact Nat.le_trans (Nat.le_of_eq (toL_len _ _ _)) (Nat.zero_le _)
    | (rename_i s1 hs1 s0 hs0
       have e1 : s1 = 40 ∨ s1 = 48 := by rw [hs1]; exact sz_r _ rfl
       have e0 : 0 ≤ s0 ∧ s0 < 2 := hs0
       have w1 : IntKind.i64.wrap (1280 - s1) = 1280 - s1 := IntWalk.i64_in _ (by omega)
       have w2 : IntKind.i64.wrap (1280 - s1 - s0) = 1280 - s1 - s0 := IntWalk.i64_in _ (by omega)
       first
         | (show 0 ≤ IntKind.i64.wrap (IntKind.i64.wrap (1280 - s1) - s0); rw [w1, w2]; omega)
         | (show IntKind.i64.wrap (IntKind.i64.wrap (1280 - s1) - s0) ≤ 2000; rw [w1, w2]; omega))
    | skip
  all_goals first
    | (apply fin_mk (src := setV _ 0 32)
       · rfl
       · intro j hj
         iterate 38 (rcases j with _ | j; exact leC_int rfl)
         exact absurd hj (by omega)
       · exact leC_sl (fun _ => rfl) rfl rfl fun i _ j _ => leC_int rfl
       · exact tapeN_le
       · assumption
       · apply pkM_mk
         · first | exact u8r _ | exact zz256
         · first | exact flow_r (by assumption) | exact zzf
         · exact pick5 0 _ _ _ _ _ (by omega) _
         · exact pick5 0 _ _ _ _ _ (by omega) _
         · exact setV_ok (by assumption) (by omega)
         · assumption
         · first | assumption | exact zz16
         · first | assumption | exact zz16
         · exact (show BL _ ∧ _ from by assumption).1
         · show (32 : Int) ≠ 255; decide
         · first
             | exact byte_sz (by assumption)
             | (refine fill_sz (by assumption) ?_ ?_ (by assumption) (by assumption)
                · exact toL_len _ _ _
                · rfl)
         · first | exact .inl (by assumption) | exact .inr ⟨rfl, rfl⟩)
    | (apply fin_mk
       · rfl
       · intro j hj
         iterate 38 (rcases j with _ | j; exact leC_int rfl)
         exact absurd hj (by omega)
       · exact leC_sl (fun _ => rfl) rfl rfl fun i _ j _ => leC_int rfl
       · exact tapeN_le
       · assumption
       · apply pkM_mk
         · first | exact u8r _ | exact zz256
         · first | exact flow_r (by assumption) | exact zzf
         · exact pick5 0 _ _ _ _ _ (by omega) _
         · exact pick5 0 _ _ _ _ _ (by omega) _
         · assumption
         · assumption
         · first | assumption | exact zz16
         · first | assumption | exact zz16
         · exact (show BL _ ∧ _ from by assumption).1
         · (have hmc := mc_no (by assumption) (by assumption); exact hmc)
         · first
             | exact byte_sz (by assumption)
             | (refine fill_sz (by assumption) ?_ ?_ (by assumption) (by assumption)
                · exact toL_len _ _ _
                · rfl)
         · first | exact .inl (by assumption) | exact .inr ⟨rfl, rfl⟩)
    | skip
end Go.Proofs.Ytjknkfjhcapocaa.AX
/- The laws about packets: made, known, all contracts. -/
namespace Go.Proofs.Ytjknkfjhcapocaa.AX
open Go.RowKit
set_option linter.unusedVariables false
set_option linter.unusedSimpArgs false
/-- The entry of a function of a row of numbers whose outcome is any r with S r. -/
def madeE {R : Type} (S : R → Prop) (enc : R → FV) : Entry := fun args _ _ _ =>
  match args with
  | [.e (.c (.sl true n s f))] => bif Nat.beq s 1 then some fun K => (∃ l, f = rI l ∧ rngL l) ∧ ∀ r, S r → K (enc r) [] [] else none
  | _ => none
theorem madeE_ok {R : Type} {S : R → Prop} {enc : R → FV} {f : FuncId} (hb : hasBody Try.prog f) (h : ∀ n l, rngL l → ∃ r, S r ∧ PureOk Try.prog f [.e (.c (.sl true n 1 (rI l)))] (enc r)) : EntOk Try.prog f (madeE S enc) := by
  refine ⟨fun args H nm wd q hwd hq K hK => ?_, fun args H nm wd q hq K K' hKK hK => ?_⟩
  · unfold madeE at hq
    split at hq
    · rename_i n s g
      obtain ⟨hbb, hq⟩ := cond_some hq
      subst hq
      have hbb := Nat.eq_of_beq_eq_true hbb
      subst hbb
      obtain ⟨⟨l, rfl, hl⟩, hK⟩ := hK
      obtain ⟨r, h1, h2⟩ := h n l hl
      refine ⟨_, _, _, callR_pure (args' := [.e (.c (.sl true n 1 (rI l)))]) (rd := []) hb (fun H' _ => ⟨rfl, fun i x y hx hy => ?_⟩) h2, hK r h1⟩
      cases i with
      | zero => simp only [List.getElem?_cons_zero, Option.some.injEq] at hx hy; subst hx hy; exact bo_shI
      | succ i => cases i <;> cases hx
    · cases hq
  · unfold madeE at hq
    split at hq
    · obtain ⟨hbb, hq⟩ := cond_some hq
      subst hq
      exact ⟨hK.1, fun r h => hKK _ _ _ (hK.2 r h)⟩
    · cases hq
abbrev packE : Entry := tapeE (AC.cons (cE eAdr) (AC.cons (cE eAdr) AC.nil)) (fun _ => True) (fun a (r : Pkt) => PkM r) (fun r => .e (tailR eHd eB r))
def LMp : CsL := (36, some packE) :: LM0
theorem LMp_ok : AllOk Try.prog LMp := ⟨tapeE_ok ⟨_, Try.func36, rfl, by kernel_rfl⟩ fun n l q a ht hp => packet_ok n l q a.1 a.2.1 ht, LM0_ok⟩
set_option maxRecDepth 20000 in
theorem made_ok (n : Nat) (l : List Int) (hl : rngL l) : ∃ r, PkM r ∧ PureOk Try.prog 17 [.e (.c (.sl true n 1 (rI l)))] (.e (tailR eHd eB r)) := by
  refine pure_some (wd := 1) (Q := mkQ LMp) (by decide) tysOk (q_of LMp_ok) mixed Try.func17 rfl _ (by show 1 ≤ _; decide) (S := PkM) (enc := fun r => .e (tailR eHd eB r)) ?_
  repeat' (first | (apply And.intro <;> intro hc <;> (first | exact Bool.noConfusion hc | (simp only [decide_eq_true_eq, decide_eq_false_iff_not, Bool.not_eq_true', Bool.not_eq_false', beq_iff_eq, beq_eq_false_iff_ne, bne_iff_ne, bne_eq_false_iff_eq, Bool.true_eq_false, Bool.false_eq_true] at hc) | skip)) | (refine And.intro (by first | exact trivial | decide | omega | (dsimp only; omega) | exact fun _ _ => rfl | exact ⟨by assumption, by first | exact trivial | decide | omega | (dsimp only; omega)⟩) ?_) | (apply And.intro) | (intro s hs))
  · exact ⟨l, rfl, hl⟩
  intro ht0
  repeat' (first | (apply And.intro <;> intro hc <;> (first | exact Bool.noConfusion hc | (simp only [decide_eq_true_eq, decide_eq_false_iff_not, Bool.not_eq_true', Bool.not_eq_false', beq_iff_eq, beq_eq_false_iff_ne, bne_iff_ne, bne_eq_false_iff_eq, Bool.true_eq_false, Bool.false_eq_true] at hc) | skip)) | (refine And.intro (by first | exact trivial | decide | omega | (dsimp only; omega) | exact fun _ _ => rfl | exact ⟨by assumption, by first | exact trivial | decide | omega | (dsimp only; omega)⟩) ?_) | (apply And.intro) | (intro s hs))
  rename_i hm
  refine ⟨_, hm, Done.mk (leF_e (leE_tail rfl (fun j hj => ?_) (leC_sl (fun _ => rfl) rfl rfl fun i _ j _ => leC_int rfl)))⟩
  iterate 38 (rcases j with _ | j; exact leC_int rfl)
  exact absurd hj (by show ¬ _ < 38; omega)
abbrev mkE13 : Entry := madeE PkM (fun r => .e (tailR eHd eB r))
/-- The least packet. -/
def kP : Pkt := (⟨0, 0, 59, 1, fun _ => 0, fun _ => 0, 0, 0⟩, [])
theorem kP_m : PkM kP := ⟨by decide, by decide, by decide, by decide, by decide, fun i => by have : vget kP.1.src i = 0 := (by unfold vget kP; split <;> rfl); omega, fun i => by have : vget kP.1.dst i = 0 := (by unfold vget kP; split <;> rfl); omega, by decide, by decide, BL.nil⟩
theorem kL : ∃ L, encR kP = some L ∧ L.length = 40 ∧ L.getD 0 default = 96 ∧ BL L ∧ fwdF L = ([], 2) := by
  refine ⟨encB kP (sumP kP), if_pos kP_m.v, ?_, ?_, encB_BL kP_m.w _, ?_⟩
  · have h := encB_len kP (sumP kP)
    have : sizeP kP = 40 := rfl
    omega
  · rw [encB_hd]; rfl
  · rw [fwd_enc kP_m]; rfl
theorem kp_eq {G : Nat → CV} {F : Nat → Nat → CV} (h : ∀ j, j < 38 → G j = eHd.cell kP.1 j) : ((eHd.rd G, toL eB 0 F) : Pkt) = kP := by rw [hd_congr G (eHd.cell kP.1) h, eHd_rd]; rfl
set_option maxHeartbeats 8000000 in
set_option maxRecDepth 20000 in
theorem known_ok : PureOk Try.prog 28 [] (cB.enc true) := by
  obtain ⟨L, h1, h2, h3, h4, h5⟩ := kL
  refine pure_intro (wd := 1) (Q := mkQ LRp) (by decide) tysOk (q_of LRp_ok) mixed Try.func28 rfl _ (by show 0 ≤ _; decide) _ ?_
  repeat' (first | (apply And.intro <;> intro hc <;> (first | exact Bool.noConfusion hc | (simp only [decide_eq_true_eq, decide_eq_false_iff_not, Bool.not_eq_true', Bool.not_eq_false', beq_iff_eq, beq_eq_false_iff_ne, bne_iff_ne, bne_eq_false_iff_eq, Bool.true_eq_false, Bool.false_eq_true, ne_eq, not_true_eq_false] at hc <;> first | exact absurd rfl hc | skip) | skip)) | (refine And.intro (by first | exact trivial | decide | omega | (dsimp only; omega) | exact fun _ _ => rfl | exact ⟨by assumption, by first | exact trivial | decide | omega | (dsimp only; omega)⟩) ?_) | (apply And.intro) | (intro s hs; (first | (have q : s = some L := (by (refine hs.trans ((congrArg encR (kp_eq (fun j hj => ?_))).trans h1); (iterate 38 (rcases j with _ | j; exact rfl)); exact absurd hj (by omega))); clear hs; subst q) | (have q : s = ([], 2) := (by (refine hs.trans ?_; show fwdF (toL eB L.length fun k j => rowF eB L (0 + k) j) = _; rw [toL_b0]; exact h5)); clear hs; subst q) | skip)))
  · refine Eq.mp (congrArg PkW (kp_eq (fun j hj => ?_)).symm) kP_m.w
    iterate 38 (rcases j with _ | j; exact rfl)
    exact absurd hj (by omega)
  · exact Nat.le_trans (Nat.le_of_eq (toL_len _ _ _)) (Nat.zero_le _)
  all_goals first
    | exact rfl
    | exact Done.mk (leF_bool rfl)
    | (show BL (toL eB L.length fun k j => rowF eB L (0 + k) j); rw [toL_b0]; exact h4)
    | (show (toL eB L.length fun k j => rowF eB L (0 + k) j).length ≤ _; rw [toL_len, h2]; decide)
    | (have hb : ¬ L.getD 0 default = 96 := by assumption
       exact absurd h3 hb)
    | (have hb : ¬ (L.length : Int) = 40 := by assumption
       exact absurd (by rw [h2]; rfl) hb)
    | exact absurd rfl (by assumption : ¬ ecR (some L) = 0)
    | skip
abbrev kn13E : Entry := pureE AC.nil (fun _ => True) (fun _ => true) cB.enc
def LWp : CsL := (17, some mkE13) :: (28, some kn13E) :: (LT0 ++ LRp)
theorem LWp_ok : AllOk Try.prog LWp := ⟨madeE_ok ⟨_, Try.func17, rfl, by kernel_rfl⟩ made_ok, pureE_ok ⟨_, Try.func28, rfl, by kernel_rfl⟩ fun _ _ => known_ok, append_ok LT0_ok LRp_ok⟩
end Go.Proofs.Ytjknkfjhcapocaa.AX
/- bytes.Compare, as a contract of AX2. -/
namespace Go.Proofs.Ytjknkfjhcapocaa.AX
open Go.RowKit
set_option linter.unusedVariables false
set_option linter.unusedSimpArgs false
def cmpI : List Int → List Int → Int
  | [], [] => 0
  | [], _ :: _ => -1
  | _ :: _, [] => 1
  | a :: l, b :: m => if a < b then -1 else if b < a then 1 else cmpI l m
structure byL (l : List Int) : Prop where
  q : ∀ x ∈ l, 0 ≤ x ∧ x < 256
theorem u8_lt {a b : Int} (ha : 0 ≤ a ∧ a < 256) (hb : 0 ≤ b ∧ b < 256) : (a.toNat.toUInt8 < b.toNat.toUInt8) ↔ a < b := by
  rw [UInt8.lt_iff_toNat_lt]
  simp only [UInt8.toNat_ofNat']
  omega
theorem cmpI_eq : ∀ (a b : List Int), byL a → byL b → Lib.compareBytes (Lib.bytesOf a) (Lib.bytesOf b) = cmpI a b := by
  intro a
  induction a with
  | nil =>
    intro b _ _
    cases b <;> simp [Lib.bytesOf, Lib.compareBytes, cmpI]
  | cons x a ih =>
    intro b ha hb
    cases b with
    | nil => simp [Lib.bytesOf, Lib.compareBytes, cmpI]
    | cons y b =>
      have hx := ha.q x (by simp)
      have hy := hb.q y (by simp)
      have := ih b ⟨fun z hz => ha.q z (by simp [hz])⟩ ⟨fun z hz => hb.q z (by simp [hz])⟩
      simp only [Lib.bytesOf, List.map_cons, Lib.compareBytes, cmpI] at this ⊢
      rw [this]
      by_cases h1 : x < y
      · rw [if_pos ((u8_lt hx hy).2 h1), if_pos h1]
      · rw [if_neg (fun h => h1 ((u8_lt hx hy).1 h)), if_neg h1]
        by_cases h2 : y < x
        · rw [if_pos ((u8_lt hy hx).2 h2), if_pos h2]
        · rw [if_neg (fun h => h2 ((u8_lt hy hx).1 h)), if_neg h2]
theorem run_bytes {P : Program} {r : Ren} {X W : Nat → Prop} {w : World} {x : List Int} {v : Value} (h : (CV.sl false x.length 1 (rowF (eI .u8) x)).rel r X W w v) : ∃ B : ByteArray, B.data.toList = Lib.bytesOf x ∧ (Extern.Bytes.bytesOf v).run P w = .ok B w := by
  obtain ⟨a, cap, rfl, hn, hc⟩ := h
  cases a with
  | none =>
    have : x = [] := by
      rcases Nat.eq_zero_or_pos x.length with h | h
      · exact List.length_eq_zero_iff.1 h
      · obtain ⟨ad, h, _⟩ := hc h; cases h
    subst this
    exact ⟨.empty, rfl, rfl⟩
  | some ad =>
    refine ⟨⟨(Lib.bytesOf x).toArray⟩, by simp, ?_⟩
    show (Extern.Bytes.loadBytes ad x.length .empty).run P w = _
    rw [Lib.run_loadBytesX w x ad .empty fun j y hy => ?_]
    · congr 1
      apply ByteArray.ext
      show (#[] : Array UInt8) ++ _ = _
      simp
    · have hj : j < x.length := (List.getElem?_eq_some_iff.1 hy).1
      obtain ⟨ad', e, hs, _, _, _, hcell⟩ := hc (by omega)
      injection e with e
      subst e
      obtain ⟨u, hu, hr⟩ := hcell j hj 0 (by omega)
      have hr' : u = .int .u8 (x.getD j default) := hr
      rw [addS hs]
      rw [show j * 1 + 0 = j by omega] at hu
      rw [hu, hr']
      simp [List.getD_eq_getElem?_getD, hy]
theorem eI_sz {k : IntKind} : 0 < (eI k).sz := by show 0 < 1; omega
set_option maxRecDepth 100000 in
theorem compare_ok (x y : List Int) (hx : byL x) (hy : byL y) : PureOk Try.prog 128 [(cSl (eI .u8) eI_sz).enc x, (cSl (eI .u8) eI_sz).enc y] ((cI .i64).enc (cmpI x y)) := by
  intro X w vals hrel hX
  obtain ⟨v0, v1, rfl⟩ : ∃ v0 v1, vals = #[v0, v1] := by
    have h2 : vals.size = 2 := hrel.1
    match vals, h2 with
    | ⟨[a, b]⟩, _ => exact ⟨a, b, rfl⟩
  have h0 : (CV.sl false x.length 1 (rowF (eI .u8) x)).rel (fun _ => none) X (fun _ => False) w v0 := hrel.2 0 _ v0 rfl rfl
  have h1 : (CV.sl false y.length 1 (rowF (eI .u8) y)).rel (fun _ => none) X (fun _ => False) w v1 := hrel.2 1 _ v1 rfl rfl
  obtain ⟨B0, e0, r0⟩ := run_bytes (P := Try.prog) h0
  obtain ⟨B1, e1, r1⟩ := run_bytes (P := Try.prog) h1
  have hc : (Extern.BytealgCompare.compare #[v0, v1]).run Try.prog w = .ok (.int .i64 (cmpI x y)) w := by
    show Sem.run _ (do pure (goInt (Extern.BytealgCompare.cmp (← Extern.Bytes.bytesOf v0) (← Extern.Bytes.bytesOf v1)))) w = _
    simp only [Sem.run_bind, r0, r1, Result.andThen_ok, Sem.run_pure, goInt, Lib.cmp_eq, e0, e1, cmpI_eq x y hx hy]
  clear h0 h1 r0 r1 e0 e1 hrel
  have key : Calls Try.prog 128 #[v0, v1] w fun e w' => e = .returned (.int .i64 (cmpI x y)) ∧ w' = w := by
    go_enter Try.func128, Try.ntmps128
    go_wp2
    rw [run_callFunc_extern Try.func150 (by kernel_rfl) (by kernel_rfl) (by kernel_rfl) (e := Extern.BytealgCompare.compare) (by kernel_rfl), hc]
    simp only [Result.andThen]
    rw [Oper.upon_value]
    go_wp2
    go_ret
    exact ⟨rfl, rfl⟩
  refine key.mono fun e w' ⟨he, hw⟩ => ?_
  subst he hw
  exact ⟨_, rfl, Below.refl _ _, rfl⟩
end Go.Proofs.Ytjknkfjhcapocaa.AX
/- bytes.Equal of two byte strings that are equal, as a contract of AX2. -/
namespace Go.Proofs.Ytjknkfjhcapocaa.AX
open Go.RowKit
set_option linter.unusedVariables false
set_option linter.unusedSimpArgs false
theorem loadCells_zero {P : Program} {w : World} {a : Addr} : (loadCells a 0).run P w = .ok #[] w := by
  have := run_loadCells_list (P := P) w a [] (fun j v h => by cases h)
  simpa using this
/-- A byte string as a string. -/
theorem conv_str {P : Program} {r : Ren} {X W : Nat → Prop} {w : World} {x : List Int} {v : Value} {src dst e : TypeId} (hs : P.underlying src = some (.slice e)) (he : P.underlying e = some (.int .u8)) (hd : P.underlying dst = some .string)
    (h : (CV.sl false x.length 1 (rowF (eI .u8) x)).rel r X W w v) : (convert src dst v).run P w = .ok (.string (strOfNums x)) w := by
  obtain ⟨a, cap, rfl, hn, hc⟩ := h
  rcases Nat.eq_zero_or_pos x.length with h0 | h0
  · have hx : x = [] := List.length_eq_zero_iff.1 h0
    subst hx
    cases a with
    | none => exact run_convert_bytes_nil w src e hs he 0 cap dst hd
    | some ad =>
      show (convert src dst (.slice (some ad) 0 cap)).run P w = _
      rw [run_convert_bytes_string w src dst e _ 0 cap hs he hd, run_bytesToString w ad 0 cap [] loadCells_zero]
      rfl
  · obtain ⟨ad, rfl, hsp, _, _, _, hcell⟩ := hc h0
    obtain ⟨b, off, sp⟩ := ad
    have hsp : sp = none := hsp
    subst hsp
    refine run_convert_bytes_arg w src e hs he b off x.length cap x rfl (fun i hi => ?_) dst hd
    obtain ⟨u, hu, hr⟩ := hcell i hi 0 (by omega)
    have hr' : u = .int .u8 (x.getD i default) := hr
    rw [show i * 1 + 0 = i by omega] at hu
    rw [hu, hr']; rfl
set_option maxRecDepth 100000 in
theorem bequal_ok (x : List Int) : PureOk Try.prog 90 [(cSl (eI .u8) eI_sz).enc x, (cSl (eI .u8) eI_sz).enc x] (cB.enc true) := by
  intro X w vals hrel hX
  obtain ⟨v0, v1, rfl⟩ : ∃ v0 v1, vals = #[v0, v1] := by
    have h2 : vals.size = 2 := hrel.1
    match vals, h2 with
    | ⟨[a, b]⟩, _ => exact ⟨a, b, rfl⟩
  have h0 : (CV.sl false x.length 1 (rowF (eI .u8) x)).rel (fun _ => none) X (fun _ => False) w v0 := hrel.2 0 _ v0 rfl rfl
  have h1 : (CV.sl false x.length 1 (rowF (eI .u8) x)).rel (fun _ => none) X (fun _ => False) w v1 := hrel.2 1 _ v1 rfl rfl
  have r0 := conv_str (dst := 9) Try.underlying26 Try.underlying5 Try.underlying9 h0
  have r1 := conv_str (dst := 9) Try.underlying26 Try.underlying5 Try.underlying9 h1
  clear h0 h1 hrel
  have key : Calls Try.prog 90 #[v0, v1] w fun e w' => e = .returned (.bool true) ∧ w' = w := by
    go_enter Try.func90, Try.ntmps90
    go_wp2
    go_ret
    exact ⟨rfl, rfl⟩
  refine key.mono fun e w' ⟨he, hw⟩ => ?_
  subst he hw
  exact ⟨_, rfl, Below.refl _ _, rfl⟩
end Go.Proofs.Ytjknkfjhcapocaa.AX
/- Layer 36 by AX2: tunnels of the program and of the reference; packets compared. -/
namespace Go.Proofs.Ytjknkfjhcapocaa.AX
open Go.RowKit
set_option linter.unusedVariables false
set_option linter.unusedSimpArgs false
/-- The packet around an encoding. -/
def tunP (p : Pkt) (a b : Fin 16 → Int) (L : List Int) : Pkt := (⟨p.1.cls, p.1.flow, 41, 64, a, b, 0, 0⟩, L)
def tunF (p : Pkt) (a b : Fin 16 → Int) : Pkt × Int :=
  match encR p with
  | none => (pk0, 1)
  | some L => if validP (tunP p a b L) = true then (tunP p a b L, 0) else (pk0, 1)
theorem tunP_w {p : Pkt} (hp : PkW p) {a b : Fin 16 → Int} (ha : byteOk a) (hb : byteOk b) {L : List Int} (hL : BL L) : PkW (tunP p a b L) :=
  ⟨hp.cls, hp.flow, (by show (0 : Int) ≤ 41 ∧ (41 : Int) < 256; decide), (by show (0 : Int) ≤ 64 ∧ (64 : Int) < 256; decide), vget_in ha, vget_in hb, (by show (0 : Int) ≤ 0 ∧ (0 : Int) < 65536; decide), (by show (0 : Int) ≤ 0 ∧ (0 : Int) < 65536; decide), hL⟩
theorem encR_BL {p : Pkt} (hp : PkW p) {L : List Int} (h : encR p = some L) : BL L ∧ L.length ≤ 1280 ∧ validP p = true ∧ encB p (sumP p) = L := by
  unfold encR at h
  split at h
  · rename_i hv
    injection h with h
    subst h
    refine ⟨encB_BL hp _, ?_, hv, rfl⟩
    have h1 := encB_len p (sumP p)
    have h2 := valid_size hv
    omega
  · cases h
theorem tun_is {p : Pkt} {a b : Fin 16 → Int} {L : List Int} {G : Nat → CV} (h : ∀ j, j < 38 → G j = eHd.cell (tunP p a b L).1 j) : ((eHd.rd G, toL eB L.length fun k j => rowF eB L (0 + k) j) : Pkt) = tunP p a b L := pk_is (h := (tunP p a b L).1) (l := L) h (toL_b0 L)
theorem ecR_tun (p : Pkt) : ecR (encR p) = if validP p = true then 0 else 1 := by
  unfold encR
  split
  · rfl
  · rfl
set_option maxHeartbeats 8000000 in
set_option maxRecDepth 20000 in
theorem tunnel_ok (p : Pkt) (a b : Fin 16 → Int) (hp : PkW p) (ha : byteOk a) (hb : byteOk b) (hl : p.2.length ≤ 140737488355328) : PureOk Try.prog 53 [cPk.enc p, (cE (eA .u8 16)).enc a, (cE (eA .u8 16)).enc b] (encPE (tunF p a b)) := by
  obtain ⟨E, eE⟩ : ∃ E, encR p = E := ⟨_, rfl⟩
  obtain ⟨W, eW⟩ : ∃ W, tunF p a b = W := ⟨_, rfl⟩
  rw [eW]
  unfold tunF at eW
  rw [eE] at eW
  have hE : ∀ L, E = some L → BL L ∧ L.length ≤ 1280 := fun L h => ⟨(encR_BL hp (eE.trans h)).1, (encR_BL hp (eE.trans h)).2.1⟩
  cases E with
  | none =>
    have e : W = (pk0, 1) := eW.symm
    refine pure_intro (wd := 1) (Q := mkQ LRp) (by decide) tysOk (q_of LRp_ok) mixed Try.func53 rfl _ (by show 3 ≤ _; decide) _ ?_
    repeat' (first | (apply And.intro <;> intro hc <;> (first | exact Bool.noConfusion hc | (exfalso; first | exact absurd rfl hc | exact Int.noConfusion hc (fun h => by cases h)) | (simp only [decide_eq_true_eq, decide_eq_false_iff_not, Bool.not_eq_true', Bool.not_eq_false', beq_iff_eq, beq_eq_false_iff_ne, bne_iff_ne, bne_eq_false_iff_eq, Bool.true_eq_false, Bool.false_eq_true, ne_eq, not_true_eq_false] at hc <;> first | exact absurd rfl hc | (exfalso; first | exact absurd rfl hc | exact Int.noConfusion hc (fun h => by cases h)) | skip) | skip)) | (refine And.intro (by first | exact trivial | decide | omega | (dsimp only; omega) | exact fun _ _ => rfl | exact ⟨by assumption, by first | exact trivial | decide | omega | (dsimp only; omega)⟩) ?_) | (apply And.intro) | (intro s hs; (first | (have q : none = s := (hs.trans ((congrArg encR (pk_eq p _)).trans eE)).symm; clear hs; subst q) | skip)))
    all_goals first
      | exact Eq.mp (congrArg PkW (pk_eq p _).symm) hp
      | (show (toL eB p.2.length _).length ≤ _; rw [toL_len]; omega)
      | (rw [e]
         refine Done.mk (leF_tup ⟨leE_tail rfl (fun j hj => ?_) (leC_nils_sl rfl), leC_int rfl, trivial⟩)
         iterate 38 (rcases j with _ | j; exact leC_int rfl)
         exact absurd hj (by show ¬ _ < 38; omega))
      | exact absurd (by assumption : ecR none = 0) (by decide)
      | skip
  | some L =>
    obtain ⟨hLb, hLn⟩ := hE L rfl
    have hTw := tunP_w hp ha hb hLb
    obtain ⟨E2, eE2⟩ : ∃ E2, encR (tunP p a b L) = E2 := ⟨_, rfl⟩
    have hz := ecR_tun (tunP p a b L)
    rw [eE2] at hz
    have eW : (if validP (tunP p a b L) = true then (tunP p a b L, (0 : Int)) else (pk0, 1)) = W := eW
    have flag : True := trivial
    by_cases hv : validP (tunP p a b L) = true
    · rw [if_pos hv] at hz eW
      refine pure_intro (wd := 1) (Q := mkQ LRp) (by decide) tysOk (q_of LRp_ok) mixed Try.func53 rfl _ (by show 3 ≤ _; decide) _ ?_
      repeat' (first | (apply And.intro <;> intro hc <;> (first | exact Bool.noConfusion hc | (exfalso; first | exact absurd rfl hc | exact absurd hz hc) | (simp only [decide_eq_true_eq, decide_eq_false_iff_not, Bool.not_eq_true', Bool.not_eq_false', beq_iff_eq, beq_eq_false_iff_ne, bne_iff_ne, bne_eq_false_iff_eq, Bool.true_eq_false, Bool.false_eq_true, ne_eq, not_true_eq_false] at hc <;> first | exact absurd rfl hc | (exfalso; first | exact absurd rfl hc | exact absurd hz hc) | skip) | skip)) | (refine And.intro (by first | exact trivial | decide | omega | (dsimp only; omega) | exact fun _ _ => rfl | exact ⟨by assumption, by first | exact trivial | decide | omega | (dsimp only; omega)⟩) ?_) | (apply And.intro) | (intro s hs; (first | (clear flag; have q : some L = s := (hs.trans ((congrArg encR (pk_eq p _)).trans eE)).symm; clear hs; subst q) | (have q : E2 = s := (hs.trans ((congrArg encR (tun_is (p := p) (a := a) (b := b) (fun j hj => by (iterate 38 (rcases j with _ | j; exact rfl)); exact absurd hj (by omega)))).trans eE2)).symm; clear hs; subst q) | skip)))
      all_goals first
        | exact Eq.mp (congrArg PkW (pk_eq p _).symm) hp
        | (show (toL eB p.2.length _).length ≤ _; rw [toL_len]; omega)
        | exact rfl
        | (refine Eq.mp (congrArg PkW (tun_is (p := p) (a := a) (b := b) (L := L) fun j hj => ?_).symm) hTw
           iterate 38 (rcases j with _ | j; exact rfl)
           exact absurd hj (by omega))
        | (show (toL eB L.length _).length ≤ _; rw [toL_len]; omega)
        | (rw [← eW]
           refine Done.mk (leF_tup ⟨leE_tail rfl (fun j hj => ?_) (leC_os_is (l := L) rfl rfl rfl rfl (Nat.le_refl _) (isRow_0 (isRow_row L))), leC_int rfl, trivial⟩)
           iterate 38 (rcases j with _ | j; exact leC_int rfl)
           exact absurd hj (by show ¬ _ < 38; omega))
        | skip
    · rw [if_neg hv] at hz eW
      have e : W = (pk0, 1) := eW.symm
      have hz0 : ¬ ecR E2 = 0 := by rw [hz]; decide
      refine pure_intro (wd := 1) (Q := mkQ LRp) (by decide) tysOk (q_of LRp_ok) mixed Try.func53 rfl _ (by show 3 ≤ _; decide) _ ?_
      repeat' (first | (apply And.intro <;> intro hc <;> (first | exact Bool.noConfusion hc | (exfalso; first | exact absurd rfl hc | exact absurd hc hz0) | (simp only [decide_eq_true_eq, decide_eq_false_iff_not, Bool.not_eq_true', Bool.not_eq_false', beq_iff_eq, beq_eq_false_iff_ne, bne_iff_ne, bne_eq_false_iff_eq, Bool.true_eq_false, Bool.false_eq_true, ne_eq, not_true_eq_false] at hc <;> first | exact absurd rfl hc | (exfalso; first | exact absurd rfl hc | exact absurd hc hz0) | skip) | skip)) | (refine And.intro (by first | exact trivial | decide | omega | (dsimp only; omega) | exact fun _ _ => rfl | exact ⟨by assumption, by first | exact trivial | decide | omega | (dsimp only; omega)⟩) ?_) | (apply And.intro) | (intro s hs; (first | (clear flag; have q : some L = s := (hs.trans ((congrArg encR (pk_eq p _)).trans eE)).symm; clear hs; subst q) | (have q : E2 = s := (hs.trans ((congrArg encR (tun_is (p := p) (a := a) (b := b) (fun j hj => by (iterate 38 (rcases j with _ | j; exact rfl)); exact absurd hj (by omega)))).trans eE2)).symm; clear hs; subst q) | skip)))
      all_goals first
        | exact Eq.mp (congrArg PkW (pk_eq p _).symm) hp
        | (show (toL eB p.2.length _).length ≤ _; rw [toL_len]; omega)
        | exact rfl
        | (refine Eq.mp (congrArg PkW (tun_is (p := p) (a := a) (b := b) (L := L) fun j hj => ?_).symm) hTw
           iterate 38 (rcases j with _ | j; exact rfl)
           exact absurd hj (by omega))
        | (show (toL eB L.length _).length ≤ _; rw [toL_len]; omega)
        | (rw [e]
           refine Done.mk (leF_tup ⟨leE_tail rfl (fun j hj => ?_) (leC_nils_sl rfl), leC_int hz, trivial⟩)
           iterate 38 (rcases j with _ | j; exact leC_int rfl)
           exact absurd hj (by show ¬ _ < 38; omega))
        | skip
end Go.Proofs.Ytjknkfjhcapocaa.AX
/- Layer 36 by AX2: Tunnel of the reference. -/
namespace Go.Proofs.Ytjknkfjhcapocaa.AX
open Go.RowKit
set_option linter.unusedVariables false
set_option linter.unusedSimpArgs false
set_option maxHeartbeats 8000000 in
set_option maxRecDepth 20000 in
theorem rtunnel_ok (p : Pkt) (a b : Fin 16 → Int) (hp : PkW p) (ha : byteOk a) (hb : byteOk b) (hl : p.2.length ≤ 140737488355328) : PureOk Try.prog 54 [cPk.enc p, (cE (eA .u8 16)).enc a, (cE (eA .u8 16)).enc b] (encPE (tunF p a b)) := by
  obtain ⟨E, eE⟩ : ∃ E, encR p = E := ⟨_, rfl⟩
  obtain ⟨W, eW⟩ : ∃ W, tunF p a b = W := ⟨_, rfl⟩
  rw [eW]
  unfold tunF at eW
  rw [eE] at eW
  have hE : ∀ L, E = some L → BL L ∧ L.length ≤ 1280 := fun L h => ⟨(encR_BL hp (eE.trans h)).1, (encR_BL hp (eE.trans h)).2.1⟩
  cases E with
  | none =>
    have e : W = (pk0, 1) := eW.symm
    refine pure_intro (wd := 1) (Q := mkQ LRp) (by decide) tysOk (q_of LRp_ok) mixed Try.func54 rfl _ (by show 3 ≤ _; decide) _ ?_
    repeat' (first | (apply And.intro <;> intro hc <;> (first | exact Bool.noConfusion hc | (exfalso; first | exact absurd rfl hc | exact Int.noConfusion hc (fun h => by cases h)) | (simp only [decide_eq_true_eq, decide_eq_false_iff_not, Bool.not_eq_true', Bool.not_eq_false', beq_iff_eq, beq_eq_false_iff_ne, bne_iff_ne, bne_eq_false_iff_eq, Bool.true_eq_false, Bool.false_eq_true, ne_eq, not_true_eq_false] at hc <;> first | exact absurd rfl hc | (exfalso; first | exact absurd rfl hc | exact Int.noConfusion hc (fun h => by cases h)) | skip) | skip)) | (refine And.intro (by first | exact trivial | decide | omega | (dsimp only; omega) | exact fun _ _ => rfl | exact ⟨by assumption, by first | exact trivial | decide | omega | (dsimp only; omega)⟩) ?_) | (apply And.intro) | (intro s hs; (first | (have q : none = s := (hs.trans ((congrArg encR (pk_eq p _)).trans eE)).symm; clear hs; subst q) | skip)))
    all_goals first
      | exact Eq.mp (congrArg PkW (pk_eq p _).symm) hp
      | (show (toL eB p.2.length _).length ≤ _; rw [toL_len]; omega)
      | (rw [e]
         refine Done.mk (leF_tup ⟨leE_tail rfl (fun j hj => ?_) (leC_nils_sl rfl), leC_int rfl, trivial⟩)
         iterate 38 (rcases j with _ | j; exact leC_int rfl)
         exact absurd hj (by show ¬ _ < 38; omega))
      | exact absurd (by assumption : ecR none = 0) (by decide)
      | skip
  | some L =>
    obtain ⟨hLb, hLn⟩ := hE L rfl
    have hTw := tunP_w hp ha hb hLb
    obtain ⟨E2, eE2⟩ : ∃ E2, encR (tunP p a b L) = E2 := ⟨_, rfl⟩
    have hz := ecR_tun (tunP p a b L)
    rw [eE2] at hz
    have eW : (if validP (tunP p a b L) = true then (tunP p a b L, (0 : Int)) else (pk0, 1)) = W := eW
    have flag : True := trivial
    by_cases hv : validP (tunP p a b L) = true
    · rw [if_pos hv] at hz eW
      refine pure_intro (wd := 1) (Q := mkQ LRp) (by decide) tysOk (q_of LRp_ok) mixed Try.func54 rfl _ (by show 3 ≤ _; decide) _ ?_
      repeat' (first | (apply And.intro <;> intro hc <;> (first | exact Bool.noConfusion hc | (exfalso; first | exact absurd rfl hc | exact absurd hz hc) | (simp only [decide_eq_true_eq, decide_eq_false_iff_not, Bool.not_eq_true', Bool.not_eq_false', beq_iff_eq, beq_eq_false_iff_ne, bne_iff_ne, bne_eq_false_iff_eq, Bool.true_eq_false, Bool.false_eq_true, ne_eq, not_true_eq_false] at hc <;> first | exact absurd rfl hc | (exfalso; first | exact absurd rfl hc | exact absurd hz hc) | skip) | skip)) | (refine And.intro (by first | exact trivial | decide | omega | (dsimp only; omega) | exact fun _ _ => rfl | exact ⟨by assumption, by first | exact trivial | decide | omega | (dsimp only; omega)⟩) ?_) | (apply And.intro) | (intro s hs; (first | (clear flag; have q : some L = s := (hs.trans ((congrArg encR (pk_eq p _)).trans eE)).symm; clear hs; subst q) | (have q : E2 = s := (hs.trans ((congrArg encR (tun_is (p := p) (a := a) (b := b) (fun j hj => by (iterate 38 (rcases j with _ | j; exact rfl)); exact absurd hj (by omega)))).trans eE2)).symm; clear hs; subst q) | skip)))
      all_goals first
        | exact Eq.mp (congrArg PkW (pk_eq p _).symm) hp
        | (show (toL eB p.2.length _).length ≤ _; rw [toL_len]; omega)
        | exact rfl
        | (refine Eq.mp (congrArg PkW (tun_is (p := p) (a := a) (b := b) (L := L) fun j hj => ?_).symm) hTw
           iterate 38 (rcases j with _ | j; exact rfl)
           exact absurd hj (by omega))
        | (show (toL eB L.length _).length ≤ _; rw [toL_len]; omega)
        | (rw [← eW]
           refine Done.mk (leF_tup ⟨leE_tail rfl (fun j hj => ?_) (leC_os_is (l := L) rfl rfl rfl rfl (Nat.le_refl _) (isRow_0 (isRow_row L))), leC_int rfl, trivial⟩)
           iterate 38 (rcases j with _ | j; exact leC_int rfl)
           exact absurd hj (by show ¬ _ < 38; omega))
        | skip
    · rw [if_neg hv] at hz eW
      have e : W = (pk0, 1) := eW.symm
      have hz0 : ¬ ecR E2 = 0 := by rw [hz]; decide
      refine pure_intro (wd := 1) (Q := mkQ LRp) (by decide) tysOk (q_of LRp_ok) mixed Try.func54 rfl _ (by show 3 ≤ _; decide) _ ?_
      repeat' (first | (apply And.intro <;> intro hc <;> (first | exact Bool.noConfusion hc | (exfalso; first | exact absurd rfl hc | exact absurd hc hz0) | (simp only [decide_eq_true_eq, decide_eq_false_iff_not, Bool.not_eq_true', Bool.not_eq_false', beq_iff_eq, beq_eq_false_iff_ne, bne_iff_ne, bne_eq_false_iff_eq, Bool.true_eq_false, Bool.false_eq_true, ne_eq, not_true_eq_false] at hc <;> first | exact absurd rfl hc | (exfalso; first | exact absurd rfl hc | exact absurd hc hz0) | skip) | skip)) | (refine And.intro (by first | exact trivial | decide | omega | (dsimp only; omega) | exact fun _ _ => rfl | exact ⟨by assumption, by first | exact trivial | decide | omega | (dsimp only; omega)⟩) ?_) | (apply And.intro) | (intro s hs; (first | (clear flag; have q : some L = s := (hs.trans ((congrArg encR (pk_eq p _)).trans eE)).symm; clear hs; subst q) | (have q : E2 = s := (hs.trans ((congrArg encR (tun_is (p := p) (a := a) (b := b) (fun j hj => by (iterate 38 (rcases j with _ | j; exact rfl)); exact absurd hj (by omega)))).trans eE2)).symm; clear hs; subst q) | skip)))
      all_goals first
        | exact Eq.mp (congrArg PkW (pk_eq p _).symm) hp
        | (show (toL eB p.2.length _).length ≤ _; rw [toL_len]; omega)
        | exact rfl
        | (refine Eq.mp (congrArg PkW (tun_is (p := p) (a := a) (b := b) (L := L) fun j hj => ?_).symm) hTw
           iterate 38 (rcases j with _ | j; exact rfl)
           exact absurd hj (by omega))
        | (show (toL eB L.length _).length ≤ _; rw [toL_len]; omega)
        | (rw [e]
           refine Done.mk (leF_tup ⟨leE_tail rfl (fun j hj => ?_) (leC_nils_sl rfl), leC_int hz, trivial⟩)
           iterate 38 (rcases j with _ | j; exact leC_int rfl)
           exact absurd hj (by show ¬ _ < 38; omega))
        | skip
end Go.Proofs.Ytjknkfjhcapocaa.AX
/- Layer 36 by AX2: Open of the program and of the reference; packets compared. -/
namespace Go.Proofs.Ytjknkfjhcapocaa.AX
open Go.RowKit
set_option linter.unusedVariables false
set_option linter.unusedSimpArgs false
def opnF (p : Pkt) : Pkt × Int := if p.1.nxt = 41 then decF p.2 else (pk0, 5)
theorem dec_shape (b : List Int) : (decF b).1.2.length ≤ 1280 := by
  by_cases h : (decF b).2 = 0
  · obtain ⟨l1, l2, e⟩ := dec_len h
    rw [e, pkF_pay]
    split
    · rw [List.length_drop]; omega
    · rw [List.length_drop]; omega
  · have : (decF b).1 = pk0 := by
      unfold decF at h ⊢
      split
      · rfl
      · split
        · rfl
        · split
          · rfl
          · split
            · rfl
            · split
              · rfl
              · split
                · rfl
                · rename_i c1 c2 c3 c4 c5 c6
                  rw [if_neg c1, if_neg c2, if_neg c3, if_neg c4, if_neg c5, if_neg c6] at h
                  exact absurd rfl h
    rw [this]; decide
set_option maxHeartbeats 8000000 in
set_option maxRecDepth 20000 in
theorem opn_ok (p : Pkt) (hp : BL p.2) (hl : p.2.length ≤ 140737488355328) : PureOk Try.prog 55 [cPk.enc p] (encPE (opnF p)) := by
  obtain ⟨D, eD⟩ : ∃ D, decF p.2 = D := ⟨_, rfl⟩
  obtain ⟨W, eW⟩ : ∃ W, opnF p = W := ⟨_, rfl⟩
  rw [eW]
  unfold opnF at eW
  rw [eD] at eW
  refine pure_intro (wd := 1) (Q := mkQ LRp) (by decide) tysOk (q_of LRp_ok) mixed Try.func55 rfl _ (by show 1 ≤ _; decide) _ ?_
  repeat' (first | (apply And.intro <;> intro hc <;> (first | exact Bool.noConfusion hc | (simp only [decide_eq_true_eq, decide_eq_false_iff_not, Bool.not_eq_true', Bool.not_eq_false', beq_iff_eq, beq_eq_false_iff_ne, bne_iff_ne, bne_eq_false_iff_eq, Bool.true_eq_false, Bool.false_eq_true, ne_eq, not_true_eq_false] at hc <;> first | exact absurd rfl hc | skip) | skip)) | (refine And.intro (by first | exact trivial | decide | omega | (dsimp only; omega) | exact fun _ _ => rfl | exact ⟨by assumption, by first | exact trivial | decide | omega | (dsimp only; omega)⟩) ?_) | (apply And.intro) | (intro s hs; (have q : D = s := (by (rw [hs]; dsimp only; rw [toL_b, eD])); clear hs; subst q)))
  all_goals first
    | (dsimp only; rw [toL_b]; exact hp)
    | (dsimp only; rw [toL_b]; exact hl)
    | (rw [← eW, if_neg (by assumption)]
       refine Done.mk (leF_tup ⟨leE_tail rfl (fun j hj => ?_) (leC_nils_sl rfl), leC_int rfl, trivial⟩)
       iterate 38 (rcases j with _ | j; exact leC_int rfl)
       exact absurd hj (by show ¬ _ < 38; omega))
    | (rw [← eW, if_pos (by first | assumption | (rename ¬ ¬ _ => h; exact Classical.not_not.1 h))]
       refine Done.mk (leF_tup ⟨leE_tail rfl (fun j hj => ?_) (leC_sl (fun _ => rfl) rfl rfl fun i _ j _ => leC_int rfl), leC_int rfl, trivial⟩)
       iterate 38 (rcases j with _ | j; exact leC_int rfl)
       exact absurd hj (by show ¬ _ < 38; omega))
    | skip
set_option maxHeartbeats 8000000 in
set_option maxRecDepth 20000 in
theorem ropn_ok (p : Pkt) (hp : BL p.2) (hl : p.2.length ≤ 140737488355328) : PureOk Try.prog 56 [cPk.enc p] (encPE (opnF p)) := by
  obtain ⟨D, eD⟩ : ∃ D, decF p.2 = D := ⟨_, rfl⟩
  obtain ⟨W, eW⟩ : ∃ W, opnF p = W := ⟨_, rfl⟩
  rw [eW]
  unfold opnF at eW
  rw [eD] at eW
  refine pure_intro (wd := 1) (Q := mkQ LRp) (by decide) tysOk (q_of LRp_ok) mixed Try.func56 rfl _ (by show 1 ≤ _; decide) _ ?_
  repeat' (first | (apply And.intro <;> intro hc <;> (first | exact Bool.noConfusion hc | (simp only [decide_eq_true_eq, decide_eq_false_iff_not, Bool.not_eq_true', Bool.not_eq_false', beq_iff_eq, beq_eq_false_iff_ne, bne_iff_ne, bne_eq_false_iff_eq, Bool.true_eq_false, Bool.false_eq_true, ne_eq, not_true_eq_false] at hc <;> first | exact absurd rfl hc | skip) | skip)) | (refine And.intro (by first | exact trivial | decide | omega | (dsimp only; omega) | exact fun _ _ => rfl | exact ⟨by assumption, by first | exact trivial | decide | omega | (dsimp only; omega)⟩) ?_) | (apply And.intro) | (intro s hs; (have q : D = s := (by (rw [hs]; dsimp only; rw [toL_b, eD])); clear hs; subst q)))
  all_goals first
    | (dsimp only; rw [toL_b]; exact hp)
    | (dsimp only; rw [toL_b]; exact hl)
    | (rw [← eW, if_neg (by assumption)]
       refine Done.mk (leF_tup ⟨leE_tail rfl (fun j hj => ?_) (leC_nils_sl rfl), leC_int rfl, trivial⟩)
       iterate 38 (rcases j with _ | j; exact leC_int rfl)
       exact absurd hj (by show ¬ _ < 38; omega))
    | (rw [← eW, if_pos (by first | assumption | (rename ¬ ¬ _ => h; exact Classical.not_not.1 h))]
       refine Done.mk (leF_tup ⟨leE_tail rfl (fun j hj => ?_) (leC_sl (fun _ => rfl) rfl rfl fun i _ j _ => leC_int rfl), leC_int rfl, trivial⟩)
       iterate 38 (rcases j with _ | j; exact leC_int rfl)
       exact absurd hj (by show ¬ _ < 38; omega))
    | skip
abbrev tunE : Entry := pureE (AC.cons cPk (AC.cons (cE (eA .u8 16)) (AC.cons (cE (eA .u8 16)) AC.nil))) (fun a => (PkW a.1 ∧ byteOk a.2.1 ∧ byteOk a.2.2.1) ∧ a.1.2.length ≤ 140737488355328) (fun a => tunF a.1 a.2.1 a.2.2.1) encPE
abbrev opnE : Entry := pureE PA (fun a => BL a.1.2 ∧ a.1.2.length ≤ 140737488355328) (fun a => opnF a.1) encPE
abbrev beqE : Entry := pureE (AC.cons (cSl (eI .u8) eI_sz) (AC.cons (cSl (eI .u8) eI_sz) AC.nil)) (fun a => a.1 = a.2.1) (fun _ => true) cB.enc
def LTu : CsL := (90, some beqE) :: (53, some tunE) :: (54, some tunE) :: (55, some opnE) :: (56, some opnE) :: LRp
theorem LTu_ok : AllOk Try.prog LTu := ⟨pureE_ok ⟨_, Try.func90, rfl, by kernel_rfl⟩ fun a h => by
  obtain ⟨x, y, u⟩ := a
  have h : x = y := h
  subst h
  exact bequal_ok x, pureE_ok ⟨_, Try.func53, rfl, by kernel_rfl⟩ fun a h => tunnel_ok a.1 a.2.1 a.2.2.1 h.1.1 h.1.2.1 h.1.2.2 h.2, pureE_ok ⟨_, Try.func54, rfl, by kernel_rfl⟩ fun a h => rtunnel_ok a.1 a.2.1 a.2.2.1 h.1.1 h.1.2.1 h.1.2.2 h.2,
  pureE_ok ⟨_, Try.func55, rfl, by kernel_rfl⟩ fun a h => opn_ok a.1 h.1 h.2, pureE_ok ⟨_, Try.func56, rfl, by kernel_rfl⟩ fun a h => ropn_ok a.1 h.1 h.2, LRp_ok⟩
set_option maxHeartbeats 8000000 in
set_option maxRecDepth 20000 in
theorem wsame_ok (p : Pkt) (hl : p.2.length ≤ 70368744177664) : PureOk Try.prog 57 [cPk.enc p, cPk.enc p] (cB.enc true) := by
  refine pure_intro (wd := 1) (Q := mkQ LTu) (by decide) tysOk (q_of LTu_ok) mixed Try.func57 rfl _ (by show 2 ≤ _; decide) _ ?_
  repeat' (first | (apply And.intro <;> intro hc <;> (first | exact Bool.noConfusion hc | (exfalso; first | exact absurd rfl hc | exact absurd (beq_self_eq_true _) (by rw [hc]; decide) | exact Bool.noConfusion ((ip_self p.1.src _ fun j hj => tailC_src (by omega) hj).symm.trans hc) | exact Bool.noConfusion ((ip_self p.1.dst _ fun j hj => tailC_dst (by omega) hj).symm.trans hc)) | (simp only [decide_eq_true_eq, decide_eq_false_iff_not, Bool.not_eq_true', Bool.not_eq_false', beq_iff_eq, beq_eq_false_iff_ne, bne_iff_ne, bne_eq_false_iff_eq, Bool.true_eq_false, Bool.false_eq_true, ne_eq, not_true_eq_false] at hc <;> first | exact absurd rfl hc | (exfalso; first | exact absurd rfl hc | exact absurd (beq_self_eq_true _) (by rw [hc]; decide) | exact Bool.noConfusion ((ip_self p.1.src _ fun j hj => tailC_src (by omega) hj).symm.trans hc) | exact Bool.noConfusion ((ip_self p.1.dst _ fun j hj => tailC_dst (by omega) hj).symm.trans hc)) | skip) | skip)) | (refine And.intro (by first | exact trivial | decide | omega | (dsimp only; omega) | exact fun _ _ => rfl | exact ⟨by assumption, by first | exact trivial | decide | omega | (dsimp only; omega)⟩) ?_) | (apply And.intro) | (intro s hs; skip))
  all_goals first
    | exact fun _ => rfl
    | exact rfl
    | exact Done.mk (leF_bool (by assumption))
    | skip
abbrev wsameE : Entry := pureE (AC.cons cPk (AC.cons cPk AC.nil)) (fun a => a.1 = a.2.1 ∧ a.1.2.length ≤ 70368744177664) (fun _ => true) cB.enc
def LTv : CsL := (57, some wsameE) :: LTu
theorem LTv_ok : AllOk Try.prog LTv := ⟨pureE_ok ⟨_, Try.func57, rfl, by kernel_rfl⟩ fun a h => by
  obtain ⟨p, q, u⟩ := a
  obtain ⟨h1, h2⟩ := h
  have h1 : p = q := h1
  subst h1
  exact wsame_ok p h2, LTu_ok⟩
end Go.Proofs.Ytjknkfjhcapocaa.AX
/- Package mobility: isTime, validSequence, Valid (by AX2). -/
namespace Go.Proofs.Ytjknkfjhcapocaa.AX
open Go.RowKit
set_option linter.unusedVariables false
set_option linter.unusedSimpArgs false
structure Bd where
  home : Fin 16 → Int
  place : Fin 16 → Int
  seq : Int
  til : Int
instance : Inhabited Bd := ⟨⟨fun _ => 0, fun _ => 0, 0, 0⟩⟩
def eBdC (x : Bd) (j : Nat) : CV := bif Nat.blt j 16 then .int .u8 (vget x.home (j - 0)) else bif Nat.blt j 32 then .int .u8 (vget x.place (j - 16)) else bif Nat.beq j 32 then .int .i64 x.seq else (.int .i64 x.til)
def eBd : Elem Bd where
  sz := 34
  cell := eBdC
  rd g := ⟨fun q => valI (g (0 + q.1)), fun q => valI (g (16 + q.1)), valI (g 32), valI (g 33)⟩
  ok g := okA .u8 g 0 16 && okA .u8 g 16 16 && isK .i64 (g 32) && isK .i64 (g 33)
  ok_eq g h j hj := by
    simp only [Bool.and_eq_true] at h
    unfold eBdC
    by_cases c0 : j < 16
    · have e := okA_at h.1.1.1 (j - 0) (by omega)
      rw [show 0 + (j - 0) = j by omega] at e
      rw [show Nat.blt j 16 = true from Nat.ble_eq_true_of_le c0, cond_true]
      rw [show vget (fun q : Fin 16 => valI (g (0 + q.1))) (j - 0) = valI (g (0 + (j - 0))) from vget_lt _ (by omega)]
      rw [show 0 + (j - 0) = j by omega]
      exact e
    by_cases c1 : j < 32
    · have e := okA_at h.1.1.2 (j - 16) (by omega)
      rw [show 16 + (j - 16) = j by omega] at e
      have b0 : Nat.blt j 16 = false := by cases hb : Nat.blt j 16 with | false => rfl | true => have := Nat.le_of_ble_eq_true hb; omega
      rw [b0, cond_false, show Nat.blt j 32 = true from Nat.ble_eq_true_of_le c1, cond_true]
      rw [show vget (fun q : Fin 16 => valI (g (16 + q.1))) (j - 16) = valI (g (16 + (j - 16))) from vget_lt _ (by omega)]
      rw [show 16 + (j - 16) = j by omega]
      exact e
    by_cases c2 : j < 33
    · have e : j = 32 := by omega
      subst e
      exact isK_eq h.1.2
    by_cases c3 : j < 34
    · have e : j = 33 := by omega
      subst e
      exact isK_eq h.2
    omega
  flat a j := by
    unfold eBdC
    cases Nat.blt j 16 with
    | true => exact flat_int
    | false =>
    cases Nat.blt j 32 with
    | true => exact flat_int
    | false =>
    cases Nat.beq j 32 with
    | true => exact flat_int
    | false =>
    exact flat_int
theorem eBd_sz : 0 < eBd.sz := by decide
theorem eBd_home_at (x : Bd) (q : Nat) (h : q < 16) : eBd.cell x (0 + q) = .int .u8 (vget x.home q) := by
  show eBdC x (0 + q) = _
  unfold eBdC
  rw [show Nat.blt (0 + q) 16 = true from Nat.ble_eq_true_of_le (by omega), cond_true]
  rw [show 0 + q - 0 = q by omega]
theorem eBd_home (x : Bd) : (fun q : Fin 16 => valI (eBd.cell x (0 + q.1))) = x.home := by
  funext q
  rw [eBd_home_at x q.1 q.2]
  exact vget_lt _ q.2
theorem eBd_place_at (x : Bd) (q : Nat) (h : q < 16) : eBd.cell x (16 + q) = .int .u8 (vget x.place q) := by
  show eBdC x (16 + q) = _
  unfold eBdC
  rw [show Nat.blt (16 + q) 16 = false from by cases hb : Nat.blt (16 + q) 16 with | false => rfl | true => have := Nat.le_of_ble_eq_true hb; omega, cond_false]
  rw [show Nat.blt (16 + q) 32 = true from Nat.ble_eq_true_of_le (by omega), cond_true]
  rw [show 16 + q - 16 = q by omega]
theorem eBd_place (x : Bd) : (fun q : Fin 16 => valI (eBd.cell x (16 + q.1))) = x.place := by
  funext q
  rw [eBd_place_at x q.1 q.2]
  exact vget_lt _ q.2
theorem eBd_rd (x : Bd) : eBd.rd (eBd.cell x) = x := by
  show (⟨fun q => valI (eBd.cell x (0 + q.1)), fun q => valI (eBd.cell x (16 + q.1)), x.seq, x.til⟩ : Bd) = x
  rw [eBd_home, eBd_place]
theorem eBd_ok (x : Bd) : eBd.ok (eBd.cell x) = true := rfl
theorem rd_bd (b : Bd) : (eBd.rd fun q => eBd.cell b (0 + q)) = b := by simp only [Nat.zero_add]; exact eBd_rd b
theorem toL_bd (l : List Bd) : toL eBd l.length (rowF eBd l) = l := toL_row eBd_rd l
def ipLm (a : Fin 16 → Int) : List Int := (List.range 16).map (vget a)
def ipC (a b : Fin 16 → Int) : Int := cmpI (ipLm a) (ipLm b)
theorem ipL_by {a : Fin 16 → Int} (h : byteOk a) : byL (ipLm a) := by
  refine ⟨fun x hx => ?_⟩
  simp only [ipLm, List.mem_map, List.mem_range] at hx
  obtain ⟨i, hi, rfl⟩ := hx
  rw [vget_lt _ hi]
  exact h.q _
theorem toL_home {g : Nat → Nat → CV} {a : Fin 16 → Int} (h : ∀ i, i < 16 → g i 0 = .int .u8 (vget a i)) : toL (eI .u8) 16 g = ipLm a := by
  unfold toL ipLm
  refine List.map_congr_left fun i hi => ?_
  show valI (g i 0) = _
  rw [h i (List.mem_range.1 hi)]; rfl
theorem home_cell {x : Bd} {n s : Nat} (h : n = 0 + s) (hs : s < 16) : eBd.cell x n = .int .u8 (vget x.home s) := by rw [h]; exact eBd_home_at x s hs
theorem home_ok {x : Bd} {n s : Nat} (h : n = 0 + s) (hs : s < 16) : isK .u8 (eBd.cell x n) = true := by rw [home_cell h hs]; rfl
theorem byL_home {g : Nat → Nat → CV} {a : Fin 16 → Int} (hb : byteOk a) (h : ∀ i, i < 16 → g i 0 = .int .u8 (vget a i)) : byL (toL (eI .u8) 16 g) := by rw [toL_home h]; exact ipL_by hb
theorem cmp_home {g g' : Nat → Nat → CV} {a a' : Fin 16 → Int} (h : ∀ i, i < 16 → g i 0 = .int .u8 (vget a i)) (h' : ∀ i, i < 16 → g' i 0 = .int .u8 (vget a' i)) : cmpI (toL (eI .u8) 16 g) (toL (eI .u8) 16 g') = ipC a a' := by rw [toL_home h, toL_home h']; rfl
def sqOk (s : Int) : Bool := decide (0 ≤ s) && decide (s ≤ 1073741824)
theorem mtime_ok (t : Int) : PureOk Try.prog 126 [(cI .i64).enc t] (cB.enc (vt t)) := by
  refine pure_intro (wd := 1) (Q := mkQ LE0) (by decide) tysOk (q_of LE0_ok) mixed Try.func126 rfl _ (by show 1 ≤ _; decide) _ ?_
  repeat' (first | (apply And.intro <;> intro hc <;> (first | exact Bool.noConfusion hc | (simp only [decide_eq_true_eq, decide_eq_false_iff_not, Bool.not_eq_true', Bool.not_eq_false', beq_iff_eq, beq_eq_false_iff_ne, bne_iff_ne, bne_eq_false_iff_eq, Bool.true_eq_false, Bool.false_eq_true] at hc) | skip)) | (refine And.intro (by first | exact trivial | decide | omega | (dsimp only; omega) | exact fun _ _ => rfl) ?_) | (apply And.intro) | (intro s hs))
  all_goals (refine Done.mk (leF_bool ?_); simp [vt, *])
theorem mseq_ok (t : Int) : PureOk Try.prog 127 [(cI .i64).enc t] (cB.enc (sqOk t)) := by
  refine pure_intro (wd := 1) (Q := mkQ LE0) (by decide) tysOk (q_of LE0_ok) mixed Try.func127 rfl _ (by show 1 ≤ _; decide) _ ?_
  repeat' (first | (apply And.intro <;> intro hc <;> (first | exact Bool.noConfusion hc | (simp only [decide_eq_true_eq, decide_eq_false_iff_not, Bool.not_eq_true', Bool.not_eq_false', beq_iff_eq, beq_eq_false_iff_ne, bne_iff_ne, bne_eq_false_iff_eq, Bool.true_eq_false, Bool.false_eq_true] at hc) | skip)) | (refine And.intro (by first | exact trivial | decide | omega | (dsimp only; omega) | exact fun _ _ => rfl) ?_) | (apply And.intro) | (intro s hs))
  all_goals (refine Done.mk (leF_bool ?_); simp [sqOk, *])
def LMb0 : CsL := (126, some (pureE (AC.cons (cI .i64) AC.nil) (fun _ => True) (fun a => vt a.1) cB.enc)) :: (127, some (pureE (AC.cons (cI .i64) AC.nil) (fun _ => True) (fun a => sqOk a.1) cB.enc)) ::
  (128, some (pureE (AC.cons (cSl (eI .u8) eI_sz) (AC.cons (cSl (eI .u8) eI_sz) AC.nil)) (fun a => byL a.1 ∧ byL a.2.1) (fun a => cmpI a.1 a.2.1) (cI .i64).enc)) :: []
theorem LMb0_ok : AllOk Try.prog LMb0 := ⟨pureE_ok ⟨_, Try.func126, rfl, by kernel_rfl⟩ fun a _ => mtime_ok a.1, pureE_ok ⟨_, Try.func127, rfl, by kernel_rfl⟩ fun a _ => mseq_ok a.1, pureE_ok ⟨_, Try.func128, rfl, by kernel_rfl⟩ fun a h => compare_ok a.1 a.2.1 h.1 h.2, trivial⟩
def bdOk (b : Bd) : Bool := !(ipEq b.place b.home) && sqOk b.seq && vt b.til
def ordOk : Option (Fin 16 → Int) → (Fin 16 → Int) → Bool
  | none, _ => true
  | some h, a => decide (ipC h a < 0)
def bvF : Option (Fin 16 → Int) → List Bd → Bool
  | _, [] => true
  | p, b :: l => bdOk b && ordOk p b.home && bvF (some b.home) l
def bvalid (l : List Bd) : Bool := decide (l.length ≤ 32) && bvF none l
structure bdL (l : List Bd) : Prop where
  b : ∀ b ∈ l, byteOk b.home ∧ byteOk b.place
  n : l.length ≤ 2932031007317
def pvB (l : List Bd) (i : Nat) : Option (Fin 16 → Int) := if i = 0 then none else some (l.getD (i - 1) default).home
theorem memB {L : List Bd} {i : Nat} (h : i < L.length) : L.getD i default ∈ L := by
  rw [List.getD_eq_getElem?_getD, List.getElem?_eq_getElem h]
  exact List.getElem_mem h
theorem bv_step {l : List Bd} {i : Nat} (p : Option (Fin 16 → Int)) (h : i < l.length) : bvF p (l.drop i) = (bdOk (l.getD i default) && ordOk p (l.getD i default).home && bvF (pvB l (i + 1)) (l.drop (i + 1))) := by
  rw [drop_at h, bvF]; simp [pvB]
set_option maxHeartbeats 4000000 in
set_option maxRecDepth 20000 in
theorem mvalid_ok (l : List Bd) (hl : bdL l) : PureOk Try.prog 125 [(cSl eBd eBd_sz).enc l] (cB.enc (bvalid l)) := by
  have hn := hl.n
  refine pure_intro (wd := 1) (Q := mkQ LMb0) (by decide) tysOk (q_of LMb0_ok) mixed Try.func125 rfl _ (by show 1 ≤ _; decide) _ ?_
  repeat' (first | (apply And.intro <;> intro hc <;> (first | exact Bool.noConfusion hc | (simp only [decide_eq_true_eq, decide_eq_false_iff_not, Bool.not_eq_true', Bool.not_eq_false', beq_iff_eq, beq_eq_false_iff_ne, bne_iff_ne, bne_eq_false_iff_eq, Bool.true_eq_false, Bool.false_eq_true] at hc) | skip)) | (refine And.intro (by first | exact trivial | decide | omega | (dsimp only; omega) | exact fun _ _ => rfl) ?_) | (apply And.intro) | (intro s hs))
  · have e : bvalid l = false := by unfold bvalid; rw [decide_eq_false (by omega)]; rfl
    rw [e]
    exact Done.mk (leF_bool rfl)
  have e : bvalid l = bvF none l := by unfold bvalid; rw [decide_eq_true (by omega)]; rfl
  rw [e]
  refine loop_intro (mono_of LMb0_ok) (fun i : {i : Nat // i ≤ l.length ∧ bvF none l = bvF (pvB l i) (l.drop i)} => (⟨[(0, one (.sl false l.length eBd.sz (rowF eBd l))), (8, one (.sl false l.length eBd.sz (rowF eBd l))), (9, one (.int .i64 (l.length : Int))), (10, one (.int .i64 (i.1 : Int)))], [], 10⟩ : Hd)) (fun i => l.length - i.1) (fun _ => rfl) ?_ ⟨0, by omega, rfl⟩ [] ?_
  · rintro ⟨i, hi, hv⟩
    dsimp only at hi hv ⊢
    have hcmp : 0 < (i : Int) → (0 ≤ IntKind.i64.wrap ((i : Int) - 1) ∧ IntKind.i64.wrap ((i : Int) - 1) < (l.length : Int)) ∧ (IntKind.i64.wrap ((i : Int) - 1)).toNat < l.length ∧ pvB l i = some (l.getD (IntKind.i64.wrap ((i : Int) - 1)).toNat default).home := fun h => by
      rw [show IntKind.i64.wrap ((i : Int) - 1) = (i : Int) - 1 from IntWalk.i64_in _ (by omega)]
      exact ⟨⟨by omega, by omega⟩, by omega, by rw [pvB, if_neg (by omega), show ((i : Int) - 1).toNat = i - 1 by omega]⟩
    have hp0 : ¬ 0 < (i : Int) → pvB l i = none := fun h => by rw [pvB, if_pos (by omega)]
    repeat' (first | (apply And.intro <;> intro hc <;> (first | exact Bool.noConfusion hc | (simp only [decide_eq_true_eq, decide_eq_false_iff_not, Bool.not_eq_true', Bool.not_eq_false', beq_iff_eq, beq_eq_false_iff_ne, bne_iff_ne, bne_eq_false_iff_eq, Bool.true_eq_false, Bool.false_eq_true] at hc) | skip)) | (refine And.intro (by first | exact trivial | decide | omega | (dsimp only; omega) | exact fun _ _ => rfl) ?_) | (apply And.intro) | (intro s hs))
    all_goals first
      | exact (hcmp (by assumption)).1.1
      | exact (hcmp (by assumption)).1.2
      | exact home_ok (s := s) (by omega) (by omega)
      | (dsimp only; refine byL_home (hl.b _ (memB (hcmp (by assumption)).2.1)).1 (fun k hk => ?_); exact home_cell (by omega) hk)
      | (dsimp only; refine byL_home (hl.b _ (memB (show i < l.length by omega))).1 (fun k hk => ?_); exact home_cell (by omega) hk)
      | (refine Done.mk (leF_bool ?_)
         have hlt : i < l.length := by omega
         symm
         rw [hv, bv_step _ hlt, Bool.eq_false_iff]
         intro h
         simp only [Bool.and_eq_true, bdOk, Bool.not_eq_true'] at h
         obtain ⟨⟨⟨⟨h1, h2⟩, h3⟩, h4⟩, _⟩ := h
         first
           | (have q : ipEq (l.getD i default).place (l.getD i default).home = true := by assumption
              rw [h1] at q; cases q)
           | (have q : s = sqOk (l.getD i default).seq := hs
              have q2 : s = false := by assumption
              rw [q, h2] at q2; cases q2)
           | (have q : s = vt (l.getD i default).til := hs
              have q2 : s = false := by assumption
              rw [q, h3] at q2; cases q2)
           | (have q2 : 0 < (i : Int) := by assumption
              have q : s = ipC (l.getD (IntKind.i64.wrap ((i : Int) - 1)).toNat default).home (l.getD i default).home := by rw [hs]; dsimp only; refine cmp_home (fun k hk => ?_) (fun k hk => ?_) <;> exact home_cell (by omega) hk
              have q3 : 0 ≤ s := by assumption
              rw [(hcmp q2).2.2] at h4
              simp only [ordOk, decide_eq_true_eq] at h4
              omega))
      | (have hlt : i < l.length := by omega
         have b1 : ipEq (l.getD i default).place (l.getD i default).home = false := by assumption
         have b4 : ordOk (pvB l i) (l.getD i default).home = true := by
           first
             | (rw [hp0 (by assumption)]; rfl)
             | (have q2 : 0 < (i : Int) := by assumption
                have q : s = ipC (l.getD (IntKind.i64.wrap ((i : Int) - 1)).toNat default).home (l.getD i default).home := by rw [hs]; dsimp only; refine cmp_home (fun k hk => ?_) (fun k hk => ?_) <;> exact home_cell (by omega) hk
                have q3 : ¬ 0 ≤ s := by assumption
                rw [(hcmp q2).2.2]
                simp only [ordOk, decide_eq_true_eq]
                omega)
         have b23 : sqOk (l.getD i default).seq = true ∧ vt (l.getD i default).til = true := by
           first
             | (rename_i s1 hs1 c1 c2
                exact ⟨(show _ = s1 from hs1.symm).trans c1, (show _ = s from hs.symm).trans (by assumption)⟩)
             | (rename_i s1 hs1 c1 c2 c3
                exact ⟨(show _ = s1 from hs1.symm).trans c1, (show _ = s from hs.symm).trans c2⟩)
             | (rename_i s1 hs1 c1 s2 hs2 c2 c3
                exact ⟨(show _ = s1 from hs1.symm).trans c1, (show _ = s2 from hs2.symm).trans c2⟩)
         refine ⟨⟨i + 1, by omega, ?_⟩, [], by dsimp only; omega, rfl, ?_, ?_⟩
         · rw [hv, bv_step _ hlt, bdOk, b1, b4, b23.1, b23.2]; rfl
         · repeat' (first | exact trivial | exact rfl | exact leF_ptr rfl | exact leF_int rfl | exact leF_bool rfl | exact leF_cl (cl_slB _ _) | exact leF_cl (cl_slR _ _) | exact leF_cl (cl_ll _ _) | exact leF_c (leC_os rfl rfl) | refine leF_int ?_ | refine leF_bool ?_ | exact leN_varA (fun _ _ => (Elem.flat _ _ _).le) | exact leN_varA (fun _ _ => leC_top) | apply And.intro)
           first | (dsimp only; rw [IntWalk.i64_in _ (by omega)]; omega) | (dsimp only; rw [IntWalk.i64_in _ (by omega)]; done) | (dsimp only; exact IntWalk.i64_in _ (by omega)) | exact IntWalk.i64_in _ (by omega) | (rw [IntWalk.i64_in _ (by omega)]; omega)
         · repeat' (first | exact trivial | exact rfl | exact leF_ptr rfl | exact leF_int rfl | exact leF_bool rfl | exact leF_cl (cl_slB _ _) | exact leF_cl (cl_slR _ _) | exact leF_cl (cl_ll _ _) | exact leF_c (leC_os rfl rfl) | refine leF_int ?_ | refine leF_bool ?_ | exact leN_varA (fun _ _ => (Elem.flat _ _ _).le) | exact leN_varA (fun _ _ => leC_top) | apply And.intro))
      | (refine Done.mk (leF_bool ?_)
         have hil : i = l.length := by omega
         rw [hv, hil, List.drop_length]; rfl)
  · refine ⟨rfl, ?_, ?_⟩
    · repeat' (first | exact trivial | exact rfl | exact leF_ptr rfl | exact leF_int rfl | exact leF_bool rfl | exact leF_cl (cl_slB _ _) | exact leF_cl (cl_slR _ _) | exact leF_cl (cl_ll _ _) | exact leF_c (leC_os rfl rfl) | refine leF_int ?_ | refine leF_bool ?_ | exact leN_varA (fun _ _ => (Elem.flat _ _ _).le) | exact leN_varA (fun _ _ => leC_top) | apply And.intro)
    · repeat' (first | exact trivial | exact rfl | exact leF_ptr rfl | exact leF_int rfl | exact leF_bool rfl | exact leF_cl (cl_slB _ _) | exact leF_cl (cl_slR _ _) | exact leF_cl (cl_ll _ _) | exact leF_c (leC_os rfl rfl) | refine leF_int ?_ | refine leF_bool ?_ | exact leN_varA (fun _ _ => (Elem.flat _ _ _).le) | exact leN_varA (fun _ _ => leC_top) | apply And.intro)
end Go.Proofs.Ytjknkfjhcapocaa.AX
/- Package mobility: Place (by AX2). -/
namespace Go.Proofs.Ytjknkfjhcapocaa.AX
open Go.RowKit
set_option linter.unusedVariables false
set_option linter.unusedSimpArgs false
def LM1 : CsL := (125, some (pureE (AC.cons (cSl eBd eBd_sz) AC.nil) (fun a => bdL a.1) (fun a => bvalid a.1) cB.enc)) :: LMb0
theorem LM1_ok : AllOk Try.prog LM1 := ⟨pureE_ok ⟨_, Try.func125, rfl, by kernel_rfl⟩ fun a h => mvalid_ok a.1 h, LMb0_ok⟩
def ip0 : Fin 16 → Int := fun _ => 0
def findP (now : Int) (home : Fin 16 → Int) : List Bd → (Fin 16 → Int) × Bool
  | [] => (ip0, false)
  | b :: l => if ipEq b.home home = true ∧ now < b.til then (b.place, true) else findP now home l
def placeF (l : List Bd) (now : Int) (home : Fin 16 → Int) : (Fin 16 → Int) × Bool := if bvalid l = true ∧ vt now = true then findP now home l else (ip0, false)
def encPB (r : (Fin 16 → Int) × Bool) : FV := .tup [.agg 16 ((eA .u8 16).cell r.1), .c (.bool r.2)]
set_option maxHeartbeats 4000000 in
set_option maxRecDepth 20000 in
theorem place_ok (l : List Bd) (now : Int) (home : Fin 16 → Int) (hl : bdL l) : PureOk Try.prog 89 [(cSl eBd eBd_sz).enc l, (cI .i64).enc now, (cE (eA .u8 16)).enc home] (encPB (placeF l now home)) := by
  have hn := hl.n
  refine pure_intro (wd := 1) (Q := mkQ LM1) (by decide) tysOk (q_of LM1_ok) mixed Try.func89 rfl _ (by show 3 ≤ _; decide) _ ?_
  repeat' (first | (apply And.intro <;> intro hc <;> (first | exact Bool.noConfusion hc | (simp only [decide_eq_true_eq, decide_eq_false_iff_not, Bool.not_eq_true', Bool.not_eq_false', beq_iff_eq, beq_eq_false_iff_ne, bne_iff_ne, bne_eq_false_iff_eq, Bool.true_eq_false, Bool.false_eq_true, ne_eq, not_true_eq_false] at hc <;> first | exact absurd rfl hc | skip) | skip)) | (refine And.intro (by first | exact trivial | decide | omega | (dsimp only; omega) | exact fun _ _ => rfl | exact ⟨by assumption, by first | exact trivial | decide | omega | (dsimp only; omega)⟩) ?_) | (apply And.intro) | (intro s hs; (first | (have hs' : s = bvalid l := hs.trans (by show bvalid (toL eBd l.length (rowF eBd l)) = _; rw [toL_bd])) | (have hs' : s = vt now := hs)); clear hs; subst hs'))
  · show bdL (toL eBd l.length (rowF eBd l)); rw [toL_bd]; exact hl
  · have e : placeF l now home = (ip0, false) := by simp [placeF, *]
    rw [e]
    refine Done.mk (leF_tup ?_)
    repeat' (first | exact trivial | exact rfl | exact leC_int rfl | exact leC_bool rfl | refine leE_all ?_ | exact leC_bool (by assumption) | apply And.intro)
  · have e : placeF l now home = (ip0, false) := by simp [placeF, *]
    rw [e]
    refine Done.mk (leF_tup ?_)
    repeat' (first | exact trivial | exact rfl | exact leC_int rfl | exact leC_bool rfl | refine leE_all ?_ | exact leC_bool (by assumption) | apply And.intro)
  · have e : placeF l now home = findP now home l := by simp [placeF, *]
    rw [e]
    refine loop_intro (mono_of LM1_ok) (fun i : {i : Nat // i ≤ l.length ∧ findP now home l = findP now home (l.drop i)} => (⟨[(1, one (.int .i64 now)), (5, one (.ptr 0 0 0 false)), (6, one (.ptr 1 0 0 false)), (19, one (.sl false l.length eBd.sz (rowF eBd l))), (20, one (.int .i64 (l.length : Int))), (21, one (.int .i64 (i.1 : Int)))],
      [(0, some ⟨24, 1, 16, true, fun _ => (eA .u8 16).cell home⟩), (1, some ⟨24, 1, 16, true, fun _ _ => .top⟩)], 13⟩ : Hd)) (fun i => l.length - i.1) (fun _ => rfl) ?_ ⟨0, by omega, rfl⟩ [] ?_
    · rintro ⟨i, hi, hv⟩
      dsimp only at hi hv ⊢
      repeat' (first | (apply And.intro <;> intro hc <;> (first | exact Bool.noConfusion hc | (simp only [decide_eq_true_eq, decide_eq_false_iff_not, Bool.not_eq_true', Bool.not_eq_false', beq_iff_eq, beq_eq_false_iff_ne, bne_iff_ne, bne_eq_false_iff_eq, Bool.true_eq_false, Bool.false_eq_true] at hc) | skip)) | (refine And.intro (by first | exact trivial | decide | omega | (dsimp only; omega) | exact fun _ _ => rfl) ?_) | (apply And.intro) | (intro s hs))
      all_goals first
        | (have hlt : i < l.length := by omega
           have h1 : ipEq (l.getD i default).home home = true := by assumption
           have h2 : now < (l.getD i default).til := by assumption
           have e : findP now home l = ((l.getD i default).place, true) := by rw [hv, drop_at hlt, findP, if_pos ⟨h1, h2⟩]
           rw [e]
           refine Done.mk (leF_tup ?_)
           repeat' (first | exact trivial | exact rfl | exact leC_int rfl | exact leC_bool rfl | refine leE_all ?_ | exact leC_bool (by assumption) | apply And.intro))
        | (have hlt : i < l.length := by omega
           have h1 : ¬ (ipEq (l.getD i default).home home = true ∧ now < (l.getD i default).til) := by
             first
               | (have h1 : ipEq (l.getD i default).home home = false := by assumption
                  rw [h1]; simp)
               | (have h2 : ¬ now < (l.getD i default).til := by assumption
                  exact fun h => h2 h.2)
           refine ⟨⟨i + 1, by omega, ?_⟩, [], by dsimp only; omega, rfl, ?_, ?_⟩
           · rw [hv, drop_at hlt, findP, if_neg h1]
           · repeat' (first | exact trivial | exact rfl | exact leF_ptr rfl | exact leF_int rfl | exact leF_bool rfl | exact leF_cl (cl_slB _ _) | exact leF_cl (cl_slR _ _) | exact leF_cl (cl_ll _ _) | exact leF_c (leC_os rfl rfl) | refine leF_int ?_ | refine leF_bool ?_ | exact leN_varA (fun _ _ => (Elem.flat _ _ _).le) | exact leN_varA (fun _ _ => leC_top) | apply And.intro)
             first | (dsimp only; rw [IntWalk.i64_in _ (by omega)]; omega) | (dsimp only; rw [IntWalk.i64_in _ (by omega)]; done) | (dsimp only; exact IntWalk.i64_in _ (by omega)) | exact IntWalk.i64_in _ (by omega) | (rw [IntWalk.i64_in _ (by omega)]; omega)
           · repeat' (first | exact trivial | exact rfl | exact leF_ptr rfl | exact leF_int rfl | exact leF_bool rfl | exact leF_cl (cl_slB _ _) | exact leF_cl (cl_slR _ _) | exact leF_cl (cl_ll _ _) | exact leF_c (leC_os rfl rfl) | refine leF_int ?_ | refine leF_bool ?_ | exact leN_varA (fun _ _ => (Elem.flat _ _ _).le) | exact leN_varA (fun _ _ => leC_top) | apply And.intro))
        | (have hil : i = l.length := by omega
           have e : findP now home l = (ip0, false) := by rw [hv, hil, List.drop_length]; rfl
           rw [e]
           refine Done.mk (leF_tup ?_)
           repeat' (first | exact trivial | exact rfl | exact leC_int rfl | exact leC_bool rfl | refine leE_all ?_ | exact leC_bool (by assumption) | apply And.intro))
    · refine ⟨rfl, ?_, ?_⟩
      · repeat' (first | exact trivial | exact rfl | exact leF_ptr rfl | exact leF_int rfl | exact leF_bool rfl | exact leF_cl (cl_slB _ _) | exact leF_cl (cl_slR _ _) | exact leF_cl (cl_ll _ _) | exact leF_c (leC_os rfl rfl) | refine leF_int ?_ | refine leF_bool ?_ | exact leN_varA (fun _ _ => (Elem.flat _ _ _).le) | exact leN_varA (fun _ _ => leC_top) | apply And.intro)
      · repeat' (first | exact trivial | exact rfl | exact leF_ptr rfl | exact leF_int rfl | exact leF_bool rfl | exact leF_cl (cl_slB _ _) | exact leF_cl (cl_slR _ _) | exact leF_cl (cl_ll _ _) | exact leF_c (leC_os rfl rfl) | refine leF_int ?_ | refine leF_bool ?_ | exact leN_varA (fun _ _ => (Elem.flat _ _ _).le) | exact leN_varA (fun _ _ => leC_top) | apply And.intro)
end Go.Proofs.Ytjknkfjhcapocaa.AX
/- Package mobility: Bind (by AX2). -/

namespace Go.Proofs.Ytjknkfjhcapocaa.AX
open Go.RowKit
set_option linter.unusedVariables false
set_option linter.unusedSimpArgs false
def bindL (now : Int) (b : Bd) : Bool → List Bd → Option (List Bd)
  | placed, [] => some (if placed = true then [] else [b])
  | placed, d :: l =>
    if ipEq d.home b.home = true then (if b.seq ≤ d.seq then none else (bindL now b true l).map ([b] ++ ·))
    else if d.til ≤ now then bindL now b placed l
    else if placed = false ∧ ipC b.home d.home < 0 then (bindL now b true l).map ([b, d] ++ ·)
    else (bindL now b placed l).map ([d] ++ ·)
def minT (now life : Int) : Int := if 1099511627776 < now + life then 1099511627776 else now + life
def bindE (r : Option (List Bd)) : List Bd × Int :=
  match r with
  | none => ([], 16)
  | some out => if out.length ≤ 32 then (out, 0) else ([], 10)
def bindF (l : List Bd) (now : Int) (b : Bd) (life : Int) : List Bd × Int :=
  if bvalid l = true ∧ ipEq b.place b.home = false then
    if vt now = true ∧ sqOk b.seq = true ∧ 0 ≤ life ∧ life ≤ 60 then bindE (bindL now { b with til := minT now life } false l) else ([], 2)
  else ([], 1)
def encBE (r : List Bd × Int) : FV := .tup [.c (slR eBd r.1), .c (.int .i64 r.2)]
theorem map_app {o : Option (List Bd)} {a b : List Bd} : (o.map (b ++ ·)).map (a ++ ·) = o.map ((a ++ b) ++ ·) := by cases o <;> simp
theorem map_nil {o : Option (List Bd)} : o.map (([] : List Bd) ++ ·) = o := by cases o <;> simp
structure BdS (l : List Bd) (b : Bd) (now : Int) where
  i : Nat
  out : List Bd
  placed : Bool
  hi : i ≤ l.length
  hn : out.length ≤ 2 * i
  h : bindL now b false l = (bindL now b placed (l.drop i)).map (out ++ ·)
theorem bv_len {l : List Bd} (h : bvalid l = true) : l.length ≤ 32 := by
  unfold bvalid at h
  simp only [Bool.and_eq_true, decide_eq_true_eq] at h
  exact h.1
set_option maxHeartbeats 8000000 in
set_option maxRecDepth 20000 in
theorem bind_ok (l : List Bd) (now : Int) (b : Bd) (life : Int) (hl : bdL l) (hb : byteOk b.home) (hlife : -9223372036854775808 ≤ life ∧ life ≤ 9223372036854775807) : PureOk Try.prog 88 [(cSl eBd eBd_sz).enc l, (cI .i64).enc now, (cE eBd).enc b, (cI .i64).enc life] (encBE (bindF l now b life)) := by
  have hn := hl.n
  refine pure_intro (wd := 1) (Q := mkQ LM1) (by decide) tysOk (q_of LM1_ok) mixed Try.func88 rfl _ (by show 4 ≤ _; decide) _ ?_
  repeat' (first | (apply And.intro <;> intro hc <;> (first | exact Bool.noConfusion hc | (simp only [decide_eq_true_eq, decide_eq_false_iff_not, Bool.not_eq_true', Bool.not_eq_false', beq_iff_eq, beq_eq_false_iff_ne, bne_iff_ne, bne_eq_false_iff_eq, Bool.true_eq_false, Bool.false_eq_true, ne_eq, not_true_eq_false] at hc <;> first | exact absurd rfl hc | skip) | skip)) | (refine And.intro (by first | exact trivial | decide | omega | (dsimp only; omega) | exact fun _ _ => rfl | exact ⟨by assumption, by first | exact trivial | decide | omega | (dsimp only; omega)⟩) ?_) | (apply And.intro) | (intro s hs; (first | (have hs' : s = bvalid l := hs.trans (by show bvalid (toL eBd l.length (rowF eBd l)) = _; rw [toL_bd])) | (have hs' : s = vt now := hs) | (have hs' : s = sqOk b.seq := hs)); clear hs; subst hs'))
  all_goals first
    | (show bdL (toL eBd l.length (rowF eBd l)); rw [toL_bd]; exact hl)
    | (have e : bindF l now b life = ([], 1) := by
         first
           | (have h1 : bvalid l = false := by assumption
              simp [bindF, h1])
           | (have h1 : ipEq b.place b.home = true := by assumption
              simp [bindF, h1])
       rw [e]
       exact Done.mk (leF_tup ⟨leC_nils_sl rfl, leC_int rfl, trivial⟩))
    | (have e : bindF l now b life = ([], 2) := by
         have h0 : ipEq b.place b.home = false := by assumption
         have h1 : bvalid l = true := by assumption
         rw [bindF, if_pos ⟨h1, h0⟩, if_neg]
         rintro ⟨g1, g2, g3, g4⟩
         first
           | omega
           | (have q : vt now = false := by assumption
              rw [g1] at q; cases q)
           | (have q : sqOk b.seq = false := by assumption
              rw [g2] at q; cases q)
       rw [e]
       exact Done.mk (leF_tup ⟨leC_nils_sl rfl, leC_int rfl, trivial⟩))
    | skip
  have h0 : ipEq b.place b.home = false := by assumption
  have h1 : bvalid l = true := by assumption
  have h2 : vt now = true := by assumption
  have h3 : sqOk b.seq = true := by assumption
  have h4 : ¬ life < 0 := by assumption
  have h5 : ¬ 60 < life := by assumption
  have hvt : 0 ≤ now ∧ now ≤ 1099511627776 := by
    unfold vt at h2
    simp only [Bool.and_eq_true, decide_eq_true_eq] at h2
    exact h2
  have h32 := bv_len h1
  have e : bindF l now b life = bindE (bindL now { b with til := minT now life } false l) := by
    rw [bindF, if_pos ⟨h1, h0⟩, if_pos ⟨h2, h3, by omega, by omega⟩]
  rw [e]
  have et : (if 1099511627776 < IntKind.i64.wrap (now + life) then 1099511627776 else IntKind.i64.wrap (now + life)) = minT now life := by
    rw [IntWalk.i64_in _ (by omega)]; rfl
  generalize hb' : ({ b with til := minT now life } : Bd) = b'
  have b1 : b'.home = b.home := by rw [← hb']
  have hb2 : byteOk b'.home := by rw [b1]; exact hb
  clear h0 h1 h2 h3
  refine loop_intro (mono_of LM1_ok) (fun s : BdS l b' now => (⟨[(0, one (.sl false l.length eBd.sz (rowF eBd l))), (1, one (.int .i64 now)), (6, one (.ptr 0 0 0 false)), (10, one (.os 7 0 s.out.length)), (11, one (.bool s.placed)), (46, one (.sl false l.length eBd.sz (rowF eBd l))), (47, one (.int .i64 (l.length : Int))), (48, one (.int .i64 (s.i : Int)))],
    [(0, some ⟨128, 1, 34, true, fun _ => eBd.cell b'⟩), (7, some (ents eBd 128 s.out))], 45⟩ : Hd)) (fun s => l.length - s.i) (fun _ => rfl) ?_ ⟨0, [], false, by omega, by simp, map_nil.symm⟩ [(7, none)] ?_
  · rintro ⟨i, out, placed, hi, hno, hv⟩
    dsimp only at hi hno hv ⊢
    clear et hb' b1 e
    repeat' (first | (apply And.intro <;> intro hc <;> (first | exact Bool.noConfusion hc | (simp only [decide_eq_true_eq, decide_eq_false_iff_not, Bool.not_eq_true', Bool.not_eq_false', beq_iff_eq, beq_eq_false_iff_ne, bne_iff_ne, bne_eq_false_iff_eq, Bool.true_eq_false, Bool.false_eq_true] at hc) | skip)) | (refine And.intro (by first | exact trivial | decide | omega | (dsimp only; omega) | exact fun _ _ => rfl) ?_) | (apply And.intro) | (intro s hs))
    all_goals first
      | exact home_ok (s := s) (by omega) (by omega)
      | (dsimp only; refine byL_home hb2 (fun k hk => ?_); exact home_cell (by omega) hk)
      | (dsimp only; refine byL_home (hl.b _ (memB (show i < l.length by omega))).1 (fun k hk => ?_); exact home_cell (by omega) hk)
      | (have hlt : i < l.length := by omega
         have hE : ipEq (l.getD i default).home b'.home = true := by assumption
         first
           | (have hG : b'.seq ≤ (l.getD i default).seq := by assumption
              have e : bindL now b' false l = none := by rw [hv, drop_at hlt, bindL, if_pos hE, if_pos hG]; rfl
              rw [e]
              exact Done.mk (leF_tup ⟨leC_nils_sl rfl, leC_int rfl, trivial⟩))
           | (have hG : ¬ b'.seq ≤ (l.getD i default).seq := by assumption
              refine ⟨⟨i + 1, out ++ [b'], true, by omega, by simp; omega, ?_⟩, [(7, some 63)], by dsimp only; omega, rfl, ?_, ?_⟩
              · rw [hv, drop_at hlt, bindL, if_pos hE, if_neg hG, map_app]
              · repeat' (first | exact trivial | exact rfl | exact leF_ptr rfl | exact leF_int rfl | exact leF_bool rfl | exact leF_cl (cl_slB _ _) | exact leF_cl (cl_slR _ _) | exact leF_cl (cl_ll _ _) | exact leF_c (leC_os rfl rfl) | refine leF_int ?_ | refine leF_bool ?_ | exact leN_varA (fun _ _ => (Elem.flat _ _ _).le) | exact leN_varA (fun _ _ => leC_top) | apply And.intro)
                · exact leF_c (leC_os rfl (by simp))
                · first | (dsimp only; rw [IntWalk.i64_in _ (by omega)]; omega) | (dsimp only; rw [IntWalk.i64_in _ (by omega)]; done) | (dsimp only; exact IntWalk.i64_in _ (by omega)) | exact IntWalk.i64_in _ (by omega) | (rw [IntWalk.i64_in _ (by omega)]; omega)
              · repeat' (first | exact trivial | exact rfl | exact leF_ptr rfl | exact leF_int rfl | exact leF_bool rfl | exact leF_cl (cl_slB _ _) | exact leF_cl (cl_slR _ _) | exact leF_cl (cl_ll _ _) | exact leF_c (leC_os rfl rfl) | refine leF_int ?_ | refine leF_bool ?_ | exact leN_varA (fun _ _ => (Elem.flat _ _ _).le) | exact leN_varA (fun _ _ => leC_top) | apply And.intro)
                (change LeN _ _ _; refine leN_snoc (E := eBd) (L := out) (x := b') rfl (fun i hi j hj => selC_in (Nat.ble_eq_true_of_le hi) (Elem.flat _ _ _).le) ?_; repeat' (first | exact trivial | (refine selC_out (blt_self _) ?_; rw [Nat.sub_self]; first | exact leC_int rfl | exact leC_bool rfl | exact leC_bool (by assumption)) | apply And.intro))))
      | (have hlt : i < l.length := by omega
         have hE : ¬ ipEq (l.getD i default).home b'.home = true := by
           have q : ipEq (l.getD i default).home b'.home = false := by assumption
           rw [q]; decide
         first
           | (have hT : (l.getD i default).til ≤ now := by assumption
              refine ⟨⟨i + 1, out, placed, by omega, by omega, ?_⟩, [], by dsimp only; omega, rfl, ?_, ?_⟩
              · rw [hv, drop_at hlt, bindL, if_neg hE, if_pos hT]
              · repeat' (first | exact trivial | exact rfl | exact leF_ptr rfl | exact leF_int rfl | exact leF_bool rfl | exact leF_cl (cl_slB _ _) | exact leF_cl (cl_slR _ _) | exact leF_cl (cl_ll _ _) | exact leF_c (leC_os rfl rfl) | refine leF_int ?_ | refine leF_bool ?_ | exact leN_varA (fun _ _ => (Elem.flat _ _ _).le) | exact leN_varA (fun _ _ => leC_top) | apply And.intro)
                first | (dsimp only; rw [IntWalk.i64_in _ (by omega)]; omega) | (dsimp only; rw [IntWalk.i64_in _ (by omega)]; done) | (dsimp only; exact IntWalk.i64_in _ (by omega)) | exact IntWalk.i64_in _ (by omega) | (rw [IntWalk.i64_in _ (by omega)]; omega)
              · repeat' (first | exact trivial | exact rfl | exact leF_ptr rfl | exact leF_int rfl | exact leF_bool rfl | exact leF_cl (cl_slB _ _) | exact leF_cl (cl_slR _ _) | exact leF_cl (cl_ll _ _) | exact leF_c (leC_os rfl rfl) | refine leF_int ?_ | refine leF_bool ?_ | exact leN_varA (fun _ _ => (Elem.flat _ _ _).le) | exact leN_varA (fun _ _ => leC_top) | apply And.intro)
                exact leN_ents)
           | (have hT : ¬ (l.getD i default).til ≤ now := by assumption
              first
                | (have hP : placed = false := by assumption
                   have q : s = ipC b'.home (l.getD i default).home := by rw [hs]; dsimp only; refine cmp_home (fun k hk => ?_) (fun k hk => ?_) <;> exact home_cell (by omega) hk
                   first
                     | (have hC : s < 0 := by assumption
                        refine ⟨⟨i + 1, out ++ [b', l.getD i default], true, by omega, by simp; omega, ?_⟩, [(7, some 78)], by dsimp only; omega, rfl, ?_, ?_⟩
                        · rw [hv, drop_at hlt, bindL, if_neg hE, if_neg hT, if_pos ⟨hP, by omega⟩, map_app]
                        · repeat' (first | exact trivial | exact rfl | exact leF_ptr rfl | exact leF_int rfl | exact leF_bool rfl | exact leF_cl (cl_slB _ _) | exact leF_cl (cl_slR _ _) | exact leF_cl (cl_ll _ _) | exact leF_c (leC_os rfl rfl) | refine leF_int ?_ | refine leF_bool ?_ | exact leN_varA (fun _ _ => (Elem.flat _ _ _).le) | exact leN_varA (fun _ _ => leC_top) | apply And.intro)
                          · exact leF_c (leC_os rfl (by simp))
                          · first | (dsimp only; rw [IntWalk.i64_in _ (by omega)]; omega) | (dsimp only; rw [IntWalk.i64_in _ (by omega)]; done) | (dsimp only; exact IntWalk.i64_in _ (by omega)) | exact IntWalk.i64_in _ (by omega) | (rw [IntWalk.i64_in _ (by omega)]; omega)
                        · repeat' (first | exact trivial | exact rfl | exact leF_ptr rfl | exact leF_int rfl | exact leF_bool rfl | exact leF_cl (cl_slB _ _) | exact leF_cl (cl_slR _ _) | exact leF_cl (cl_ll _ _) | exact leF_c (leC_os rfl rfl) | refine leF_int ?_ | refine leF_bool ?_ | exact leN_varA (fun _ _ => (Elem.flat _ _ _).le) | exact leN_varA (fun _ _ => leC_top) | apply And.intro)
                          change LeN _ _ _
                          refine leN_snoc2 (E := eBd) (L := out) (x := b') (y := l.getD i default) rfl (fun q hq j hj => selC_in (blt_lt (by omega)) (selC_in (blt_lt hq) (Elem.flat _ _ _).le)) ?_ ?_
                          · repeat' (first | exact trivial | (refine selC_in (blt_lt (by omega)) (selC_out (blt_self _) ?_); rw [Nat.sub_self]; exact leC_int rfl) | apply And.intro)
                          · repeat' (first | exact trivial | (refine selC_out (blt_self _) ?_; rw [Nat.sub_self]; exact leC_int rfl) | apply And.intro))
                     | (have hC : ¬ s < 0 := by assumption
                        refine ⟨⟨i + 1, out ++ [l.getD i default], placed, by omega, by simp; omega, ?_⟩, [(7, some 72)], by dsimp only; omega, rfl, ?_, ?_⟩
                        · rw [hv, drop_at hlt, bindL, if_neg hE, if_neg hT, if_neg (fun h => hC (by omega)), map_app]
                        · repeat' (first | exact trivial | exact rfl | exact leF_ptr rfl | exact leF_int rfl | exact leF_bool rfl | exact leF_cl (cl_slB _ _) | exact leF_cl (cl_slR _ _) | exact leF_cl (cl_ll _ _) | exact leF_c (leC_os rfl rfl) | refine leF_int ?_ | refine leF_bool ?_ | exact leN_varA (fun _ _ => (Elem.flat _ _ _).le) | exact leN_varA (fun _ _ => leC_top) | apply And.intro)
                          · exact leF_c (leC_os rfl (by simp))
                          · first | (dsimp only; rw [IntWalk.i64_in _ (by omega)]; omega) | (dsimp only; rw [IntWalk.i64_in _ (by omega)]; done) | (dsimp only; exact IntWalk.i64_in _ (by omega)) | exact IntWalk.i64_in _ (by omega) | (rw [IntWalk.i64_in _ (by omega)]; omega)
                        · repeat' (first | exact trivial | exact rfl | exact leF_ptr rfl | exact leF_int rfl | exact leF_bool rfl | exact leF_cl (cl_slB _ _) | exact leF_cl (cl_slR _ _) | exact leF_cl (cl_ll _ _) | exact leF_c (leC_os rfl rfl) | refine leF_int ?_ | refine leF_bool ?_ | exact leN_varA (fun _ _ => (Elem.flat _ _ _).le) | exact leN_varA (fun _ _ => leC_top) | apply And.intro)
                          (change LeN _ _ _; refine leN_snoc (E := eBd) (L := out) (x := l.getD i default) rfl (fun i hi j hj => selC_in (Nat.ble_eq_true_of_le hi) (Elem.flat _ _ _).le) ?_; repeat' (first | exact trivial | (refine selC_out (blt_self _) ?_; rw [Nat.sub_self]; first | exact leC_int rfl | exact leC_bool rfl | exact leC_bool (by assumption)) | apply And.intro))))
                | (have hP : placed = true := by assumption
                   refine ⟨⟨i + 1, out ++ [l.getD i default], placed, by omega, by simp; omega, ?_⟩, [(7, some 72)], by dsimp only; omega, rfl, ?_, ?_⟩
                   · rw [hv, drop_at hlt, bindL, if_neg hE, if_neg hT, if_neg (fun h => by rw [hP] at h; cases h.1), map_app]
                   · repeat' (first | exact trivial | exact rfl | exact leF_ptr rfl | exact leF_int rfl | exact leF_bool rfl | exact leF_cl (cl_slB _ _) | exact leF_cl (cl_slR _ _) | exact leF_cl (cl_ll _ _) | exact leF_c (leC_os rfl rfl) | refine leF_int ?_ | refine leF_bool ?_ | exact leN_varA (fun _ _ => (Elem.flat _ _ _).le) | exact leN_varA (fun _ _ => leC_top) | apply And.intro)
                     · exact leF_c (leC_os rfl (by simp))
                     · first | (dsimp only; rw [IntWalk.i64_in _ (by omega)]; omega) | (dsimp only; rw [IntWalk.i64_in _ (by omega)]; done) | (dsimp only; exact IntWalk.i64_in _ (by omega)) | exact IntWalk.i64_in _ (by omega) | (rw [IntWalk.i64_in _ (by omega)]; omega)
                   · repeat' (first | exact trivial | exact rfl | exact leF_ptr rfl | exact leF_int rfl | exact leF_bool rfl | exact leF_cl (cl_slB _ _) | exact leF_cl (cl_slR _ _) | exact leF_cl (cl_ll _ _) | exact leF_c (leC_os rfl rfl) | refine leF_int ?_ | refine leF_bool ?_ | exact leN_varA (fun _ _ => (Elem.flat _ _ _).le) | exact leN_varA (fun _ _ => leC_top) | apply And.intro)
                     (change LeN _ _ _; refine leN_snoc (E := eBd) (L := out) (x := l.getD i default) rfl (fun i hi j hj => selC_in (Nat.ble_eq_true_of_le hi) (Elem.flat _ _ _).le) ?_; repeat' (first | exact trivial | (refine selC_out (blt_self _) ?_; rw [Nat.sub_self]; first | exact leC_int rfl | exact leC_bool rfl | exact leC_bool (by assumption)) | apply And.intro)))))
      | (have hil : i = l.length := by omega
         first
           | (have hP : placed = false := by assumption
              have e : bindL now b' false l = some (out ++ [b']) := by rw [hv, hil, List.drop_length, bindL, hP]; rfl
              rw [e]
              first
                | (have hF : (32 : Int) < ((out.length + 1 : Nat) : Int) := by assumption
                   rw [show bindE (some (out ++ [b'])) = ([], 10) from if_neg (by simp; omega)]
                   exact Done.mk (leF_tup ⟨leC_nils_sl rfl, leC_int rfl, trivial⟩))
                | (have hF : ¬ (32 : Int) < ((out.length + 1 : Nat) : Int) := by assumption
                   rw [show bindE (some (out ++ [b'])) = (out ++ [b'], 0) from if_pos (by simp; omega)]
                   refine Done.mk (leF_tup ⟨leC_fin (t := 128) rfl rfl (by simp) ?_, leC_int rfl, trivial⟩)
                   (change LeN _ _ _; refine leN_snoc (E := eBd) (L := out) (x := b') rfl (fun i hi j hj => selC_in (Nat.ble_eq_true_of_le hi) (Elem.flat _ _ _).le) ?_; repeat' (first | exact trivial | (refine selC_out (blt_self _) ?_; rw [Nat.sub_self]; first | exact leC_int rfl | exact leC_bool rfl | exact leC_bool (by assumption)) | apply And.intro))))
           | (have hP : placed = true := by assumption
              have e : bindL now b' false l = some out := by rw [hv, hil, List.drop_length, bindL, hP]; simp
              rw [e]
              first
                | (have hF : (32 : Int) < (out.length : Int) := by assumption
                   rw [show bindE (some out) = ([], 10) from if_neg (by omega)]
                   exact Done.mk (leF_tup ⟨leC_nils_sl rfl, leC_int rfl, trivial⟩))
                | (have hF : ¬ (32 : Int) < (out.length : Int) := by assumption
                   rw [show bindE (some out) = (out, 0) from if_pos (by omega)]
                   exact Done.mk (leF_tup ⟨leC_row_fin rfl rfl, leC_int rfl, trivial⟩))))
  · refine ⟨rfl, ?_, ?_⟩
    · repeat' (first | exact trivial | exact rfl | exact leF_ptr rfl | exact leF_int rfl | exact leF_bool rfl | exact leF_cl (cl_slB _ _) | exact leF_cl (cl_slR _ _) | exact leF_cl (cl_ll _ _) | exact leF_c (leC_os rfl rfl) | refine leF_int ?_ | refine leF_bool ?_ | exact leN_varA (fun _ _ => (Elem.flat _ _ _).le) | exact leN_varA (fun _ _ => leC_top) | apply And.intro)
      exact leF_c (leC_nils_os rfl)
    · repeat' (first | exact trivial | exact rfl | exact leF_ptr rfl | exact leF_int rfl | exact leF_bool rfl | exact leF_cl (cl_slB _ _) | exact leF_cl (cl_slR _ _) | exact leF_cl (cl_ll _ _) | exact leF_c (leC_os rfl rfl) | refine leF_int ?_ | refine leF_bool ?_ | exact leN_varA (fun _ _ => (Elem.flat _ _ _).le) | exact leN_varA (fun _ _ => leC_top) | apply And.intro)
      · subst hb'
        refine leN_var ?_
        repeat' (first | exact trivial | exact leC_int rfl | exact leC_int et | apply And.intro)
      · exact eBd_sz
end Go.Proofs.Ytjknkfjhcapocaa.AX
/- multihopworld.IP (by AX2). -/
namespace Go.Proofs.Ytjknkfjhcapocaa.AX
open Go.RowKit
set_option linter.unusedVariables false
set_option linter.unusedSimpArgs false
def wipA (x y z : Int) : Fin 16 → Int := fun q => if q.1 = 0 then 32 else if q.1 = 1 then 1 else if q.1 = 2 then 13 else if q.1 = 3 then 184 else if q.1 = 5 then x else if q.1 = 6 then y else if q.1 = 15 then z else 0
theorem wipA_ok {x y z : Int} (hx : 0 ≤ x ∧ x < 256) (hy : 0 ≤ y ∧ y < 256) (hz : 0 ≤ z ∧ z < 256) : byteOk (wipA x y z) := ⟨fun q => by
  unfold wipA
  repeat' split
  all_goals omega⟩
theorem wip_prop {x y z v : Int} {i : Nat} : vget (setV (wipA x y z) i v) 2 = 13 ∨ vget (setV (wipA x y z) i v) 3 = 184 := by
  rw [vget_lt _ (show 2 < 16 by omega), vget_lt _ (show 3 < 16 by omega)]
  by_cases h : i = 2
  · right; simp [setV, wipA, h]
  · left; simp only [setV]; rw [if_neg (show ¬ (2 : Nat) = i by omega)]; simp [wipA]
theorem rng_bif {b : Bool} {x y : Int} (hx : 0 ≤ x ∧ x < 256) (hy : 0 ≤ y ∧ y < 256) : 0 ≤ (bif b then x else y) ∧ (bif b then x else y) < 256 := by cases b <;> assumption
theorem byteOk_rd {g : Nat → CV} (h : allLt 16 fun j => 0 ≤ valI (g j) ∧ valI (g j) < 256) : byteOk ((eA .u8 16).rd g) := ⟨fun q => allLt_at h q.1 q.2⟩
theorem fin_rd {H : Hp} {g : Nat → CV} {S : (Fin 16 → Int) → Prop} {n : Nat} {l : List Int} {q' : Int} (hok : (eA .u8 16).ok g = true) (hS : S ((eA .u8 16).rd g)) (ht : TapeOk n (rI l) q') (hH : hget H 0 = some (tapeN n (rI l) q')) :
    ∃ r : (Fin 16 → Int) × Int, (S r.1 ∧ TapeOk n (rI l) r.2) ∧ FinM ((cE (eA .u8 16)).enc r.1) (tapeN n (rI l) r.2) (.e (.agg 16 g)) H := by
  refine ⟨((eA .u8 16).rd g, q'), ⟨hS, ht⟩, ⟨leF_e (leE_rd (E := eA .u8 16) hok), ?_⟩⟩
  unfold WkE
  simp only [hH]
  exact tapeN_le
set_option maxHeartbeats 4000000 in
set_option maxRecDepth 10000 in
theorem wip_ok (n : Nat) (l : List Int) (q : Int) (ht : TapeOk n (rI l) q) :
    ∃ (r : Fin 16 → Int) (q' : Int), (byteOk r ∧ (vget r 2 = 13 ∨ vget r 3 = 184)) ∧ TapeOk n (rI l) q' ∧ MethOk Try.prog 50 [] (tapeN n (rI l) q) ((cE (eA .u8 16)).enc r) (tapeN n (rI l) q') := by
  refine tape_intro (wd := 1) (Q := mkQ LT1) (by decide) tysOk (q_of LT1_ok) mixed Try.func50 rfl _ (by show 0 + 1 ≤ _; decide) (nff_elem (eA .u8 16)) ?_
  repeat' (first | (apply And.intro <;> intro hc <;> (first | exact Bool.noConfusion hc | (simp only [decide_eq_true_eq, decide_eq_false_iff_not, Bool.not_eq_true', Bool.not_eq_false', beq_iff_eq, beq_eq_false_iff_ne, bne_iff_ne, bne_eq_false_iff_eq, Bool.true_eq_false, Bool.false_eq_true] at hc) | skip)) | (refine And.intro (by first | exact trivial | decide | omega | (dsimp only; omega) | exact fun _ _ => rfl | exact ⟨by assumption, by first | exact trivial | decide | omega | (dsimp only; omega)⟩) ?_) | (apply And.intro) | (intro s hs))
  · rename_i s4 h4
    have h4' : 0 ≤ s4 ∧ s4 < 16 := h4
    show 1 ≤ 16 - (0 + s4.toNat * 1)
    omega
  · rename_i s4 h4 q5 hq5 s5 h5
    have h5' : 0 ≤ s5 ∧ s5 < 8 := h5
    rw [IntWalk.u64_in _ (by omega)]
    omega
  · rename_i s4 h4 q5 hq5 s5 h5
    have h4' : 0 ≤ s4 ∧ s4 < 16 := h4
    show 0 + s4.toNat * 1 + 1 ≤ 16
    omega
  · rename_i s1 h1 q1 hq1 s2 h2 q2 hq2 s3 h3 q3 hq3 sb hb q4 hq4 s4 h4 q5 hq5 s5 h5
    refine fin_rd (S := fun r => byteOk r ∧ (vget r 2 = 13 ∨ vget r 3 = 184)) rfl (And.intro (byteOk_rd ?_) ?_) (by assumption) rfl
    · repeat' (first | exact trivial | exact rng_bif (u8r _) (show 0 ≤ (0 : Int) ∧ (0 : Int) < 256 by decide) | exact rng_bif (u8r _) (show 0 ≤ (32 : Int) ∧ (32 : Int) < 256 by decide) | exact rng_bif (u8r _) (show 0 ≤ (1 : Int) ∧ (1 : Int) < 256 by decide) | exact rng_bif (u8r _) (show 0 ≤ (13 : Int) ∧ (13 : Int) < 256 by decide) | exact rng_bif (u8r _) (show 0 ≤ (184 : Int) ∧ (184 : Int) < 256 by decide) | exact rng_bif (u8r _) (u8r _) | apply And.intro)
    · show (bif Nat.ble (0 + s4.toNat * 1) 2 && Nat.blt 2 (0 + s4.toNat * 1 + 1) then _ else (13 : Int)) = 13 ∨ (bif Nat.ble (0 + s4.toNat * 1) 3 && Nat.blt 3 (0 + s4.toNat * 1 + 1) then _ else (184 : Int)) = 184
      by_cases h : s4.toNat = 2
      · right; rw [rng_out (by omega)]; rfl
      · left; rw [rng_out (by omega)]; rfl
  · rename_i s1 h1 q1 hq1 s2 h2 q2 hq2 s3 h3 q3 hq3 sb hb
    refine ⟨(wipA (IntKind.u8.wrap s1) (IntKind.u8.wrap s2) (IntKind.u8.wrap s3), _), ⟨⟨wipA_ok (u8r _) (u8r _) (u8r _), .inl rfl⟩, by assumption⟩, ⟨leF_e (leE_all ?_), tapeN_le⟩⟩
    repeat' (first | exact trivial | exact leC_int rfl | apply And.intro)
abbrev wipE : Entry := tapeE AC.nil (fun _ => True) (fun a (r : Fin 16 → Int) => byteOk r ∧ (vget r 2 = 13 ∨ vget r 3 = 184)) (cE (eA .u8 16)).enc
end Go.Proofs.Ytjknkfjhcapocaa.AX
/- The laws of layer 36: contracts, known (by AX2). -/

namespace Go.Proofs.Ytjknkfjhcapocaa.AX
open Go.RowKit
set_option linter.unusedVariables false
set_option linter.unusedSimpArgs false
def LM2 : CsL := (88, some (pureE (AC.cons (cSl eBd eBd_sz) (AC.cons (cI .i64) (AC.cons (cE eBd) (AC.cons (cI .i64) AC.nil)))) (fun a => (bdL a.1 ∧ byteOk a.2.2.1.home) ∧ (-9223372036854775808 ≤ a.2.2.2.1 ∧ a.2.2.2.1 ≤ 9223372036854775807)) (fun a => bindF a.1 a.2.1 a.2.2.1 a.2.2.2.1) encBE)) ::
  (89, some (pureE (AC.cons (cSl eBd eBd_sz) (AC.cons (cI .i64) (AC.cons (cE (eA .u8 16)) AC.nil))) (fun a => bdL a.1) (fun a => placeF a.1 a.2.1 a.2.2.1) encPB)) :: LM1
theorem LM2_ok : AllOk Try.prog LM2 := ⟨pureE_ok ⟨_, Try.func88, rfl, by kernel_rfl⟩ fun a h => bind_ok a.1 a.2.1 a.2.2.1 a.2.2.2.1 h.1.1 h.1.2 h.2, pureE_ok ⟨_, Try.func89, rfl, by kernel_rfl⟩ fun a h => place_ok a.1 a.2.1 a.2.2.1 h, LM1_ok⟩
def LM3 : CsL := LM2 ++ ((50, some wipE) :: (33, some newTapeE) :: LT1)
theorem LM3_ok : AllOk Try.prog LM3 := append_ok LM2_ok ⟨tapeE_ok ⟨_, Try.func50, rfl, by kernel_rfl⟩ fun n l q a ht hp => wip_ok n l q ht, newTapeE_ok, LT1_ok⟩
def ip1 (n : Int) : Fin 16 → Int := fun q => if q.1 = 0 then n else 0
theorem ip1_ok {n : Int} (h : 0 ≤ n ∧ n < 256) : byteOk (ip1 n) := ⟨fun q => by unfold ip1; split <;> omega⟩
theorem bd_rd {g : Nat → CV} {a r : Fin 16 → Int} {s t : Int} (h1 : ∀ q, q < 16 → g (0 + q) = .int .u8 (vget a q)) (h2 : ∀ q, q < 16 → g (16 + q) = .int .u8 (vget r q)) (h3 : g 32 = .int .i64 s) (h4 : g 33 = .int .i64 t) : eBd.rd g = ⟨a, r, s, t⟩ := by
  show (⟨fun q => valI (g (0 + q.1)), fun q => valI (g (16 + q.1)), valI (g 32), valI (g 33)⟩ : Bd) = _
  have e1 : (fun q : Fin 16 => valI (g (0 + q.1))) = a := by funext q; rw [h1 q.1 q.2]; exact vget_lt _ q.2
  have e2 : (fun q : Fin 16 => valI (g (16 + q.1))) = r := by funext q; rw [h2 q.1 q.2]; exact vget_lt _ q.2
  rw [e1, e2, h3, h4]; rfl
theorem ip_rd {g : Nat → CV} {a : Fin 16 → Int} (h1 : ∀ q, q < 16 → g q = .int .u8 (vget a q)) : (eA .u8 16).rd g = a := by
  funext q
  show valI (g q.1) = _
  rw [h1 q.1 q.2]; exact vget_lt _ q.2
theorem bind_congr {l l' : List Bd} {now life : Int} {b b' : Bd} (h1 : l = l') (h2 : b = b') : bindF l now b life = bindF l' now b' life := by rw [h1, h2]
theorem place_congr {l l' : List Bd} {now : Int} {a a' : Fin 16 → Int} (h1 : l = l') (h2 : a = a') : placeF l now a = placeF l' now a' := by rw [h1, h2]
def kB1 : Bd := ⟨ip1 1, ip1 2, 4, 0⟩
def kB2 : Bd := ⟨ip1 1, ip1 3, 4, 0⟩
def kl : List Bd × Int := bindF [] 5 kB1 10
def kf : List Bd × Int := bindF kl.1 6 kB2 10
def kp : (Fin 16 → Int) × Bool := placeF kl.1 14 (ip1 1)
def kq : (Fin 16 → Int) × Bool := placeF kl.1 15 (ip1 1)
theorem kn36 : kl.2 = 0 ∧ kf.2 = 16 ∧ kp.2 = true ∧ kq.2 = false ∧ ipEq kp.1 (ip1 2) = true ∧ kl.1.length ≤ 5 := by decide +kernel
theorem kl_mem : kl.1 = [⟨ip1 1, ip1 2, 4, 15⟩] := rfl
theorem kl_bd : bdL kl.1 := ⟨fun b hb => by
  rw [kl_mem] at hb
  rw [List.mem_singleton.1 hb]
  exact ⟨ip1_ok (by omega), ip1_ok (by omega)⟩, by have := kn36.2.2.2.2.2; omega⟩
theorem kl_eq {l : List Bd} {g : Nat → CV} (h0 : l = []) (h1 : allLt 16 fun q => g (0 + q) = .int .u8 (vget (ip1 1) q)) (h2 : allLt 16 fun q => g (16 + q) = .int .u8 (vget (ip1 2) q)) (h3 : g 32 = .int .i64 4) (h4 : g 33 = .int .i64 0) : bindF l 5 (eBd.rd g) 10 = kl :=
  bind_congr h0 (bd_rd (allLt_at h1) (allLt_at h2) h3 h4)
theorem kf_eq {l : List Bd} {g : Nat → CV} (h0 : l = kl.1) (h1 : allLt 16 fun q => g (0 + q) = .int .u8 (vget (ip1 1) q)) (h2 : allLt 16 fun q => g (16 + q) = .int .u8 (vget (ip1 3) q)) (h3 : g 32 = .int .i64 4) (h4 : g 33 = .int .i64 0) : bindF l 6 (eBd.rd g) 10 = kf :=
  bind_congr h0 (bd_rd (allLt_at h1) (allLt_at h2) h3 h4)
theorem kp36_eq {l : List Bd} {g : Nat → CV} (h0 : l = kl.1) (h1 : allLt 16 fun q => g q = .int .u8 (vget (ip1 1) q)) : placeF l 14 ((eA .u8 16).rd g) = kp := place_congr h0 (ip_rd (allLt_at h1))
theorem kq_eq {l : List Bd} {g : Nat → CV} (h0 : l = kl.1) (h1 : allLt 16 fun q => g q = .int .u8 (vget (ip1 1) q)) : placeF l 15 ((eA .u8 16).rd g) = kq := place_congr h0 (ip_rd (allLt_at h1))
theorem by_bd {g : Nat → CV} (h1 : allLt 16 fun q => 0 ≤ valI (g (0 + q)) ∧ valI (g (0 + q)) < 256) : byteOk (eBd.rd g).home := ⟨fun q => allLt_at h1 q.1 q.2⟩
set_option maxHeartbeats 4000000 in
set_option maxRecDepth 10000 in
theorem known36_ok : PureOk Try.prog 49 [] (cB.enc true) := by
  obtain ⟨k1, k2, k3, k4, k5, k6⟩ := kn36
  have kbd := kl_bd
  refine pure_intro (wd := 1) (Q := mkQ LM3) (by decide) tysOk (q_of LM3_ok) mixed Try.func49 rfl _ (by show 0 ≤ _; decide) _ ?_
  repeat' (first | (apply And.intro <;> intro hc <;> (first | exact Bool.noConfusion hc | (simp only [decide_eq_true_eq, decide_eq_false_iff_not, Bool.not_eq_true', Bool.not_eq_false', beq_iff_eq, beq_eq_false_iff_ne, bne_iff_ne, bne_eq_false_iff_eq, Bool.true_eq_false, Bool.false_eq_true, ne_eq, not_true_eq_false] at hc <;> first | exact absurd rfl hc | skip) | skip)) | (refine And.intro (by first | exact trivial | decide | omega | (dsimp only; omega) | exact fun _ _ => rfl | exact ⟨by assumption, by first | exact trivial | decide | omega | (dsimp only; omega)⟩) ?_) | (apply And.intro) | (intro s hs; (try dsimp only at hs); (first | (have hs' : s = kl := hs.trans (kl_eq rfl (by repeat' (first | exact trivial | exact rfl | apply And.intro)) (by repeat' (first | exact trivial | exact rfl | apply And.intro)) rfl rfl)) | (have hs' : s = kf := hs.trans (kf_eq (toL_bd _) (by repeat' (first | exact trivial | exact rfl | apply And.intro)) (by repeat' (first | exact trivial | exact rfl | apply And.intro)) rfl rfl)) | (have hs' : s = kp := hs.trans (kp36_eq (toL_bd _) (by repeat' (first | exact trivial | exact rfl | apply And.intro)))) | (have hs' : s = kq := hs.trans (kq_eq (toL_bd _) (by repeat' (first | exact trivial | exact rfl | apply And.intro))))); clear hs; subst hs'))
  all_goals first
    | exact kbd
    | (show bdL (toL eBd kl.1.length (rowF eBd kl.1)); rw [toL_bd]; exact kbd)
    | exact ⟨fun b hb => (by cases hb), Nat.zero_le _⟩
    | (refine by_bd ?_
       repeat' (first | exact trivial | exact (show 0 ≤ (0 : Int) ∧ (0 : Int) < 256 by decide) | exact (show 0 ≤ (1 : Int) ∧ (1 : Int) < 256 by decide) | apply And.intro))
    | (show (-9223372036854775808 : Int) ≤ 10; decide)
    | (show (10 : Int) ≤ 9223372036854775807; decide)
    | (exfalso; rename ¬ kl.2 = 0 => h; exact h k1)
    | (exfalso; rename ¬ kf.2 = 16 => h; exact h k2)
    | (exfalso; rename kp.2 = false => h; rw [k3] at h; cases h)
    | (exfalso; rename kq.2 = true => h; rw [k4] at h; cases h)
    | exact Done.mk (leF_bool k5)
end Go.Proofs.Ytjknkfjhcapocaa.AX
/- MobilityTunnels, by AX2: the law returns true. (Printed by gen/tunnels.py.) -/
namespace Go.Proofs.Ytjknkfjhcapocaa.AX
open Go.RowKit
set_option linter.unusedVariables false
set_option linter.unusedSimpArgs false
theorem tun_eq {p p' : Pkt} {a a' b b' : Fin 16 → Int} (h1 : p' = p) (h2 : a' = a) (h3 : b' = b) : tunF p' a' b' = tunF p a b := by rw [h1, h2, h3]
theorem tunF_facts {p : Pkt} (hp : PkW p) {a b : Fin 16 → Int} (ha : byteOk a) (hb : byteOk b) : (BL (tunF p a b).1.2 ∧ (tunF p a b).1.2.length ≤ 1280) ∧ ((tunF p a b).2 = 0 → opnF (tunF p a b).1 = (p, 0) ∧ validP (tunF p a b).1 = true) := by
  unfold tunF
  cases hE : encR p with
  | none => exact ⟨⟨BL.nil, Nat.zero_le _⟩, fun h => by cases h⟩
  | some L =>
    obtain ⟨h1, h2, h3, h4⟩ := encR_BL hp hE
    dsimp only
    by_cases hv : validP (tunP p a b L) = true
    · rw [if_pos hv]
      refine ⟨⟨h1, h2⟩, fun _ => ⟨?_, hv⟩⟩
      show (if (41 : Int) = 41 then decF L else (pk0, 5)) = _
      rw [if_pos rfl, ← h4]
      exact enc_dec ⟨h3, hp⟩
    · rw [if_neg hv]
      exact ⟨⟨BL.nil, Nat.zero_le _⟩, fun h => by cases h⟩
theorem opnF_len (p : Pkt) : (opnF p).1.2.length ≤ 1280 := by
  unfold opnF
  split
  · exact dec_shape _
  · exact Nat.zero_le _
def pk4 (t : Nat) : Int := bif t.beq 3 then 59 else bif t.beq 2 then 41 else bif t.beq 1 then 58 else bif t.beq 0 then 17 else 0
theorem pk4_r (t : Nat) : 0 ≤ pk4 t ∧ pk4 t < 256 := by
  unfold pk4
  cases t.beq 3 <;> cases t.beq 2 <;> cases t.beq 1 <;> cases t.beq 0 <;> simp
def pk7 (t : Nat) : Int := bif t.beq 6 then 1240 else bif t.beq 5 then 1200 else bif t.beq 4 then 1193 else bif t.beq 3 then 1192 else bif t.beq 2 then 100 else bif t.beq 1 then 9 else bif t.beq 0 then 0 else 0
theorem pk7_r (t : Nat) : 0 ≤ pk7 t ∧ pk7 t ≤ 2000 := by
  unfold pk7
  cases t.beq 6 <;> cases t.beq 5 <;> cases t.beq 4 <;> cases t.beq 3 <;> cases t.beq 2 <;> cases t.beq 1 <;> cases t.beq 0 <;> simp
theorem u32r' (z : Int) : 0 ≤ IntKind.u32.wrap z ∧ IntKind.u32.wrap z < 4294967296 := by
  simp only [IntKind.wrap, IntKind.signed, IntKind.bits]
  exact ⟨Int.emod_nonneg _ (by decide), Int.emod_lt_of_pos _ (by decide)⟩
/-- The list of two packets. -/
def lst2F (X Y : Pkt) (k j : Nat) : CV := bif Nat.beq k 0 then tailC eHd X.1 (slR eB X.2) j else tailC eHd Y.1 (slR eB Y.2) j
theorem tailS2_le {c : Wc} {h : Hdr} {last : CV} {j : Nat} (hl : LeC c last last) : LeC c (tailC eHd h last j) (tailC eHd h last j) := by
  unfold tailC
  cases Nat.blt j eHd.sz with
  | true => exact (eHd.flat _ _).le
  | false => exact hl
theorem lst2_le {c : Wc} {X Y : Pkt} {k j : Nat} (hf : c.fin = false) : LeC c (lst2F X Y k j) (lst2F X Y k j) := by
  unfold lst2F
  cases Nat.beq k 0 with
  | true => exact tailS2_le ((cl_slR eB _) c hf)
  | false => exact tailS2_le ((cl_slR eB _) c hf)
def LTw : CsL := (49, some (pureE AC.nil (fun _ => True) (fun _ => true) cB.enc)) :: (50, some wipE) :: (LM0 ++ (LT1 ++ LTv))
theorem LTw_ok : AllOk Try.prog LTw := ⟨pureE_ok ⟨_, Try.func49, rfl, by kernel_rfl⟩ fun _ _ => known36_ok, tapeE_ok ⟨_, Try.func50, rfl, by kernel_rfl⟩ fun n l q a ht hp => wip_ok n l q ht, append_ok LM0_ok (append_ok LT1_ok LTv_ok)⟩
set_option maxHeartbeats 16000000 in
set_option maxRecDepth 20000 in
theorem tunnels_ok (X : Pkt) (hXw : PkW X) (hXl : X.2.length ≤ 140737488355328) (n : Nat) (l : List Int) (hl : rngL l) (a b : Fin 16 → Int) (ha : byteOk a) (hb : byteOk b) : PureOk Try.prog 13 [.e (.agg 39 (tailC eHd X.1 (slR eB X.2))), .e (.c (.sl true n 1 (rI l))), (cE (eA .u8 16)).enc a, (cE (eA .u8 16)).enc b] (.e (.c (.bool true))) := by
  have f1 : True := trivial
  have f2 : True := trivial
  have f3 : True := trivial
  have f4 : True := trivial
  have f5 : True := trivial
  refine pure_intro (wd := 1) (Q := mkQ LTw) (by decide) tysOk (q_of LTw_ok) mixed Try.func13 rfl _ (by show 4 ≤ _; decide) _ ?_
  repeat' (first | (apply And.intro <;> intro hc <;> (first | exact Bool.noConfusion hc | (simp only [decide_eq_true_eq, decide_eq_false_iff_not, Bool.not_eq_true', Bool.not_eq_false', beq_iff_eq, beq_eq_false_iff_ne, bne_iff_ne, bne_eq_false_iff_eq, Bool.true_eq_false, Bool.false_eq_true, ne_eq, not_true_eq_false] at hc <;> first | exact absurd rfl hc | skip) | skip)) | (refine And.intro (by first | exact trivial | decide | omega | (dsimp only; omega) | exact fun _ _ => rfl | exact ⟨by assumption, by first | exact trivial | decide | omega | (dsimp only; omega)⟩) ?_) | (apply And.intro) | (intro s hs; (have q : s = true := hs; clear hs; subst q)))
  · exact Done.mk (leF_bool rfl)
  · exact ⟨l, rfl, hl⟩
  intro ht0
  repeat' (first | (apply And.intro <;> intro hc <;> (first | exact Bool.noConfusion hc | (simp only [decide_eq_true_eq, decide_eq_false_iff_not, Bool.not_eq_true', Bool.not_eq_false', beq_iff_eq, beq_eq_false_iff_ne, bne_iff_ne, bne_eq_false_iff_eq, Bool.true_eq_false, Bool.false_eq_true, ne_eq, not_true_eq_false] at hc <;> first | exact absurd rfl hc | skip) | skip)) | (refine And.intro (by first | exact trivial | decide | omega | (dsimp only; omega) | exact fun _ _ => rfl | exact ⟨by assumption, by first | exact trivial | decide | omega | (dsimp only; omega)⟩) ?_) | (apply And.intro) | (intro s hs; (first | (have q : s = true := hs; clear hs; subst q) | (have hta : TapeOk _ _ s := hs; clear hs) | (clear f1; have hcl : 0 ≤ s ∧ s < 3 := hs; clear hs; rename Int => cl) | (clear f2; have hfl : 0 ≤ s ∧ s < 3 := hs; clear hs; rename Int => fl) | (have hnx : 0 ≤ s ∧ s < 4 := hs; clear hs; rename Int => nx) | (have hho : 0 ≤ s ∧ s < 256 := hs; clear hs; rename Int => ho) | (have hpi : 0 ≤ s ∧ s < 7 := hs; clear hs; rename Int => pi) | (clear f3; have hsr : byteOk s := hs.1; clear hs; rename Fin 16 → Int => src) | (clear f4; have hds : byteOk s := hs.1; clear hs; rename Fin 16 → Int => dst) | (have hpay : BL s ∧ _ := hs; clear hs; rename List Int => pay) | (clear f5; have _ : True := hs; clear hs; rename Int => w1) | (have _ : True := hs; clear hs; rename Int => w2) | skip)))
  · exact (pk7_r (0 + pi.toNat)).1
  · exact (pk7_r (0 + pi.toNat)).2
  · obtain ⟨Y, eY⟩ : ∃ Y : Pkt, Y = (⟨IntKind.u8.wrap cl, IntKind.u32.wrap fl, pk4 (0 + nx.toNat), IntKind.u8.wrap ho, src, dst, IntKind.u16.wrap w1, IntKind.u16.wrap w2⟩, pay) := ⟨_, rfl⟩
    have hYw : PkW Y := by rw [eY]; exact ⟨u8r _, u32r' _, pk4_r _, u8r _, vget_in hsr, vget_in hds, u16r' _, u16r' _, hpay.1⟩
    have hYl : Y.2.length ≤ 5000 := by
      rw [eY]
      have h1 : (pay.length : Int) = pk7 (0 + pi.toNat) := hpay.2
      have h2 := (pk7_r (0 + pi.toNat)).2
      show pay.length ≤ 5000
      omega
    refine loop_intro (mono_of LTw_ok) (fun z : {i : Nat // i ≤ 2} => (⟨[(6, one (.ptr 1 0 0 false)), (7, one (.ptr 2 0 0 false)), (8, one (.bool false)), (69, one (.os 54 0 2)), (70, one (.int .i64 2)), (71, one (.int .i64 (z.1 : Int)))], [(1, some ⟨24, 1, 16, true, fun _ => (eA .u8 16).cell a⟩), (2, some ⟨24, 1, 16, true, fun _ => (eA .u8 16).cell b⟩), (54, some ⟨28, 2, 39, false, lst2F X Y⟩)], 57⟩ : Hd)) (fun z => 2 - z.1) (fun _ => rfl) ?_ ⟨0, by omega⟩ [] ?_
    · rintro ⟨i, hi⟩
      clear eY
      rcases i with _ | _ | _ | i
      · dsimp only
        obtain ⟨T, eT⟩ : ∃ T, tunF X a b = T := ⟨_, rfl⟩
        obtain ⟨O, eO⟩ : ∃ O, opnF X = O := ⟨_, rfl⟩
        have hT := tunF_facts hXw ha hb
        have hO := opnF_len X
        rw [eT] at hT
        rw [eO] at hO
        obtain ⟨⟨hTb, hTl⟩, hT0⟩ := hT
        obtain ⟨O2, eO2⟩ : ∃ O2, opnF T.1 = O2 := ⟨_, rfl⟩
        rw [eO2] at hT0
        have g1 : True := trivial
        have g2 : True := trivial
        have g3 : True := trivial
        have g4 : True := trivial
        have g5 : True := trivial
        have g6 : True := trivial
        have g7 : True := trivial
        have g8 : True := trivial
        have g9 : True := trivial
        by_cases h0 : T.2 = 0
        · obtain ⟨h1, h2⟩ := hT0 h0
          subst h1
          repeat' (first | (apply And.intro <;> intro hc <;> (first | exact Bool.noConfusion hc | (exfalso; first | exact absurd rfl hc | exact absurd h0 hc | omega) | (simp only [decide_eq_true_eq, decide_eq_false_iff_not, Bool.not_eq_true', Bool.not_eq_false', beq_iff_eq, beq_eq_false_iff_ne, bne_iff_ne, bne_eq_false_iff_eq, Bool.true_eq_false, Bool.false_eq_true, ne_eq, not_true_eq_false] at hc <;> first | exact absurd rfl hc | (exfalso; first | exact absurd rfl hc | exact absurd h0 hc | omega) | skip) | skip)) | (refine And.intro (by first | exact trivial | decide | omega | (dsimp only; omega) | exact fun _ _ => rfl | exact ⟨by assumption, by first | exact trivial | decide | omega | (dsimp only; omega)⟩) ?_) | (apply And.intro) | (intro s hs; (first | (clear g1; have q : T = s := (hs.trans ((tun_eq (pk_is (h := X.1) (l := X.2) (fun j hj => by (iterate 38 (rcases j with _ | j; exact rfl)); exact absurd hj (by omega)) (toL_b X.2)) (rd_ip a) (rd_ip b)).trans eT)).symm; clear hs; subst q) | (clear g2; have q : T = s := (hs.trans ((tun_eq (pk_is (h := X.1) (l := X.2) (fun j hj => by (iterate 38 (rcases j with _ | j; exact rfl)); exact absurd hj (by omega)) (toL_b X.2)) (rd_ip a) (rd_ip b)).trans eT)).symm; clear hs; subst q) | (clear g3; have q : O = s := (hs.trans ((congrArg opnF (pk_is (h := X.1) (l := X.2) (fun j hj => by (iterate 38 (rcases j with _ | j; exact rfl)); exact absurd hj (by omega)) (toL_b X.2))).trans eO)).symm; clear hs; subst q) | (clear g4; have q : O = s := (hs.trans ((congrArg opnF (pk_is (h := X.1) (l := X.2) (fun j hj => by (iterate 38 (rcases j with _ | j; exact rfl)); exact absurd hj (by omega)) (toL_b X.2))).trans eO)).symm; clear hs; subst q) | (clear g5; have q : s = true := hs; clear hs; subst q) | (clear g6; have q : s = true := hs; clear hs; subst q) | (clear g7; have q : s = (X, 0) := hs.trans ((congrArg opnF (pk_is (h := T.1.1) (l := T.1.2) (fun j hj => by (iterate 38 (rcases j with _ | j; exact rfl)); exact absurd hj (by omega)) (toL_b T.1.2))).trans eO2); clear hs; subst q) | (clear g8; have q : s = true := hs; clear hs; subst q) | (clear g9; have q : s = true := hs.trans ((congrArg validP (pk_is (h := T.1.1) (l := T.1.2) (fun j hj => by (iterate 38 (rcases j with _ | j; exact rfl)); exact absurd hj (by omega)) (toL_b T.1.2))).trans h2); clear hs; subst q) | skip)))
          all_goals first
            | exact rfl
            | exact fun _ => rfl
            | exact Eq.mp (congrArg byteOk (rd_ip a).symm) ha
            | exact Eq.mp (congrArg byteOk (rd_ip b).symm) hb
            | (show (toL eB X.2.length _).length ≤ _; rw [toL_len]; omega)
            | (show (toL eB T.1.2.length _).length ≤ _; rw [toL_len]; omega)
            | (show (toL eB O.1.2.length _).length ≤ _; rw [toL_len]; omega)
            | (show BL (toL eB X.2.length _); exact Eq.mp (congrArg BL (toL_b X.2).symm) hXw.pay)
            | (show BL (toL eB T.1.2.length _); exact Eq.mp (congrArg BL (toL_b T.1.2).symm) hTb)
            | exact Eq.mp (congrArg PkW (pk_is (h := X.1) (l := X.2) (fun j hj => by (iterate 38 (rcases j with _ | j; exact rfl)); exact absurd hj (by omega)) (toL_b X.2)).symm) hXw
            | exact (pk_is (h := T.1.1) (l := T.1.2) (fun j hj => by (iterate 38 (rcases j with _ | j; exact rfl)); exact absurd hj (by omega)) (toL_b T.1.2)).trans (pk_is (h := T.1.1) (l := T.1.2) (fun j hj => by (iterate 38 (rcases j with _ | j; exact rfl)); exact absurd hj (by omega)) (toL_b T.1.2)).symm
            | exact (pk_is (h := O.1.1) (l := O.1.2) (fun j hj => by (iterate 38 (rcases j with _ | j; exact rfl)); exact absurd hj (by omega)) (toL_b O.1.2)).trans (pk_is (h := O.1.1) (l := O.1.2) (fun j hj => by (iterate 38 (rcases j with _ | j; exact rfl)); exact absurd hj (by omega)) (toL_b O.1.2)).symm
            | exact (pk_is (h := X.1) (l := X.2) (fun j hj => by (iterate 38 (rcases j with _ | j; exact rfl)); exact absurd hj (by omega)) (toL_b X.2)).trans (pk_is (h := X.1) (l := X.2) (fun j hj => by (iterate 38 (rcases j with _ | j; exact rfl)); exact absurd hj (by omega)) (toL_b X.2)).symm
            | (refine ⟨⟨1, by omega⟩, [], by first | omega | (dsimp only; omega) | decide, rfl, ?_, ?_⟩
               · repeat' (first | exact trivial | exact rfl | exact leF_ptr rfl | exact leF_int rfl | exact leF_bool rfl | exact leF_cl (cl_slB _ _) | exact leF_cl (cl_slR _ _) | exact leF_cl (cl_ll _ _) | exact leF_c (leC_os rfl rfl) | refine leF_int ?_ | refine leF_bool ?_ | exact leN_varA (fun _ _ => (Elem.flat _ _ _).le) | exact leN_varA (fun _ _ => leC_top) | apply And.intro)
               · repeat' (first | exact trivial | exact rfl | exact leF_ptr rfl | exact leF_int rfl | exact leF_bool rfl | exact leF_cl (cl_slB _ _) | exact leF_cl (cl_slR _ _) | exact leF_cl (cl_ll _ _) | exact leF_c (leC_os rfl rfl) | refine leF_int ?_ | refine leF_bool ?_ | exact leN_varA (fun _ _ => (Elem.flat _ _ _).le) | exact leN_varA (fun _ _ => leC_top) | apply And.intro)
                 all_goals first
                   | exact leN_varA fun j hj => leC_int rfl
                   | exact leN_row rfl fun i hi j hj => lst2_le rfl
                   | skip)
            | skip
        · skip
          repeat' (first | (apply And.intro <;> intro hc <;> (first | exact Bool.noConfusion hc | (exfalso; first | exact absurd rfl hc | exact absurd hc h0 | omega) | (simp only [decide_eq_true_eq, decide_eq_false_iff_not, Bool.not_eq_true', Bool.not_eq_false', beq_iff_eq, beq_eq_false_iff_ne, bne_iff_ne, bne_eq_false_iff_eq, Bool.true_eq_false, Bool.false_eq_true, ne_eq, not_true_eq_false] at hc <;> first | exact absurd rfl hc | (exfalso; first | exact absurd rfl hc | exact absurd hc h0 | omega) | skip) | skip)) | (refine And.intro (by first | exact trivial | decide | omega | (dsimp only; omega) | exact fun _ _ => rfl | exact ⟨by assumption, by first | exact trivial | decide | omega | (dsimp only; omega)⟩) ?_) | (apply And.intro) | (intro s hs; (first | (clear g1; have q : T = s := (hs.trans ((tun_eq (pk_is (h := X.1) (l := X.2) (fun j hj => by (iterate 38 (rcases j with _ | j; exact rfl)); exact absurd hj (by omega)) (toL_b X.2)) (rd_ip a) (rd_ip b)).trans eT)).symm; clear hs; subst q) | (clear g2; have q : T = s := (hs.trans ((tun_eq (pk_is (h := X.1) (l := X.2) (fun j hj => by (iterate 38 (rcases j with _ | j; exact rfl)); exact absurd hj (by omega)) (toL_b X.2)) (rd_ip a) (rd_ip b)).trans eT)).symm; clear hs; subst q) | (clear g3; have q : O = s := (hs.trans ((congrArg opnF (pk_is (h := X.1) (l := X.2) (fun j hj => by (iterate 38 (rcases j with _ | j; exact rfl)); exact absurd hj (by omega)) (toL_b X.2))).trans eO)).symm; clear hs; subst q) | (clear g4; have q : O = s := (hs.trans ((congrArg opnF (pk_is (h := X.1) (l := X.2) (fun j hj => by (iterate 38 (rcases j with _ | j; exact rfl)); exact absurd hj (by omega)) (toL_b X.2))).trans eO)).symm; clear hs; subst q) | (clear g5; have q : s = true := hs; clear hs; subst q) | (clear g6; have q : s = true := hs; clear hs; subst q) | (clear g7; have q : s = (X, 0) := hs.trans ((congrArg opnF (pk_is (h := T.1.1) (l := T.1.2) (fun j hj => by (iterate 38 (rcases j with _ | j; exact rfl)); exact absurd hj (by omega)) (toL_b T.1.2))).trans eO2); clear hs; subst q) | (clear g8; have q : s = true := hs; clear hs; subst q) | (clear g9; have q : s = true := hs.trans ((congrArg validP (pk_is (h := T.1.1) (l := T.1.2) (fun j hj => by (iterate 38 (rcases j with _ | j; exact rfl)); exact absurd hj (by omega)) (toL_b T.1.2))).trans h2); clear hs; subst q) | skip)))
          all_goals first
            | exact rfl
            | exact fun _ => rfl
            | exact Eq.mp (congrArg byteOk (rd_ip a).symm) ha
            | exact Eq.mp (congrArg byteOk (rd_ip b).symm) hb
            | (show (toL eB X.2.length _).length ≤ _; rw [toL_len]; omega)
            | (show (toL eB T.1.2.length _).length ≤ _; rw [toL_len]; omega)
            | (show (toL eB O.1.2.length _).length ≤ _; rw [toL_len]; omega)
            | (show BL (toL eB X.2.length _); exact Eq.mp (congrArg BL (toL_b X.2).symm) hXw.pay)
            | (show BL (toL eB T.1.2.length _); exact Eq.mp (congrArg BL (toL_b T.1.2).symm) hTb)
            | exact Eq.mp (congrArg PkW (pk_is (h := X.1) (l := X.2) (fun j hj => by (iterate 38 (rcases j with _ | j; exact rfl)); exact absurd hj (by omega)) (toL_b X.2)).symm) hXw
            | exact (pk_is (h := T.1.1) (l := T.1.2) (fun j hj => by (iterate 38 (rcases j with _ | j; exact rfl)); exact absurd hj (by omega)) (toL_b T.1.2)).trans (pk_is (h := T.1.1) (l := T.1.2) (fun j hj => by (iterate 38 (rcases j with _ | j; exact rfl)); exact absurd hj (by omega)) (toL_b T.1.2)).symm
            | exact (pk_is (h := O.1.1) (l := O.1.2) (fun j hj => by (iterate 38 (rcases j with _ | j; exact rfl)); exact absurd hj (by omega)) (toL_b O.1.2)).trans (pk_is (h := O.1.1) (l := O.1.2) (fun j hj => by (iterate 38 (rcases j with _ | j; exact rfl)); exact absurd hj (by omega)) (toL_b O.1.2)).symm
            | exact (pk_is (h := X.1) (l := X.2) (fun j hj => by (iterate 38 (rcases j with _ | j; exact rfl)); exact absurd hj (by omega)) (toL_b X.2)).trans (pk_is (h := X.1) (l := X.2) (fun j hj => by (iterate 38 (rcases j with _ | j; exact rfl)); exact absurd hj (by omega)) (toL_b X.2)).symm
            | (refine ⟨⟨1, by omega⟩, [], by first | omega | (dsimp only; omega) | decide, rfl, ?_, ?_⟩
               · repeat' (first | exact trivial | exact rfl | exact leF_ptr rfl | exact leF_int rfl | exact leF_bool rfl | exact leF_cl (cl_slB _ _) | exact leF_cl (cl_slR _ _) | exact leF_cl (cl_ll _ _) | exact leF_c (leC_os rfl rfl) | refine leF_int ?_ | refine leF_bool ?_ | exact leN_varA (fun _ _ => (Elem.flat _ _ _).le) | exact leN_varA (fun _ _ => leC_top) | apply And.intro)
               · repeat' (first | exact trivial | exact rfl | exact leF_ptr rfl | exact leF_int rfl | exact leF_bool rfl | exact leF_cl (cl_slB _ _) | exact leF_cl (cl_slR _ _) | exact leF_cl (cl_ll _ _) | exact leF_c (leC_os rfl rfl) | refine leF_int ?_ | refine leF_bool ?_ | exact leN_varA (fun _ _ => (Elem.flat _ _ _).le) | exact leN_varA (fun _ _ => leC_top) | apply And.intro)
                 all_goals first
                   | exact leN_varA fun j hj => leC_int rfl
                   | exact leN_row rfl fun i hi j hj => lst2_le rfl
                   | skip)
            | skip
      · dsimp only
        obtain ⟨T, eT⟩ : ∃ T, tunF Y a b = T := ⟨_, rfl⟩
        obtain ⟨O, eO⟩ : ∃ O, opnF Y = O := ⟨_, rfl⟩
        have hT := tunF_facts hYw ha hb
        have hO := opnF_len Y
        rw [eT] at hT
        rw [eO] at hO
        obtain ⟨⟨hTb, hTl⟩, hT0⟩ := hT
        obtain ⟨O2, eO2⟩ : ∃ O2, opnF T.1 = O2 := ⟨_, rfl⟩
        rw [eO2] at hT0
        have g1 : True := trivial
        have g2 : True := trivial
        have g3 : True := trivial
        have g4 : True := trivial
        have g5 : True := trivial
        have g6 : True := trivial
        have g7 : True := trivial
        have g8 : True := trivial
        have g9 : True := trivial
        by_cases h0 : T.2 = 0
        · obtain ⟨h1, h2⟩ := hT0 h0
          subst h1
          repeat' (first | (apply And.intro <;> intro hc <;> (first | exact Bool.noConfusion hc | (exfalso; first | exact absurd rfl hc | exact absurd h0 hc | omega) | (simp only [decide_eq_true_eq, decide_eq_false_iff_not, Bool.not_eq_true', Bool.not_eq_false', beq_iff_eq, beq_eq_false_iff_ne, bne_iff_ne, bne_eq_false_iff_eq, Bool.true_eq_false, Bool.false_eq_true, ne_eq, not_true_eq_false] at hc <;> first | exact absurd rfl hc | (exfalso; first | exact absurd rfl hc | exact absurd h0 hc | omega) | skip) | skip)) | (refine And.intro (by first | exact trivial | decide | omega | (dsimp only; omega) | exact fun _ _ => rfl | exact ⟨by assumption, by first | exact trivial | decide | omega | (dsimp only; omega)⟩) ?_) | (apply And.intro) | (intro s hs; (first | (clear g1; have q : T = s := (hs.trans ((tun_eq (pk_is (h := Y.1) (l := Y.2) (fun j hj => by (iterate 38 (rcases j with _ | j; exact rfl)); exact absurd hj (by omega)) (toL_b Y.2)) (rd_ip a) (rd_ip b)).trans eT)).symm; clear hs; subst q) | (clear g2; have q : T = s := (hs.trans ((tun_eq (pk_is (h := Y.1) (l := Y.2) (fun j hj => by (iterate 38 (rcases j with _ | j; exact rfl)); exact absurd hj (by omega)) (toL_b Y.2)) (rd_ip a) (rd_ip b)).trans eT)).symm; clear hs; subst q) | (clear g3; have q : O = s := (hs.trans ((congrArg opnF (pk_is (h := Y.1) (l := Y.2) (fun j hj => by (iterate 38 (rcases j with _ | j; exact rfl)); exact absurd hj (by omega)) (toL_b Y.2))).trans eO)).symm; clear hs; subst q) | (clear g4; have q : O = s := (hs.trans ((congrArg opnF (pk_is (h := Y.1) (l := Y.2) (fun j hj => by (iterate 38 (rcases j with _ | j; exact rfl)); exact absurd hj (by omega)) (toL_b Y.2))).trans eO)).symm; clear hs; subst q) | (clear g5; have q : s = true := hs; clear hs; subst q) | (clear g6; have q : s = true := hs; clear hs; subst q) | (clear g7; have q : s = (Y, 0) := hs.trans ((congrArg opnF (pk_is (h := T.1.1) (l := T.1.2) (fun j hj => by (iterate 38 (rcases j with _ | j; exact rfl)); exact absurd hj (by omega)) (toL_b T.1.2))).trans eO2); clear hs; subst q) | (clear g8; have q : s = true := hs; clear hs; subst q) | (clear g9; have q : s = true := hs.trans ((congrArg validP (pk_is (h := T.1.1) (l := T.1.2) (fun j hj => by (iterate 38 (rcases j with _ | j; exact rfl)); exact absurd hj (by omega)) (toL_b T.1.2))).trans h2); clear hs; subst q) | skip)))
          all_goals first
            | exact rfl
            | exact fun _ => rfl
            | exact Eq.mp (congrArg byteOk (rd_ip a).symm) ha
            | exact Eq.mp (congrArg byteOk (rd_ip b).symm) hb
            | (show (toL eB Y.2.length _).length ≤ _; rw [toL_len]; omega)
            | (show (toL eB T.1.2.length _).length ≤ _; rw [toL_len]; omega)
            | (show (toL eB O.1.2.length _).length ≤ _; rw [toL_len]; omega)
            | (show BL (toL eB Y.2.length _); exact Eq.mp (congrArg BL (toL_b Y.2).symm) hYw.pay)
            | (show BL (toL eB T.1.2.length _); exact Eq.mp (congrArg BL (toL_b T.1.2).symm) hTb)
            | exact Eq.mp (congrArg PkW (pk_is (h := Y.1) (l := Y.2) (fun j hj => by (iterate 38 (rcases j with _ | j; exact rfl)); exact absurd hj (by omega)) (toL_b Y.2)).symm) hYw
            | exact (pk_is (h := T.1.1) (l := T.1.2) (fun j hj => by (iterate 38 (rcases j with _ | j; exact rfl)); exact absurd hj (by omega)) (toL_b T.1.2)).trans (pk_is (h := T.1.1) (l := T.1.2) (fun j hj => by (iterate 38 (rcases j with _ | j; exact rfl)); exact absurd hj (by omega)) (toL_b T.1.2)).symm
            | exact (pk_is (h := O.1.1) (l := O.1.2) (fun j hj => by (iterate 38 (rcases j with _ | j; exact rfl)); exact absurd hj (by omega)) (toL_b O.1.2)).trans (pk_is (h := O.1.1) (l := O.1.2) (fun j hj => by (iterate 38 (rcases j with _ | j; exact rfl)); exact absurd hj (by omega)) (toL_b O.1.2)).symm
            | exact (pk_is (h := Y.1) (l := Y.2) (fun j hj => by (iterate 38 (rcases j with _ | j; exact rfl)); exact absurd hj (by omega)) (toL_b Y.2)).trans (pk_is (h := Y.1) (l := Y.2) (fun j hj => by (iterate 38 (rcases j with _ | j; exact rfl)); exact absurd hj (by omega)) (toL_b Y.2)).symm
            | (refine ⟨⟨2, by omega⟩, [], by first | omega | (dsimp only; omega) | decide, rfl, ?_, ?_⟩
               · repeat' (first | exact trivial | exact rfl | exact leF_ptr rfl | exact leF_int rfl | exact leF_bool rfl | exact leF_cl (cl_slB _ _) | exact leF_cl (cl_slR _ _) | exact leF_cl (cl_ll _ _) | exact leF_c (leC_os rfl rfl) | refine leF_int ?_ | refine leF_bool ?_ | exact leN_varA (fun _ _ => (Elem.flat _ _ _).le) | exact leN_varA (fun _ _ => leC_top) | apply And.intro)
               · repeat' (first | exact trivial | exact rfl | exact leF_ptr rfl | exact leF_int rfl | exact leF_bool rfl | exact leF_cl (cl_slB _ _) | exact leF_cl (cl_slR _ _) | exact leF_cl (cl_ll _ _) | exact leF_c (leC_os rfl rfl) | refine leF_int ?_ | refine leF_bool ?_ | exact leN_varA (fun _ _ => (Elem.flat _ _ _).le) | exact leN_varA (fun _ _ => leC_top) | apply And.intro)
                 all_goals first
                   | exact leN_varA fun j hj => leC_int rfl
                   | exact leN_row rfl fun i hi j hj => lst2_le rfl
                   | skip)
            | skip
        · skip
          repeat' (first | (apply And.intro <;> intro hc <;> (first | exact Bool.noConfusion hc | (exfalso; first | exact absurd rfl hc | exact absurd hc h0 | omega) | (simp only [decide_eq_true_eq, decide_eq_false_iff_not, Bool.not_eq_true', Bool.not_eq_false', beq_iff_eq, beq_eq_false_iff_ne, bne_iff_ne, bne_eq_false_iff_eq, Bool.true_eq_false, Bool.false_eq_true, ne_eq, not_true_eq_false] at hc <;> first | exact absurd rfl hc | (exfalso; first | exact absurd rfl hc | exact absurd hc h0 | omega) | skip) | skip)) | (refine And.intro (by first | exact trivial | decide | omega | (dsimp only; omega) | exact fun _ _ => rfl | exact ⟨by assumption, by first | exact trivial | decide | omega | (dsimp only; omega)⟩) ?_) | (apply And.intro) | (intro s hs; (first | (clear g1; have q : T = s := (hs.trans ((tun_eq (pk_is (h := Y.1) (l := Y.2) (fun j hj => by (iterate 38 (rcases j with _ | j; exact rfl)); exact absurd hj (by omega)) (toL_b Y.2)) (rd_ip a) (rd_ip b)).trans eT)).symm; clear hs; subst q) | (clear g2; have q : T = s := (hs.trans ((tun_eq (pk_is (h := Y.1) (l := Y.2) (fun j hj => by (iterate 38 (rcases j with _ | j; exact rfl)); exact absurd hj (by omega)) (toL_b Y.2)) (rd_ip a) (rd_ip b)).trans eT)).symm; clear hs; subst q) | (clear g3; have q : O = s := (hs.trans ((congrArg opnF (pk_is (h := Y.1) (l := Y.2) (fun j hj => by (iterate 38 (rcases j with _ | j; exact rfl)); exact absurd hj (by omega)) (toL_b Y.2))).trans eO)).symm; clear hs; subst q) | (clear g4; have q : O = s := (hs.trans ((congrArg opnF (pk_is (h := Y.1) (l := Y.2) (fun j hj => by (iterate 38 (rcases j with _ | j; exact rfl)); exact absurd hj (by omega)) (toL_b Y.2))).trans eO)).symm; clear hs; subst q) | (clear g5; have q : s = true := hs; clear hs; subst q) | (clear g6; have q : s = true := hs; clear hs; subst q) | (clear g7; have q : s = (Y, 0) := hs.trans ((congrArg opnF (pk_is (h := T.1.1) (l := T.1.2) (fun j hj => by (iterate 38 (rcases j with _ | j; exact rfl)); exact absurd hj (by omega)) (toL_b T.1.2))).trans eO2); clear hs; subst q) | (clear g8; have q : s = true := hs; clear hs; subst q) | (clear g9; have q : s = true := hs.trans ((congrArg validP (pk_is (h := T.1.1) (l := T.1.2) (fun j hj => by (iterate 38 (rcases j with _ | j; exact rfl)); exact absurd hj (by omega)) (toL_b T.1.2))).trans h2); clear hs; subst q) | skip)))
          all_goals first
            | exact rfl
            | exact fun _ => rfl
            | exact Eq.mp (congrArg byteOk (rd_ip a).symm) ha
            | exact Eq.mp (congrArg byteOk (rd_ip b).symm) hb
            | (show (toL eB Y.2.length _).length ≤ _; rw [toL_len]; omega)
            | (show (toL eB T.1.2.length _).length ≤ _; rw [toL_len]; omega)
            | (show (toL eB O.1.2.length _).length ≤ _; rw [toL_len]; omega)
            | (show BL (toL eB Y.2.length _); exact Eq.mp (congrArg BL (toL_b Y.2).symm) hYw.pay)
            | (show BL (toL eB T.1.2.length _); exact Eq.mp (congrArg BL (toL_b T.1.2).symm) hTb)
            | exact Eq.mp (congrArg PkW (pk_is (h := Y.1) (l := Y.2) (fun j hj => by (iterate 38 (rcases j with _ | j; exact rfl)); exact absurd hj (by omega)) (toL_b Y.2)).symm) hYw
            | exact (pk_is (h := T.1.1) (l := T.1.2) (fun j hj => by (iterate 38 (rcases j with _ | j; exact rfl)); exact absurd hj (by omega)) (toL_b T.1.2)).trans (pk_is (h := T.1.1) (l := T.1.2) (fun j hj => by (iterate 38 (rcases j with _ | j; exact rfl)); exact absurd hj (by omega)) (toL_b T.1.2)).symm
            | exact (pk_is (h := O.1.1) (l := O.1.2) (fun j hj => by (iterate 38 (rcases j with _ | j; exact rfl)); exact absurd hj (by omega)) (toL_b O.1.2)).trans (pk_is (h := O.1.1) (l := O.1.2) (fun j hj => by (iterate 38 (rcases j with _ | j; exact rfl)); exact absurd hj (by omega)) (toL_b O.1.2)).symm
            | exact (pk_is (h := Y.1) (l := Y.2) (fun j hj => by (iterate 38 (rcases j with _ | j; exact rfl)); exact absurd hj (by omega)) (toL_b Y.2)).trans (pk_is (h := Y.1) (l := Y.2) (fun j hj => by (iterate 38 (rcases j with _ | j; exact rfl)); exact absurd hj (by omega)) (toL_b Y.2)).symm
            | (refine ⟨⟨2, by omega⟩, [], by first | omega | (dsimp only; omega) | decide, rfl, ?_, ?_⟩
               · repeat' (first | exact trivial | exact rfl | exact leF_ptr rfl | exact leF_int rfl | exact leF_bool rfl | exact leF_cl (cl_slB _ _) | exact leF_cl (cl_slR _ _) | exact leF_cl (cl_ll _ _) | exact leF_c (leC_os rfl rfl) | refine leF_int ?_ | refine leF_bool ?_ | exact leN_varA (fun _ _ => (Elem.flat _ _ _).le) | exact leN_varA (fun _ _ => leC_top) | apply And.intro)
               · repeat' (first | exact trivial | exact rfl | exact leF_ptr rfl | exact leF_int rfl | exact leF_bool rfl | exact leF_cl (cl_slB _ _) | exact leF_cl (cl_slR _ _) | exact leF_cl (cl_ll _ _) | exact leF_c (leC_os rfl rfl) | refine leF_int ?_ | refine leF_bool ?_ | exact leN_varA (fun _ _ => (Elem.flat _ _ _).le) | exact leN_varA (fun _ _ => leC_top) | apply And.intro)
                 all_goals first
                   | exact leN_varA fun j hj => leC_int rfl
                   | exact leN_row rfl fun i hi j hj => lst2_le rfl
                   | skip)
            | skip
      · dsimp only
        repeat' (first | (apply And.intro <;> intro hc <;> (first | exact Bool.noConfusion hc | (exfalso; first | omega) | (simp only [decide_eq_true_eq, decide_eq_false_iff_not, Bool.not_eq_true', Bool.not_eq_false', beq_iff_eq, beq_eq_false_iff_ne, bne_iff_ne, bne_eq_false_iff_eq, Bool.true_eq_false, Bool.false_eq_true, ne_eq, not_true_eq_false] at hc <;> first | exact absurd rfl hc | (exfalso; first | omega) | skip) | skip)) | (refine And.intro (by first | exact trivial | decide | omega | (dsimp only; omega) | exact fun _ _ => rfl | exact ⟨by assumption, by first | exact trivial | decide | omega | (dsimp only; omega)⟩) ?_) | (apply And.intro) | (intro s hs; (have q : s = true := hs; clear hs; subst q)))
        all_goals first
          | exact Done.mk (leF_bool rfl)
          | skip
      · omega
    · refine ⟨rfl, ?_, ?_⟩
      · repeat' (first | exact trivial | exact rfl | exact leF_ptr rfl | exact leF_int rfl | exact leF_bool rfl | exact leF_cl (cl_slB _ _) | exact leF_cl (cl_slR _ _) | exact leF_cl (cl_ll _ _) | exact leF_c (leC_os rfl rfl) | refine leF_int ?_ | refine leF_bool ?_ | exact leN_varA (fun _ _ => (Elem.flat _ _ _).le) | exact leN_varA (fun _ _ => leC_top) | apply And.intro)
      · repeat' (first | exact trivial | exact rfl | exact leF_ptr rfl | exact leF_int rfl | exact leF_bool rfl | exact leF_cl (cl_slB _ _) | exact leF_cl (cl_slR _ _) | exact leF_cl (cl_ll _ _) | exact leF_c (leC_os rfl rfl) | refine leF_int ?_ | refine leF_bool ?_ | exact leN_varA (fun _ _ => (Elem.flat _ _ _).le) | exact leN_varA (fun _ _ => leC_top) | apply And.intro)
        all_goals first
          | exact leN_varA fun j hj => leC_int rfl
          | (refine leN_row rfl fun i hi j hj => ?_
             have hi : i < 2 := hi
             have hj : j < 39 := hj
             rcases i with _ | _ | i
             · iterate 38 (rcases j with _ | j; exact leC_int rfl)
               rcases j with _ | j
               · exact cl_slR eB X.2 _ rfl
               · exact absurd hj (by omega)
             · rw [eY]
               iterate 38 (rcases j with _ | j; exact leC_int rfl)
               rcases j with _ | j
               · exact cl_slR eB pay _ rfl
               · exact absurd hj (by omega)
             · omega)
          | skip
  · obtain ⟨Y, eY⟩ : ∃ Y : Pkt, Y = (⟨IntKind.u8.wrap cl, IntKind.u32.wrap fl, pk4 (0 + nx.toNat), IntKind.u8.wrap ho, src, dst, 0, 0⟩, pay) := ⟨_, rfl⟩
    have hYw : PkW Y := by rw [eY]; exact ⟨u8r _, u32r' _, pk4_r _, u8r _, vget_in hsr, vget_in hds, (by show (0 : Int) ≤ 0 ∧ (0 : Int) < 65536; decide), (by show (0 : Int) ≤ 0 ∧ (0 : Int) < 65536; decide), hpay.1⟩
    have hYl : Y.2.length ≤ 5000 := by
      rw [eY]
      have h1 : (pay.length : Int) = pk7 (0 + pi.toNat) := hpay.2
      have h2 := (pk7_r (0 + pi.toNat)).2
      show pay.length ≤ 5000
      omega
    refine loop_intro (mono_of LTw_ok) (fun z : {i : Nat // i ≤ 2} => (⟨[(6, one (.ptr 1 0 0 false)), (7, one (.ptr 2 0 0 false)), (8, one (.bool false)), (69, one (.os 44 0 2)), (70, one (.int .i64 2)), (71, one (.int .i64 (z.1 : Int)))], [(1, some ⟨24, 1, 16, true, fun _ => (eA .u8 16).cell a⟩), (2, some ⟨24, 1, 16, true, fun _ => (eA .u8 16).cell b⟩), (44, some ⟨28, 2, 39, false, lst2F X Y⟩)], 47⟩ : Hd)) (fun z => 2 - z.1) (fun _ => rfl) ?_ ⟨0, by omega⟩ [] ?_
    · rintro ⟨i, hi⟩
      clear eY
      rcases i with _ | _ | _ | i
      · dsimp only
        obtain ⟨T, eT⟩ : ∃ T, tunF X a b = T := ⟨_, rfl⟩
        obtain ⟨O, eO⟩ : ∃ O, opnF X = O := ⟨_, rfl⟩
        have hT := tunF_facts hXw ha hb
        have hO := opnF_len X
        rw [eT] at hT
        rw [eO] at hO
        obtain ⟨⟨hTb, hTl⟩, hT0⟩ := hT
        obtain ⟨O2, eO2⟩ : ∃ O2, opnF T.1 = O2 := ⟨_, rfl⟩
        rw [eO2] at hT0
        have g1 : True := trivial
        have g2 : True := trivial
        have g3 : True := trivial
        have g4 : True := trivial
        have g5 : True := trivial
        have g6 : True := trivial
        have g7 : True := trivial
        have g8 : True := trivial
        have g9 : True := trivial
        by_cases h0 : T.2 = 0
        · obtain ⟨h1, h2⟩ := hT0 h0
          subst h1
          repeat' (first | (apply And.intro <;> intro hc <;> (first | exact Bool.noConfusion hc | (exfalso; first | exact absurd rfl hc | exact absurd h0 hc | omega) | (simp only [decide_eq_true_eq, decide_eq_false_iff_not, Bool.not_eq_true', Bool.not_eq_false', beq_iff_eq, beq_eq_false_iff_ne, bne_iff_ne, bne_eq_false_iff_eq, Bool.true_eq_false, Bool.false_eq_true, ne_eq, not_true_eq_false] at hc <;> first | exact absurd rfl hc | (exfalso; first | exact absurd rfl hc | exact absurd h0 hc | omega) | skip) | skip)) | (refine And.intro (by first | exact trivial | decide | omega | (dsimp only; omega) | exact fun _ _ => rfl | exact ⟨by assumption, by first | exact trivial | decide | omega | (dsimp only; omega)⟩) ?_) | (apply And.intro) | (intro s hs; (first | (clear g1; have q : T = s := (hs.trans ((tun_eq (pk_is (h := X.1) (l := X.2) (fun j hj => by (iterate 38 (rcases j with _ | j; exact rfl)); exact absurd hj (by omega)) (toL_b X.2)) (rd_ip a) (rd_ip b)).trans eT)).symm; clear hs; subst q) | (clear g2; have q : T = s := (hs.trans ((tun_eq (pk_is (h := X.1) (l := X.2) (fun j hj => by (iterate 38 (rcases j with _ | j; exact rfl)); exact absurd hj (by omega)) (toL_b X.2)) (rd_ip a) (rd_ip b)).trans eT)).symm; clear hs; subst q) | (clear g3; have q : O = s := (hs.trans ((congrArg opnF (pk_is (h := X.1) (l := X.2) (fun j hj => by (iterate 38 (rcases j with _ | j; exact rfl)); exact absurd hj (by omega)) (toL_b X.2))).trans eO)).symm; clear hs; subst q) | (clear g4; have q : O = s := (hs.trans ((congrArg opnF (pk_is (h := X.1) (l := X.2) (fun j hj => by (iterate 38 (rcases j with _ | j; exact rfl)); exact absurd hj (by omega)) (toL_b X.2))).trans eO)).symm; clear hs; subst q) | (clear g5; have q : s = true := hs; clear hs; subst q) | (clear g6; have q : s = true := hs; clear hs; subst q) | (clear g7; have q : s = (X, 0) := hs.trans ((congrArg opnF (pk_is (h := T.1.1) (l := T.1.2) (fun j hj => by (iterate 38 (rcases j with _ | j; exact rfl)); exact absurd hj (by omega)) (toL_b T.1.2))).trans eO2); clear hs; subst q) | (clear g8; have q : s = true := hs; clear hs; subst q) | (clear g9; have q : s = true := hs.trans ((congrArg validP (pk_is (h := T.1.1) (l := T.1.2) (fun j hj => by (iterate 38 (rcases j with _ | j; exact rfl)); exact absurd hj (by omega)) (toL_b T.1.2))).trans h2); clear hs; subst q) | skip)))
          all_goals first
            | exact rfl
            | exact fun _ => rfl
            | exact Eq.mp (congrArg byteOk (rd_ip a).symm) ha
            | exact Eq.mp (congrArg byteOk (rd_ip b).symm) hb
            | (show (toL eB X.2.length _).length ≤ _; rw [toL_len]; omega)
            | (show (toL eB T.1.2.length _).length ≤ _; rw [toL_len]; omega)
            | (show (toL eB O.1.2.length _).length ≤ _; rw [toL_len]; omega)
            | (show BL (toL eB X.2.length _); exact Eq.mp (congrArg BL (toL_b X.2).symm) hXw.pay)
            | (show BL (toL eB T.1.2.length _); exact Eq.mp (congrArg BL (toL_b T.1.2).symm) hTb)
            | exact Eq.mp (congrArg PkW (pk_is (h := X.1) (l := X.2) (fun j hj => by (iterate 38 (rcases j with _ | j; exact rfl)); exact absurd hj (by omega)) (toL_b X.2)).symm) hXw
            | exact (pk_is (h := T.1.1) (l := T.1.2) (fun j hj => by (iterate 38 (rcases j with _ | j; exact rfl)); exact absurd hj (by omega)) (toL_b T.1.2)).trans (pk_is (h := T.1.1) (l := T.1.2) (fun j hj => by (iterate 38 (rcases j with _ | j; exact rfl)); exact absurd hj (by omega)) (toL_b T.1.2)).symm
            | exact (pk_is (h := O.1.1) (l := O.1.2) (fun j hj => by (iterate 38 (rcases j with _ | j; exact rfl)); exact absurd hj (by omega)) (toL_b O.1.2)).trans (pk_is (h := O.1.1) (l := O.1.2) (fun j hj => by (iterate 38 (rcases j with _ | j; exact rfl)); exact absurd hj (by omega)) (toL_b O.1.2)).symm
            | exact (pk_is (h := X.1) (l := X.2) (fun j hj => by (iterate 38 (rcases j with _ | j; exact rfl)); exact absurd hj (by omega)) (toL_b X.2)).trans (pk_is (h := X.1) (l := X.2) (fun j hj => by (iterate 38 (rcases j with _ | j; exact rfl)); exact absurd hj (by omega)) (toL_b X.2)).symm
            | (refine ⟨⟨1, by omega⟩, [], by first | omega | (dsimp only; omega) | decide, rfl, ?_, ?_⟩
               · repeat' (first | exact trivial | exact rfl | exact leF_ptr rfl | exact leF_int rfl | exact leF_bool rfl | exact leF_cl (cl_slB _ _) | exact leF_cl (cl_slR _ _) | exact leF_cl (cl_ll _ _) | exact leF_c (leC_os rfl rfl) | refine leF_int ?_ | refine leF_bool ?_ | exact leN_varA (fun _ _ => (Elem.flat _ _ _).le) | exact leN_varA (fun _ _ => leC_top) | apply And.intro)
               · repeat' (first | exact trivial | exact rfl | exact leF_ptr rfl | exact leF_int rfl | exact leF_bool rfl | exact leF_cl (cl_slB _ _) | exact leF_cl (cl_slR _ _) | exact leF_cl (cl_ll _ _) | exact leF_c (leC_os rfl rfl) | refine leF_int ?_ | refine leF_bool ?_ | exact leN_varA (fun _ _ => (Elem.flat _ _ _).le) | exact leN_varA (fun _ _ => leC_top) | apply And.intro)
                 all_goals first
                   | exact leN_varA fun j hj => leC_int rfl
                   | exact leN_row rfl fun i hi j hj => lst2_le rfl
                   | skip)
            | skip
        · skip
          repeat' (first | (apply And.intro <;> intro hc <;> (first | exact Bool.noConfusion hc | (exfalso; first | exact absurd rfl hc | exact absurd hc h0 | omega) | (simp only [decide_eq_true_eq, decide_eq_false_iff_not, Bool.not_eq_true', Bool.not_eq_false', beq_iff_eq, beq_eq_false_iff_ne, bne_iff_ne, bne_eq_false_iff_eq, Bool.true_eq_false, Bool.false_eq_true, ne_eq, not_true_eq_false] at hc <;> first | exact absurd rfl hc | (exfalso; first | exact absurd rfl hc | exact absurd hc h0 | omega) | skip) | skip)) | (refine And.intro (by first | exact trivial | decide | omega | (dsimp only; omega) | exact fun _ _ => rfl | exact ⟨by assumption, by first | exact trivial | decide | omega | (dsimp only; omega)⟩) ?_) | (apply And.intro) | (intro s hs; (first | (clear g1; have q : T = s := (hs.trans ((tun_eq (pk_is (h := X.1) (l := X.2) (fun j hj => by (iterate 38 (rcases j with _ | j; exact rfl)); exact absurd hj (by omega)) (toL_b X.2)) (rd_ip a) (rd_ip b)).trans eT)).symm; clear hs; subst q) | (clear g2; have q : T = s := (hs.trans ((tun_eq (pk_is (h := X.1) (l := X.2) (fun j hj => by (iterate 38 (rcases j with _ | j; exact rfl)); exact absurd hj (by omega)) (toL_b X.2)) (rd_ip a) (rd_ip b)).trans eT)).symm; clear hs; subst q) | (clear g3; have q : O = s := (hs.trans ((congrArg opnF (pk_is (h := X.1) (l := X.2) (fun j hj => by (iterate 38 (rcases j with _ | j; exact rfl)); exact absurd hj (by omega)) (toL_b X.2))).trans eO)).symm; clear hs; subst q) | (clear g4; have q : O = s := (hs.trans ((congrArg opnF (pk_is (h := X.1) (l := X.2) (fun j hj => by (iterate 38 (rcases j with _ | j; exact rfl)); exact absurd hj (by omega)) (toL_b X.2))).trans eO)).symm; clear hs; subst q) | (clear g5; have q : s = true := hs; clear hs; subst q) | (clear g6; have q : s = true := hs; clear hs; subst q) | (clear g7; have q : s = (X, 0) := hs.trans ((congrArg opnF (pk_is (h := T.1.1) (l := T.1.2) (fun j hj => by (iterate 38 (rcases j with _ | j; exact rfl)); exact absurd hj (by omega)) (toL_b T.1.2))).trans eO2); clear hs; subst q) | (clear g8; have q : s = true := hs; clear hs; subst q) | (clear g9; have q : s = true := hs.trans ((congrArg validP (pk_is (h := T.1.1) (l := T.1.2) (fun j hj => by (iterate 38 (rcases j with _ | j; exact rfl)); exact absurd hj (by omega)) (toL_b T.1.2))).trans h2); clear hs; subst q) | skip)))
          all_goals first
            | exact rfl
            | exact fun _ => rfl
            | exact Eq.mp (congrArg byteOk (rd_ip a).symm) ha
            | exact Eq.mp (congrArg byteOk (rd_ip b).symm) hb
            | (show (toL eB X.2.length _).length ≤ _; rw [toL_len]; omega)
            | (show (toL eB T.1.2.length _).length ≤ _; rw [toL_len]; omega)
            | (show (toL eB O.1.2.length _).length ≤ _; rw [toL_len]; omega)
            | (show BL (toL eB X.2.length _); exact Eq.mp (congrArg BL (toL_b X.2).symm) hXw.pay)
            | (show BL (toL eB T.1.2.length _); exact Eq.mp (congrArg BL (toL_b T.1.2).symm) hTb)
            | exact Eq.mp (congrArg PkW (pk_is (h := X.1) (l := X.2) (fun j hj => by (iterate 38 (rcases j with _ | j; exact rfl)); exact absurd hj (by omega)) (toL_b X.2)).symm) hXw
            | exact (pk_is (h := T.1.1) (l := T.1.2) (fun j hj => by (iterate 38 (rcases j with _ | j; exact rfl)); exact absurd hj (by omega)) (toL_b T.1.2)).trans (pk_is (h := T.1.1) (l := T.1.2) (fun j hj => by (iterate 38 (rcases j with _ | j; exact rfl)); exact absurd hj (by omega)) (toL_b T.1.2)).symm
            | exact (pk_is (h := O.1.1) (l := O.1.2) (fun j hj => by (iterate 38 (rcases j with _ | j; exact rfl)); exact absurd hj (by omega)) (toL_b O.1.2)).trans (pk_is (h := O.1.1) (l := O.1.2) (fun j hj => by (iterate 38 (rcases j with _ | j; exact rfl)); exact absurd hj (by omega)) (toL_b O.1.2)).symm
            | exact (pk_is (h := X.1) (l := X.2) (fun j hj => by (iterate 38 (rcases j with _ | j; exact rfl)); exact absurd hj (by omega)) (toL_b X.2)).trans (pk_is (h := X.1) (l := X.2) (fun j hj => by (iterate 38 (rcases j with _ | j; exact rfl)); exact absurd hj (by omega)) (toL_b X.2)).symm
            | (refine ⟨⟨1, by omega⟩, [], by first | omega | (dsimp only; omega) | decide, rfl, ?_, ?_⟩
               · repeat' (first | exact trivial | exact rfl | exact leF_ptr rfl | exact leF_int rfl | exact leF_bool rfl | exact leF_cl (cl_slB _ _) | exact leF_cl (cl_slR _ _) | exact leF_cl (cl_ll _ _) | exact leF_c (leC_os rfl rfl) | refine leF_int ?_ | refine leF_bool ?_ | exact leN_varA (fun _ _ => (Elem.flat _ _ _).le) | exact leN_varA (fun _ _ => leC_top) | apply And.intro)
               · repeat' (first | exact trivial | exact rfl | exact leF_ptr rfl | exact leF_int rfl | exact leF_bool rfl | exact leF_cl (cl_slB _ _) | exact leF_cl (cl_slR _ _) | exact leF_cl (cl_ll _ _) | exact leF_c (leC_os rfl rfl) | refine leF_int ?_ | refine leF_bool ?_ | exact leN_varA (fun _ _ => (Elem.flat _ _ _).le) | exact leN_varA (fun _ _ => leC_top) | apply And.intro)
                 all_goals first
                   | exact leN_varA fun j hj => leC_int rfl
                   | exact leN_row rfl fun i hi j hj => lst2_le rfl
                   | skip)
            | skip
      · dsimp only
        obtain ⟨T, eT⟩ : ∃ T, tunF Y a b = T := ⟨_, rfl⟩
        obtain ⟨O, eO⟩ : ∃ O, opnF Y = O := ⟨_, rfl⟩
        have hT := tunF_facts hYw ha hb
        have hO := opnF_len Y
        rw [eT] at hT
        rw [eO] at hO
        obtain ⟨⟨hTb, hTl⟩, hT0⟩ := hT
        obtain ⟨O2, eO2⟩ : ∃ O2, opnF T.1 = O2 := ⟨_, rfl⟩
        rw [eO2] at hT0
        have g1 : True := trivial
        have g2 : True := trivial
        have g3 : True := trivial
        have g4 : True := trivial
        have g5 : True := trivial
        have g6 : True := trivial
        have g7 : True := trivial
        have g8 : True := trivial
        have g9 : True := trivial
        by_cases h0 : T.2 = 0
        · obtain ⟨h1, h2⟩ := hT0 h0
          subst h1
          repeat' (first | (apply And.intro <;> intro hc <;> (first | exact Bool.noConfusion hc | (exfalso; first | exact absurd rfl hc | exact absurd h0 hc | omega) | (simp only [decide_eq_true_eq, decide_eq_false_iff_not, Bool.not_eq_true', Bool.not_eq_false', beq_iff_eq, beq_eq_false_iff_ne, bne_iff_ne, bne_eq_false_iff_eq, Bool.true_eq_false, Bool.false_eq_true, ne_eq, not_true_eq_false] at hc <;> first | exact absurd rfl hc | (exfalso; first | exact absurd rfl hc | exact absurd h0 hc | omega) | skip) | skip)) | (refine And.intro (by first | exact trivial | decide | omega | (dsimp only; omega) | exact fun _ _ => rfl | exact ⟨by assumption, by first | exact trivial | decide | omega | (dsimp only; omega)⟩) ?_) | (apply And.intro) | (intro s hs; (first | (clear g1; have q : T = s := (hs.trans ((tun_eq (pk_is (h := Y.1) (l := Y.2) (fun j hj => by (iterate 38 (rcases j with _ | j; exact rfl)); exact absurd hj (by omega)) (toL_b Y.2)) (rd_ip a) (rd_ip b)).trans eT)).symm; clear hs; subst q) | (clear g2; have q : T = s := (hs.trans ((tun_eq (pk_is (h := Y.1) (l := Y.2) (fun j hj => by (iterate 38 (rcases j with _ | j; exact rfl)); exact absurd hj (by omega)) (toL_b Y.2)) (rd_ip a) (rd_ip b)).trans eT)).symm; clear hs; subst q) | (clear g3; have q : O = s := (hs.trans ((congrArg opnF (pk_is (h := Y.1) (l := Y.2) (fun j hj => by (iterate 38 (rcases j with _ | j; exact rfl)); exact absurd hj (by omega)) (toL_b Y.2))).trans eO)).symm; clear hs; subst q) | (clear g4; have q : O = s := (hs.trans ((congrArg opnF (pk_is (h := Y.1) (l := Y.2) (fun j hj => by (iterate 38 (rcases j with _ | j; exact rfl)); exact absurd hj (by omega)) (toL_b Y.2))).trans eO)).symm; clear hs; subst q) | (clear g5; have q : s = true := hs; clear hs; subst q) | (clear g6; have q : s = true := hs; clear hs; subst q) | (clear g7; have q : s = (Y, 0) := hs.trans ((congrArg opnF (pk_is (h := T.1.1) (l := T.1.2) (fun j hj => by (iterate 38 (rcases j with _ | j; exact rfl)); exact absurd hj (by omega)) (toL_b T.1.2))).trans eO2); clear hs; subst q) | (clear g8; have q : s = true := hs; clear hs; subst q) | (clear g9; have q : s = true := hs.trans ((congrArg validP (pk_is (h := T.1.1) (l := T.1.2) (fun j hj => by (iterate 38 (rcases j with _ | j; exact rfl)); exact absurd hj (by omega)) (toL_b T.1.2))).trans h2); clear hs; subst q) | skip)))
          all_goals first
            | exact rfl
            | exact fun _ => rfl
            | exact Eq.mp (congrArg byteOk (rd_ip a).symm) ha
            | exact Eq.mp (congrArg byteOk (rd_ip b).symm) hb
            | (show (toL eB Y.2.length _).length ≤ _; rw [toL_len]; omega)
            | (show (toL eB T.1.2.length _).length ≤ _; rw [toL_len]; omega)
            | (show (toL eB O.1.2.length _).length ≤ _; rw [toL_len]; omega)
            | (show BL (toL eB Y.2.length _); exact Eq.mp (congrArg BL (toL_b Y.2).symm) hYw.pay)
            | (show BL (toL eB T.1.2.length _); exact Eq.mp (congrArg BL (toL_b T.1.2).symm) hTb)
            | exact Eq.mp (congrArg PkW (pk_is (h := Y.1) (l := Y.2) (fun j hj => by (iterate 38 (rcases j with _ | j; exact rfl)); exact absurd hj (by omega)) (toL_b Y.2)).symm) hYw
            | exact (pk_is (h := T.1.1) (l := T.1.2) (fun j hj => by (iterate 38 (rcases j with _ | j; exact rfl)); exact absurd hj (by omega)) (toL_b T.1.2)).trans (pk_is (h := T.1.1) (l := T.1.2) (fun j hj => by (iterate 38 (rcases j with _ | j; exact rfl)); exact absurd hj (by omega)) (toL_b T.1.2)).symm
            | exact (pk_is (h := O.1.1) (l := O.1.2) (fun j hj => by (iterate 38 (rcases j with _ | j; exact rfl)); exact absurd hj (by omega)) (toL_b O.1.2)).trans (pk_is (h := O.1.1) (l := O.1.2) (fun j hj => by (iterate 38 (rcases j with _ | j; exact rfl)); exact absurd hj (by omega)) (toL_b O.1.2)).symm
            | exact (pk_is (h := Y.1) (l := Y.2) (fun j hj => by (iterate 38 (rcases j with _ | j; exact rfl)); exact absurd hj (by omega)) (toL_b Y.2)).trans (pk_is (h := Y.1) (l := Y.2) (fun j hj => by (iterate 38 (rcases j with _ | j; exact rfl)); exact absurd hj (by omega)) (toL_b Y.2)).symm
            | (refine ⟨⟨2, by omega⟩, [], by first | omega | (dsimp only; omega) | decide, rfl, ?_, ?_⟩
               · repeat' (first | exact trivial | exact rfl | exact leF_ptr rfl | exact leF_int rfl | exact leF_bool rfl | exact leF_cl (cl_slB _ _) | exact leF_cl (cl_slR _ _) | exact leF_cl (cl_ll _ _) | exact leF_c (leC_os rfl rfl) | refine leF_int ?_ | refine leF_bool ?_ | exact leN_varA (fun _ _ => (Elem.flat _ _ _).le) | exact leN_varA (fun _ _ => leC_top) | apply And.intro)
               · repeat' (first | exact trivial | exact rfl | exact leF_ptr rfl | exact leF_int rfl | exact leF_bool rfl | exact leF_cl (cl_slB _ _) | exact leF_cl (cl_slR _ _) | exact leF_cl (cl_ll _ _) | exact leF_c (leC_os rfl rfl) | refine leF_int ?_ | refine leF_bool ?_ | exact leN_varA (fun _ _ => (Elem.flat _ _ _).le) | exact leN_varA (fun _ _ => leC_top) | apply And.intro)
                 all_goals first
                   | exact leN_varA fun j hj => leC_int rfl
                   | exact leN_row rfl fun i hi j hj => lst2_le rfl
                   | skip)
            | skip
        · skip
          repeat' (first | (apply And.intro <;> intro hc <;> (first | exact Bool.noConfusion hc | (exfalso; first | exact absurd rfl hc | exact absurd hc h0 | omega) | (simp only [decide_eq_true_eq, decide_eq_false_iff_not, Bool.not_eq_true', Bool.not_eq_false', beq_iff_eq, beq_eq_false_iff_ne, bne_iff_ne, bne_eq_false_iff_eq, Bool.true_eq_false, Bool.false_eq_true, ne_eq, not_true_eq_false] at hc <;> first | exact absurd rfl hc | (exfalso; first | exact absurd rfl hc | exact absurd hc h0 | omega) | skip) | skip)) | (refine And.intro (by first | exact trivial | decide | omega | (dsimp only; omega) | exact fun _ _ => rfl | exact ⟨by assumption, by first | exact trivial | decide | omega | (dsimp only; omega)⟩) ?_) | (apply And.intro) | (intro s hs; (first | (clear g1; have q : T = s := (hs.trans ((tun_eq (pk_is (h := Y.1) (l := Y.2) (fun j hj => by (iterate 38 (rcases j with _ | j; exact rfl)); exact absurd hj (by omega)) (toL_b Y.2)) (rd_ip a) (rd_ip b)).trans eT)).symm; clear hs; subst q) | (clear g2; have q : T = s := (hs.trans ((tun_eq (pk_is (h := Y.1) (l := Y.2) (fun j hj => by (iterate 38 (rcases j with _ | j; exact rfl)); exact absurd hj (by omega)) (toL_b Y.2)) (rd_ip a) (rd_ip b)).trans eT)).symm; clear hs; subst q) | (clear g3; have q : O = s := (hs.trans ((congrArg opnF (pk_is (h := Y.1) (l := Y.2) (fun j hj => by (iterate 38 (rcases j with _ | j; exact rfl)); exact absurd hj (by omega)) (toL_b Y.2))).trans eO)).symm; clear hs; subst q) | (clear g4; have q : O = s := (hs.trans ((congrArg opnF (pk_is (h := Y.1) (l := Y.2) (fun j hj => by (iterate 38 (rcases j with _ | j; exact rfl)); exact absurd hj (by omega)) (toL_b Y.2))).trans eO)).symm; clear hs; subst q) | (clear g5; have q : s = true := hs; clear hs; subst q) | (clear g6; have q : s = true := hs; clear hs; subst q) | (clear g7; have q : s = (Y, 0) := hs.trans ((congrArg opnF (pk_is (h := T.1.1) (l := T.1.2) (fun j hj => by (iterate 38 (rcases j with _ | j; exact rfl)); exact absurd hj (by omega)) (toL_b T.1.2))).trans eO2); clear hs; subst q) | (clear g8; have q : s = true := hs; clear hs; subst q) | (clear g9; have q : s = true := hs.trans ((congrArg validP (pk_is (h := T.1.1) (l := T.1.2) (fun j hj => by (iterate 38 (rcases j with _ | j; exact rfl)); exact absurd hj (by omega)) (toL_b T.1.2))).trans h2); clear hs; subst q) | skip)))
          all_goals first
            | exact rfl
            | exact fun _ => rfl
            | exact Eq.mp (congrArg byteOk (rd_ip a).symm) ha
            | exact Eq.mp (congrArg byteOk (rd_ip b).symm) hb
            | (show (toL eB Y.2.length _).length ≤ _; rw [toL_len]; omega)
            | (show (toL eB T.1.2.length _).length ≤ _; rw [toL_len]; omega)
            | (show (toL eB O.1.2.length _).length ≤ _; rw [toL_len]; omega)
            | (show BL (toL eB Y.2.length _); exact Eq.mp (congrArg BL (toL_b Y.2).symm) hYw.pay)
            | (show BL (toL eB T.1.2.length _); exact Eq.mp (congrArg BL (toL_b T.1.2).symm) hTb)
            | exact Eq.mp (congrArg PkW (pk_is (h := Y.1) (l := Y.2) (fun j hj => by (iterate 38 (rcases j with _ | j; exact rfl)); exact absurd hj (by omega)) (toL_b Y.2)).symm) hYw
            | exact (pk_is (h := T.1.1) (l := T.1.2) (fun j hj => by (iterate 38 (rcases j with _ | j; exact rfl)); exact absurd hj (by omega)) (toL_b T.1.2)).trans (pk_is (h := T.1.1) (l := T.1.2) (fun j hj => by (iterate 38 (rcases j with _ | j; exact rfl)); exact absurd hj (by omega)) (toL_b T.1.2)).symm
            | exact (pk_is (h := O.1.1) (l := O.1.2) (fun j hj => by (iterate 38 (rcases j with _ | j; exact rfl)); exact absurd hj (by omega)) (toL_b O.1.2)).trans (pk_is (h := O.1.1) (l := O.1.2) (fun j hj => by (iterate 38 (rcases j with _ | j; exact rfl)); exact absurd hj (by omega)) (toL_b O.1.2)).symm
            | exact (pk_is (h := Y.1) (l := Y.2) (fun j hj => by (iterate 38 (rcases j with _ | j; exact rfl)); exact absurd hj (by omega)) (toL_b Y.2)).trans (pk_is (h := Y.1) (l := Y.2) (fun j hj => by (iterate 38 (rcases j with _ | j; exact rfl)); exact absurd hj (by omega)) (toL_b Y.2)).symm
            | (refine ⟨⟨2, by omega⟩, [], by first | omega | (dsimp only; omega) | decide, rfl, ?_, ?_⟩
               · repeat' (first | exact trivial | exact rfl | exact leF_ptr rfl | exact leF_int rfl | exact leF_bool rfl | exact leF_cl (cl_slB _ _) | exact leF_cl (cl_slR _ _) | exact leF_cl (cl_ll _ _) | exact leF_c (leC_os rfl rfl) | refine leF_int ?_ | refine leF_bool ?_ | exact leN_varA (fun _ _ => (Elem.flat _ _ _).le) | exact leN_varA (fun _ _ => leC_top) | apply And.intro)
               · repeat' (first | exact trivial | exact rfl | exact leF_ptr rfl | exact leF_int rfl | exact leF_bool rfl | exact leF_cl (cl_slB _ _) | exact leF_cl (cl_slR _ _) | exact leF_cl (cl_ll _ _) | exact leF_c (leC_os rfl rfl) | refine leF_int ?_ | refine leF_bool ?_ | exact leN_varA (fun _ _ => (Elem.flat _ _ _).le) | exact leN_varA (fun _ _ => leC_top) | apply And.intro)
                 all_goals first
                   | exact leN_varA fun j hj => leC_int rfl
                   | exact leN_row rfl fun i hi j hj => lst2_le rfl
                   | skip)
            | skip
      · dsimp only
        repeat' (first | (apply And.intro <;> intro hc <;> (first | exact Bool.noConfusion hc | (exfalso; first | omega) | (simp only [decide_eq_true_eq, decide_eq_false_iff_not, Bool.not_eq_true', Bool.not_eq_false', beq_iff_eq, beq_eq_false_iff_ne, bne_iff_ne, bne_eq_false_iff_eq, Bool.true_eq_false, Bool.false_eq_true, ne_eq, not_true_eq_false] at hc <;> first | exact absurd rfl hc | (exfalso; first | omega) | skip) | skip)) | (refine And.intro (by first | exact trivial | decide | omega | (dsimp only; omega) | exact fun _ _ => rfl | exact ⟨by assumption, by first | exact trivial | decide | omega | (dsimp only; omega)⟩) ?_) | (apply And.intro) | (intro s hs; (have q : s = true := hs; clear hs; subst q)))
        all_goals first
          | exact Done.mk (leF_bool rfl)
          | skip
      · omega
    · refine ⟨rfl, ?_, ?_⟩
      · repeat' (first | exact trivial | exact rfl | exact leF_ptr rfl | exact leF_int rfl | exact leF_bool rfl | exact leF_cl (cl_slB _ _) | exact leF_cl (cl_slR _ _) | exact leF_cl (cl_ll _ _) | exact leF_c (leC_os rfl rfl) | refine leF_int ?_ | refine leF_bool ?_ | exact leN_varA (fun _ _ => (Elem.flat _ _ _).le) | exact leN_varA (fun _ _ => leC_top) | apply And.intro)
      · repeat' (first | exact trivial | exact rfl | exact leF_ptr rfl | exact leF_int rfl | exact leF_bool rfl | exact leF_cl (cl_slB _ _) | exact leF_cl (cl_slR _ _) | exact leF_cl (cl_ll _ _) | exact leF_c (leC_os rfl rfl) | refine leF_int ?_ | refine leF_bool ?_ | exact leN_varA (fun _ _ => (Elem.flat _ _ _).le) | exact leN_varA (fun _ _ => leC_top) | apply And.intro)
        all_goals first
          | exact leN_varA fun j hj => leC_int rfl
          | (refine leN_row rfl fun i hi j hj => ?_
             have hi : i < 2 := hi
             have hj : j < 39 := hj
             rcases i with _ | _ | i
             · iterate 38 (rcases j with _ | j; exact leC_int rfl)
               rcases j with _ | j
               · exact cl_slR eB X.2 _ rfl
               · exact absurd hj (by omega)
             · rw [eY]
               iterate 38 (rcases j with _ | j; exact leC_int rfl)
               rcases j with _ | j
               · exact cl_slR eB pay _ rfl
               · exact absurd hj (by omega)
             · omega)
          | skip
end Go.Proofs.Ytjknkfjhcapocaa.AX
/- Arguments of laws: structs of numbers that end in a slice of numbers. -/
namespace Go.Proofs.Ytjknkfjhcapocaa
open Go.ChangeShapes Go.WideShapes Go.RowKit AX
set_option linter.unusedVariables false
/-- What is known of such an argument: its flat cells, its slice. -/
def TailArg (w : World) (ks : List (Option IntKind)) (k : IntKind) (b : Nat) (cs : Array Value) : Prop :=
  ∃ a len cap zs, Mt ks (cs.toList.take ks.length) ∧ cs.toList.drop ks.length = [.slice a len cap] ∧ IsRow k w a len cap zs ∧ cap * b ≤ reachBytes
section
variable {H : Type} {enc : TypeId × Value → H} {P : Program} {w : World} {base : Nat}
theorem flatFs_in {g : TypeId → Option (List (Option IntKind))} : ∀ (fs : List Field) (off : Nat) (ks : List (Option IntKind)), flatFs P g fs off = some ks → ∀ fd ∈ fs, ∀ l, g fd.type = some l → fd.offset + P.cellsOf fd.type ≤ off + ks.length := by
  intro fs
  induction fs with
  | nil => intro off ks _ fd h; cases h
  | cons f0 rest ih =>
    intro off ks h fd hm l hl
    simp only [flatFs] at h
    split at h
    · rename_i l0 hg
      cases hb : (Nat.beq f0.offset off && Nat.beq (P.cellsOf f0.type) l0.length) with
      | false => rw [hb] at h; cases h
      | true =>
        rw [hb, cond_true] at h
        simp only [Bool.and_eq_true] at hb
        have h1 := Nat.eq_of_beq_eq_true hb.1
        have h2 := Nat.eq_of_beq_eq_true hb.2
        cases hr : flatFs P g rest (off + l0.length) with
        | none => rw [hr] at h; cases h
        | some l' =>
          rw [hr] at h
          simp only [Option.map_some, Option.some.injEq] at h
          subst h
          rw [List.length_append]
          rcases List.mem_cons.1 hm with rfl | hm
          · omega
          · have := ih _ _ hr fd hm l hl
            omega
    · cases h
theorem flatFs_all {g : TypeId → Option (List (Option IntKind))} : ∀ (fs : List Field) (off : Nat) (ks : List (Option IntKind)), flatFs P g fs off = some ks → ∀ fd ∈ fs, ∃ l, g fd.type = some l := by
  intro fs
  induction fs with
  | nil => intro off ks _ fd h; cases h
  | cons f0 rest ih =>
    intro off ks h fd hm
    simp only [flatFs] at h
    split at h
    · rename_i l0 hg
      cases hb : (Nat.beq f0.offset off && Nat.beq (P.cellsOf f0.type) l0.length) with
      | false => rw [hb] at h; cases h
      | true =>
        rw [hb, cond_true] at h
        cases hr : flatFs P g rest (off + l0.length) with
        | none => rw [hr] at h; cases h
        | some l' =>
          rcases List.mem_cons.1 hm with rfl | hm
          · exact ⟨_, hg⟩
          · exact ih _ _ hr fd hm
    · cases h
theorem open_tail {r : Reach} {b0 f m b : Nat} {t e : TypeId} {v : Value} {d : DataW H} {ps : List MemPlace} {ks : List (Option IntKind)} {k : IntKind} {fs : Array Field} {fd : Field} (ht : P.underlying t = some (.struct fs)) (hf : flatFs P (flat P f) (fs.toList.take m) 0 = some ks)
    (hl : fs[m]? = some fd) (hn : fs.size = m + 1) (ho : fd.offset = ks.length) (hs : P.underlying fd.type = some (.slice e)) (he : P.underlying e = some (.int k)) (hc : P.cellsOf e = 1) (hc2 : P.cellsOf fd.type = 1) (hct : P.cellsOf t = ks.length + 1) (hby : P.bytesOf e = b)
    (hval : Value.okWide P w r b0 t v) (hd : DataW.Trod enc P w base (fun _ => true) true t v d ps) (hw : ∀ n ∈ d.weights P t, n ≤ reachBytes) :
    ∃ cs : Array Value, v = .agg cs ∧ TailArg w ks k b cs := by
  have hv : ∃ cs, v = .agg cs := by
    unfold Value.okWide at hval
    rw [ht] at hval; obtain ⟨cs, rfl, _⟩ := hval; exact ⟨cs, rfl⟩
  obtain ⟨cs, rfl⟩ := hv
  obtain ⟨fuel, hd⟩ := hd
  obtain ⟨ys, n, _, hx, hlen, hyl, hfl⟩ := DataW.trod_struct ht hd
  injection hx with hx _
  have hcl : cs.toList.length = ks.length + 1 := hlen.trans hct
  refine ⟨cs, rfl, ?_⟩
  have hm8 := hfl m fd hl
  have hy8 : ys[m]? = some ys[m] := List.getElem?_eq_getElem (by omega)
  rw [hy8, ho, hc2] at hm8
  have hdr : (cs.toList.drop ks.length).take 1 = cs.toList.drop ks.length := List.take_of_length_le (by rw [List.length_drop]; omega)
  have hm8' : DataW.trod enc P w base (fun _ => true) true n fd.type (cs.toList.drop ks.length) = some ys[m] := by
    rw [← hdr]; exact hm8
  have hmt : Mt ks (cs.toList.take ks.length) := by
    have h1 := flatFs_mt (P := P) (cs := cs.toList.take ks.length) (fs.toList.take m) 0 ks hf (fun fd hfd l hg => ?_) (by rw [List.length_take]; omega)
    · simpa using h1
    · have hin := flatFs_in _ _ _ hf fd hfd l hg
      obtain ⟨i, hi, hfi⟩ := List.getElem_of_mem hfd
      have hi2 : i < m := by rw [List.length_take] at hi; omega
      have e1 : fs[i]? = some fd := by
        rw [List.getElem_take] at hfi
        rw [Array.getElem?_eq_getElem (by omega)]
        simpa using hfi
      have h2 := hfl i fd e1
      have hy : ys[i]? = some ys[i] := List.getElem?_eq_getElem (by omega)
      rw [hy] at h2
      have h3 := flat_mt _ _ _ _ _ _ hg h2
      rw [List.drop_take, List.take_take, Nat.min_eq_left (by omega)]
      exact h3
  rcases open_ints hs he hc hm8' with ⟨hcs, _⟩ | ⟨x, len, cap, zs, hcs, _, h1, h2, h3, h4, h5, h6⟩
  · exact ⟨none, 0, 0, [], hmt, hcs, .inl ⟨rfl, rfl, rfl, rfl⟩, by simp⟩
  · simp only [if_true] at h3
    refine ⟨some x, len, cap, zs, hmt, hcs, .inr ⟨x, rfl, h1, h2, h3, h5, h6⟩, ?_⟩
    have hd8 : ((ys.map (·.1))[m]?) = some (.slice (lits k (zs.take len)) (lits k (zs.drop len))) := by
      rw [List.getElem?_map, hy8, Option.map_some, h4]
    have ht8 : (fs.toList.map (·.type))[m]? = some fd.type := by
      rw [List.getElem?_map, Array.getElem?_toList, hl]; rfl
    have hwt : DataW.weights P t d = DataW.weightsEach P (fs.toList.map (·.type)) (ys.map (·.1)) := by
      rw [hx, DataW.weights, ht]
    have := hw (((lits (H := H) k (zs.take len)).length + (lits (H := H) k (zs.drop len)).length) * P.bytesOf e) (by
      rw [hwt]
      exact DataW.weights_mem_each ht8 hd8 _ (by simp [DataW.weights, hs]))
    simp only [lits, List.length_map, List.length_take, List.length_drop] at this
    rw [hby] at this
    have e9 : min len zs.length + (zs.length - len) = cap := by omega
    rw [e9] at this
    exact this
end
/-- Such an argument in the abstract. -/
theorem tail_rel {ks : List (Option IntKind)} {b : Nat} {cs : Array Value} {w : World} (h : TailArg w ks .u8 b cs) {α : Type} {E : Elem α} (hsz : E.sz = ks.length) (hok : ∀ g, MtC ks g → E.ok g = true) :
    ∃ (a : α) (l : List Int), (∃ g, MtC ks g ∧ a = E.rd g) ∧ BL l ∧ l.length * b ≤ reachBytes ∧ (FV.e (.agg (E.sz + 1) (tailC E a (.sl true l.length eB.sz (rowF eB l))))).rel (fun _ => none) (fun _ => False) (fun _ => False) w (.agg cs) := by
  obtain ⟨a, len, cap, zs, hm, hlast, hrow, hb⟩ := h
  obtain ⟨h1, h2⟩ := hm.g
  obtain ⟨l, hl, hlen, hrel⟩ := rowB_cut hrow
  have hle := (rowB_all hrow).2.2
  have hn : cs.size = E.sz + 1 := by
    have e1 := congrArg List.length hlast
    rw [List.length_drop] at e1
    have e2 := hm.len
    rw [List.length_take] at e2
    have e3 : cs.toList.length = cs.size := by simp
    simp only [List.length_cons, List.length_nil] at e1
    omega
  refine ⟨E.rd (gOf (cs.toList.take ks.length)), l, ⟨_, h1, rfl⟩, hl, Nat.le_trans (Nat.mul_le_mul_right _ (by omega)) hb, cs, rfl, hn, fun i u hu => ?_⟩
  have hi : i < cs.size := (Array.getElem?_eq_some_iff.1 hu).1
  have hu' : cs.toList[i]? = some u := by simpa using hu
  by_cases he : i = E.sz
  · subst he
    rw [tailC_end]
    have e1 : (cs.toList.drop ks.length)[0]? = some u := by
      rw [List.getElem?_drop, Nat.add_zero, ← hsz]; exact hu'
    rw [hlast] at e1
    injection e1 with e1
    rw [← e1]
    exact hrel
  · rw [tailC_lt (by omega), ← E.ok_eq _ (hok _ h1) i (by omega)]
    refine h2 _ _ _ _ i u ?_
    rw [List.getElem?_take, if_pos (by omega)]
    exact hu'
end Go.Proofs.Ytjknkfjhcapocaa
/- Packets and addresses as arguments of laws. -/
namespace Go.Proofs.Ytjknkfjhcapocaa
open Go.RowKit AX
set_option linter.unusedVariables false
abbrev ksPk : List (Option IntKind) := [some .u8, some .u32, some .u8, some .u8, some .u8, some .u8, some .u8, some .u8, some .u8, some .u8, some .u8, some .u8, some .u8, some .u8, some .u8, some .u8, some .u8, some .u8, some .u8, some .u8, some .u8, some .u8, some .u8, some .u8, some .u8, some .u8, some .u8, some .u8, some .u8, some .u8, some .u8, some .u8, some .u8, some .u8, some .u8, some .u8, some .u16, some .u16]
theorem ksPk_8 {i : Nat} (h : i < 32) : ksPk[4 + i]? = some (some .u8) := by
  iterate 32 (rcases i with _ | i; rfl)
  omega
theorem ok_pk (g : Nat → CV) (h : MtC ksPk g) : eHd.ok g = true := by
  have a1 : okA .u8 g 4 16 = true := okA_of fun i hi => h.k (j := 4 + i) (ksPk_8 (by omega))
  have a2 : okA .u8 g 20 16 = true := okA_of fun i hi => h.k (j := 20 + i) (by have := ksPk_8 (i := 16 + i) (by omega); rw [show 4 + (16 + i) = 20 + i by omega] at this; exact this)
  show (isK .u8 (g 0) && isK .u32 (g 1) && isK .u8 (g 2) && isK .u8 (g 3) && okA .u8 g 4 16 && okA .u8 g 20 16 && isK .u16 (g 36) && isK .u16 (g 37)) = true
  rw [h.k (j := 0) rfl, h.k (j := 1) rfl, h.k (j := 2) rfl, h.k (j := 3) rfl, h.k (j := 36) rfl, h.k (j := 37) rfl, a1, a2]; rfl
theorem wf_u16p {n : Int} (h : (Lit.int .u16 n).wf = true) : 0 ≤ n ∧ n < 65536 := by
  simp [Lit.wf, IntKind.min, IntKind.max, IntKind.bits, IntKind.signed] at h
  omega
/-- The numbers of a packet that came in are in their ranges. -/
theorem pk_wf {g : Nat → CV} (h : MtC ksPk g) {l : List Int} (hl : BL l) : PkW (eHd.rd g, l) := by
  have v8 : ∀ o i, i < 16 → (o = 4 ∨ o = 20) → 0 ≤ valI (g (o + i)) ∧ valI (g (o + i)) < 256 := fun o i hi ho => by
    rcases ho with rfl | rfl
    · exact wf_u8 (h.wf (j := 4 + i) (ksPk_8 (by omega)))
    · exact wf_u8 (h.wf (j := 20 + i) (by have := ksPk_8 (i := 16 + i) (by omega); rw [show 4 + (16 + i) = 20 + i by omega] at this; exact this))
  refine ⟨wf_u8 (h.wf (j := 0) rfl), wf_u32p (h.wf (j := 1) rfl), wf_u8 (h.wf (j := 2) rfl), wf_u8 (h.wf (j := 3) rfl), fun i => ?_, fun i => ?_, wf_u16p (h.wf (j := 36) rfl), wf_u16p (h.wf (j := 37) rfl), hl⟩
  · unfold vget
    split
    · exact v8 4 i (by assumption) (.inl rfl)
    · omega
  · unfold vget
    split
    · exact v8 20 i (by assumption) (.inr rfl)
    · omega
abbrev ksIp : List (Option IntKind) := [some .u8, some .u8, some .u8, some .u8, some .u8, some .u8, some .u8, some .u8, some .u8, some .u8, some .u8, some .u8, some .u8, some .u8, some .u8, some .u8]
theorem ksIp_8 : ∀ i, i < 16 → ksIp[0 + i]? = some (some .u8) := by decide
theorem ok_ip (g : Nat → CV) (h : MtC ksIp g) : (eA .u8 16).ok g = true := okA_of fun i hi => h.k (ksIp_8 i hi)
theorem ip_wf {c : Fin 16 → Int} (h : ∃ g, MtC ksIp g ∧ c = (eA .u8 16).rd g) : byteOk c := by
  obtain ⟨g, hg, rfl⟩ := h
  exact ⟨fun q => by have := wf_u8 (hg.wf (ksIp_8 q.1 q.2)); rw [Nat.zero_add] at this; exact this⟩
end Go.Proofs.Ytjknkfjhcapocaa
/- MobilityTunnels: the walk. -/
namespace Go.Proofs.Ytjknkfjhcapocaa
open Go.RowKit AX
set_option linter.unusedVariables false
theorem walkMobilityTunnels (x0 : Array Value) (a1 : Option Addr) (len1 cap1 : Nat) (z1 : List Int) (x2 : Array Value) (x3 : Array Value) (w : World) (w0 : TailArg w ksPk .u8 1 x0) (w1 : IsRow .i64 w a1 len1 cap1 z1) (rr1 : cap1 * 8 ≤ 140737488351232) (w2 : Mt ksIp x2.toList) (w3 : Mt ksIp x3.toList) :
    Calls Try.prog 13 #[.agg x0, .slice a1 len1 cap1, .agg x2, .agg x3] w fun e w' => e = .returned (.bool true) ∧ Below w.heap.size w w' := by
  obtain ⟨h, l, ⟨g, hg, hh⟩, hl, hlen, hrel⟩ := tail_rel w0 (E := eHd) rfl ok_pk
  obtain ⟨a, ha, h2⟩ := flat_rel w2 (E := eA .u8 16) (w := w) rfl ok_ip
  obtain ⟨b, hb, h3⟩ := flat_rel w3 (E := eA .u8 16) (w := w) rfl ok_ip
  have hbb := reachBytes_lt
  exact walk_of (tunnels_ok (h, l) (by rw [hh]; exact pk_wf hg hl) (by show l.length ≤ _; omega) len1 z1 (rng_of w1) a b (ip_wf ha) (ip_wf hb)) (relL_cons hrel (relL_cons (row_rel w1) (relL_cons h2 (relL1 h3))))
end Go.Proofs.Ytjknkfjhcapocaa
