/- What the makers draw from a tape: packets. -/
import Derived.Test.YtjknkfjhcapocaaTp2
import Derived.Test.YtjknkfjhcapocaaPk5
namespace Go.Proofs.Ytjknkfjhcapocaa.AX
open Go.RowKit
set_option linter.unusedVariables false
set_option linter.unusedSimpArgs false
set_option maxRecDepth 10000 in
theorem ip_ok (n : Nat) (l : List Int) (q : Int) (a : Adr) (ht : TapeOk n (rI l) q) :
    ∃ (r : Fin 16 → Int) (q' : Int), byteOk r ∧ TapeOk n (rI l) q' ∧ MethOk Try.prog 76 [(cE eAdr).enc a] (tapeN n (rI l) q) ((cE (eA .u8 16)).enc r) (tapeN n (rI l) q') := by
  refine tape_intro (wd := 1) (Q := mkQ LT2) (by decide) tysOk (q_of LT2_ok) mixed Try.func76 rfl _ (by show 1 + 1 ≤ _; decide) (nff_elem (eA .u8 16)) ?_
  repeat' (first | (apply And.intro <;> intro hc <;> (first | exact Bool.noConfusion hc | (simp only [decide_eq_true_eq, decide_eq_false_iff_not, Bool.not_eq_true', Bool.not_eq_false', beq_iff_eq, beq_eq_false_iff_ne, bne_iff_ne, bne_eq_false_iff_eq, Bool.true_eq_false, Bool.false_eq_true] at hc) | skip)) | (refine And.intro (by first | exact trivial | decide | omega | (dsimp only; omega) | exact fun _ _ => rfl | exact ⟨by assumption, by first | exact trivial | decide | omega | (dsimp only; omega)⟩) ?_) | (apply And.intro) | (intro s hs))
  all_goals first
    | exact ⟨(s, _), ⟨by rw [hs]; exact of_byteOk _ _, by assumption⟩, ⟨leF_e (leE_all (by repeat' (first | exact trivial | exact rfl | exact leC_int rfl | exact leC_bool rfl | refine leE_all ?_ | exact leC_bool (by assumption) | apply And.intro))), tapeN_le⟩⟩
    | (rename_i r hr; exact ⟨(r, _), ⟨hr, by assumption⟩, ⟨leF_e (leE_all (by repeat' (first | exact trivial | exact rfl | exact leC_int rfl | exact leC_bool rfl | refine leE_all ?_ | exact leC_bool (by assumption) | apply And.intro))), tapeN_le⟩⟩)
    | exact ⟨(fun _ => 0, _), ⟨⟨fun q => show (0 : Int) ≤ 0 ∧ (0 : Int) < 256 from ⟨by decide, by decide⟩⟩, by assumption⟩, ⟨leF_e (leE_all (by repeat' (first | exact trivial | exact rfl | exact leC_int rfl | exact leC_bool rfl | refine leE_all ?_ | exact leC_bool (by assumption) | apply And.intro))), tapeN_le⟩⟩
theorem addr_ok (n : Nat) (l : List Int) (q : Int) (ht : TapeOk n (rI l) q) :
    ∃ (r : Adr) (q' : Int), True ∧ TapeOk n (rI l) q' ∧ MethOk Try.prog 34 [] (tapeN n (rI l) q) ((cE eAdr).enc r) (tapeN n (rI l) q') := by
  refine tape_intro (wd := 1) (Q := mkQ LT2) (by decide) tysOk (q_of LT2_ok) mixed Try.func34 rfl _ (by show 0 + 1 ≤ _; decide) (nff_elem eAdr) ?_
  repeat' (first | (apply And.intro <;> intro hc <;> (first | exact Bool.noConfusion hc | (simp only [decide_eq_true_eq, decide_eq_false_iff_not, Bool.not_eq_true', Bool.not_eq_false', beq_iff_eq, beq_eq_false_iff_ne, bne_iff_ne, bne_eq_false_iff_eq, Bool.true_eq_false, Bool.false_eq_true] at hc) | skip)) | (refine And.intro (by first | exact trivial | decide | omega | (dsimp only; omega) | exact fun _ _ => rfl | exact ⟨by assumption, by first | exact trivial | decide | omega | (dsimp only; omega)⟩) ?_) | (apply And.intro) | (intro s hs))
  · exact ⟨(⟨2, 65535, 0⟩, _), ⟨trivial, by assumption⟩, ⟨leF_e (leE_all ⟨⟨⟨trivial, leC_int rfl⟩, leC_int rfl⟩, leC_int rfl⟩), tapeN_le⟩⟩
  · exact ⟨(⟨0, 0, 0⟩, _), ⟨trivial, by assumption⟩, ⟨leF_e (leE_all ⟨⟨⟨trivial, leC_int rfl⟩, leC_int rfl⟩, leC_int rfl⟩), tapeN_le⟩⟩
  · exact ⟨(⟨_, _, _⟩, _), ⟨trivial, by assumption⟩, ⟨leF_e (leE_all ⟨⟨⟨trivial, leC_int rfl⟩, leC_int rfl⟩, leC_int rfl⟩), tapeN_le⟩⟩
theorem u16r' (z : Int) : 0 ≤ IntKind.u16.wrap z ∧ IntKind.u16.wrap z < 65536 := by
  simp only [IntKind.wrap, IntKind.signed, IntKind.bits]
  constructor
  · exact Int.emod_nonneg _ (by decide)
  · exact Int.emod_lt_of_pos _ (by decide)
theorem port_ok (n : Nat) (l : List Int) (q : Int) (ht : TapeOk n (rI l) q) :
    ∃ (r : Int) (q' : Int), (0 ≤ r ∧ r < 65536) ∧ TapeOk n (rI l) q' ∧ MethOk Try.prog 78 [] (tapeN n (rI l) q) ((cI .u16).enc r) (tapeN n (rI l) q') := by
  refine tape_intro (wd := 1) (Q := mkQ LT2) (by decide) tysOk (q_of LT2_ok) mixed Try.func78 rfl _ (by show 0 + 1 ≤ _; decide) (fun _ => nff_int) ?_
  repeat' (first | (apply And.intro <;> intro hc <;> (first | exact Bool.noConfusion hc | (simp only [decide_eq_true_eq, decide_eq_false_iff_not, Bool.not_eq_true', Bool.not_eq_false', beq_iff_eq, beq_eq_false_iff_ne, bne_iff_ne, bne_eq_false_iff_eq, Bool.true_eq_false, Bool.false_eq_true] at hc) | skip)) | (refine And.intro (by first | exact trivial | decide | omega | (dsimp only; omega) | exact fun _ _ => rfl | exact ⟨by assumption, by first | exact trivial | decide | omega | (dsimp only; omega)⟩) ?_) | (apply And.intro) | (intro s hs))
  all_goals exact ⟨(_, _), ⟨u16r' _, by assumption⟩, ⟨leF_int rfl, tapeN_le⟩⟩
theorem nff_slB {L : List Int} : NFF (.e (.c (slR eB L))) := nff_c (nf_sl fun i _ j _ => (eB.flat _ _).nf)
structure BytS (n : Nat) (l : List Int) (K : Nat) where
  i : Nat
  L : List Int
  q : Int
  hi : i ≤ K
  hL : L.length = K
  hb : BL L
  ht : TapeOk n (rI l) q
theorem bl_set {L : List Int} {i : Nat} {v : Int} (h : BL L) (hv : 0 ≤ v ∧ v < 256) : BL (L.set i v) := ⟨fun x hx => by
  rcases List.mem_or_eq_of_mem_set hx with h1 | h1
  · exact h.m x h1
  · rw [h1]; exact hv⟩
theorem bl_rep (n : Nat) : BL (List.replicate n 0) := ⟨fun x hx => by rw [(List.mem_replicate.1 hx).2]; omega⟩
theorem isRow_rep (n : Nat) : IsRow (fun _ => nth [CV.int .u8 0]) (List.replicate n 0) := ⟨fun k hk => by show CV.int .u8 0 = _; rw [List.getD_eq_getElem?_getD, List.getElem?_eq_getElem hk, List.getElem_replicate]; rfl⟩
theorem leN_setI {c : Wc} {t : TypeId} {L : List Int} {idx i n : Nat} {x : Int} {g : Nat → CV} (e : idx = i) (hn : n = L.length) (hi : i < L.length) (hg : g 0 = .int .u8 x) : LeN c ⟨t, n, eB.sz, false, updE false (rowF eB L) idx g⟩ (ents eB t (L.set i x)) := by
  subst e
  refine leN_set hn hi (fun i _ j _ => (eB.flat _ _).le) fun j hj => ?_
  have hj : j < 1 := hj
  obtain rfl : j = 0 := by omega
  rw [hg]
  exact leC_int rfl
set_option maxHeartbeats 4000000 in
set_option maxRecDepth 10000 in
theorem bytes_ok (n : Nat) (l : List Int) (q m : Int) (ht : TapeOk n (rI l) q) (h1 : 0 ≤ m) (h2 : m ≤ 2000) :
    ∃ (r : List Int) (q' : Int), (BL r ∧ (r.length : Int) ≤ m) ∧ TapeOk n (rI l) q' ∧ MethOk Try.prog 77 [(cI .i64).enc m] (tapeN n (rI l) q) (.e (.c (slR eB r))) (tapeN n (rI l) q') := by
  have w1 : IntKind.i64.wrap (m + 1) = m + 1 := IntWalk.i64_in _ (by omega)
  refine tape_intro (S := fun r => BL r ∧ (r.length : Int) ≤ m) (enc := fun r => .e (.c (slR eB r))) (wd := 1) (Q := mkQ LT2) (by decide) tysOk (q_of LT2_ok) mixed Try.func77 rfl _ (by show 1 + 1 ≤ _; decide) (fun _ => nff_slB) ?_
  repeat' (first | (apply And.intro <;> intro hc <;> (first | exact Bool.noConfusion hc | (simp only [decide_eq_true_eq, decide_eq_false_iff_not, Bool.not_eq_true', Bool.not_eq_false', beq_iff_eq, beq_eq_false_iff_ne, bne_iff_ne, bne_eq_false_iff_eq, Bool.true_eq_false, Bool.false_eq_true] at hc) | skip)) | (refine And.intro (by first | exact trivial | decide | omega | (dsimp only; omega) | exact fun _ _ => rfl | exact ⟨by assumption, by first | exact trivial | decide | omega | (dsimp only; omega)⟩) ?_) | (apply And.intro) | (intro s hs))
  rename_i s1 hs1
  have hs1' : 0 ≤ s1 ∧ s1 < IntKind.i64.wrap (m + 1) := hs1
  rw [w1] at hs1'
  refine loop_intro (mono_of LT2_ok) (fun s : BytS n l s1.toNat => (⟨[(0, one (.ptr 0 0 0 false)), (5, one (.os 6 0 s.L.length)), (6, one (.int .i64 (s.i : Int)))],
    [(0, some (tapeN n (rI l) s.q)), (6, some (ents eB 5 s.L))], 7⟩ : Hd)) (fun s => s1.toNat - s.i) (fun _ => rfl) ?_ ⟨0, List.replicate s1.toNat 0, _, by omega, by simp, bl_rep _, hs⟩ [] ?_
  · rintro ⟨i, L, q2, hi, hL, hb, ht2⟩
    dsimp only at hi hL hb ht2 ⊢
    repeat' (first | (apply And.intro <;> intro hc <;> (first | exact Bool.noConfusion hc | (simp only [decide_eq_true_eq, decide_eq_false_iff_not, Bool.not_eq_true', Bool.not_eq_false', beq_iff_eq, beq_eq_false_iff_ne, bne_iff_ne, bne_eq_false_iff_eq, Bool.true_eq_false, Bool.false_eq_true] at hc) | skip)) | (refine And.intro (by first | exact trivial | decide | omega | (dsimp only; omega) | exact fun _ _ => rfl | exact ⟨by assumption, by first | exact trivial | decide | omega | (dsimp only; omega)⟩) ?_) | (apply And.intro) | (intro s hs))
    · rename_i s2 hs2
      refine ⟨⟨i + 1, L.set i (IntKind.u8.wrap s2), _, by omega, by rw [List.length_set]; exact hL, bl_set hb (u8r _), hs⟩, [], by dsimp only; omega, rfl, ?_, ?_⟩
      · repeat' (first | exact trivial | exact rfl | exact leF_ptr rfl | exact leF_int rfl | exact leF_bool rfl | exact leF_cl (cl_slB _ _) | exact leF_cl (cl_slR _ _) | exact leF_cl (cl_ll _ _) | exact leF_c (leC_os rfl rfl) | refine leF_int ?_ | refine leF_bool ?_ | exact leN_varA (fun _ _ => (Elem.flat _ _ _).le) | exact leN_varA (fun _ _ => leC_top) | apply And.intro)
        · exact leF_c (leC_os rfl (by dsimp only; rw [List.length_set]))
        · refine (IntWalk.i64_in _ ?_).trans ?_
          · constructor <;> omega
          · dsimp only
            omega
      · repeat' (first | exact trivial | exact rfl | exact leF_ptr rfl | exact leF_int rfl | exact leF_bool rfl | exact leF_cl (cl_slB _ _) | exact leF_cl (cl_slR _ _) | exact leF_cl (cl_ll _ _) | exact leF_c (leC_os rfl rfl) | refine leF_int ?_ | refine leF_bool ?_ | exact leN_varA (fun _ _ => (Elem.flat _ _ _).le) | exact leN_varA (fun _ _ => leC_top) | apply And.intro)
        · exact tapeN_le
        · exact leN_setI (by omega) rfl (by omega) rfl
    · exact ⟨(L, q2), ⟨⟨hb, (show (L.length : Int) ≤ m by omega)⟩, ht2⟩, ⟨leF_c (leC_row_fin rfl rfl), tapeN_le⟩⟩
  · refine ⟨rfl, ?_, ?_⟩
    · repeat' (first | exact trivial | exact rfl | exact leF_ptr rfl | exact leF_int rfl | exact leF_bool rfl | exact leF_cl (cl_slB _ _) | exact leF_cl (cl_slR _ _) | exact leF_cl (cl_ll _ _) | exact leF_c (leC_os rfl rfl) | refine leF_int ?_ | refine leF_bool ?_ | exact leN_varA (fun _ _ => (Elem.flat _ _ _).le) | exact leN_varA (fun _ _ => leC_top) | apply And.intro)
      exact leF_c (leC_os rfl (by simp))
    · repeat' (first | exact trivial | exact rfl | exact leF_ptr rfl | exact leF_int rfl | exact leF_bool rfl | exact leF_cl (cl_slB _ _) | exact leF_cl (cl_slR _ _) | exact leF_cl (cl_ll _ _) | exact leF_c (leC_os rfl rfl) | refine leF_int ?_ | refine leF_bool ?_ | exact leN_varA (fun _ _ => (Elem.flat _ _ _).le) | exact leN_varA (fun _ _ => leC_top) | apply And.intro)
      · exact tapeN_le
      · exact leN_is (by simp) (isRow_rep _)
abbrev bytesE : Entry := tapeE (AC.cons (cI .i64) AC.nil) (fun a => 0 ≤ a.1 ∧ a.1 ≤ 2000) (fun a (r : List Int) => BL r ∧ (r.length : Int) ≤ a.1) (fun r => .e (.c (slR eB r)))
structure FilS (K : Nat) where
  i : Nat
  L : List Int
  hi : i ≤ K
  hL : L.length = K
  hb : BL L
def arr5 (a b c d e : Int) : Fin 5 → Int := fun q => if q.1 = 0 then a else if q.1 = 1 then b else if q.1 = 2 then c else if q.1 = 3 then d else e
set_option maxHeartbeats 4000000 in
set_option maxRecDepth 10000 in
theorem pfill_ok (n : Nat) (l : List Int) (q m : Int) (ht : TapeOk n (rI l) q) (h1 : 0 ≤ m) (h2 : m ≤ 2000) :
    ∃ (r : List Int) (q' : Int), (BL r ∧ (r.length : Int) = m) ∧ TapeOk n (rI l) q' ∧ MethOk Try.prog 51 [(cI .i64).enc m] (tapeN n (rI l) q) (.e (.c (slR eB r))) (tapeN n (rI l) q') := by
  refine tape_intro (S := fun r => BL r ∧ (r.length : Int) = m) (enc := fun r => .e (.c (slR eB r))) (wd := 1) (Q := mkQ LT2) (by decide) tysOk (q_of LT2_ok) mixed Try.func51 rfl _ (by show 1 + 1 ≤ _; decide) (fun _ => nff_slB) ?_
  repeat' (first | (apply And.intro <;> intro hc <;> (first | exact Bool.noConfusion hc | (simp only [decide_eq_true_eq, decide_eq_false_iff_not, Bool.not_eq_true', Bool.not_eq_false', beq_iff_eq, beq_eq_false_iff_ne, bne_iff_ne, bne_eq_false_iff_eq, Bool.true_eq_false, Bool.false_eq_true] at hc) | skip)) | (refine And.intro (by first | exact trivial | decide | omega | (dsimp only; omega) | exact fun _ _ => rfl | exact ⟨by assumption, by first | exact trivial | decide | omega | (dsimp only; omega)⟩) ?_) | (apply And.intro) | (intro s hs))
  rename_i s4 hs4 q4 hq4 s2 hs2 q2 hq2 s0 hs0
  refine loop_intro (mono_of LT2_ok) (fun z : FilS m.toNat => (⟨[(0, one (.ptr 0 0 0 false)), (1, one (.int .i64 m)), (5, one (.ptr 12 0 0 false)), (6, one (.os 15 0 z.L.length)), (7, one (.int .i64 (z.i : Int)))],
    [(0, some (tapeN n (rI l) s)), (12, some ⟨130, 1, 5, true, fun _ => (eA .u8 5).cell (arr5 (IntKind.u8.wrap s4) (IntKind.u8.wrap s2) 0 (IntKind.u8.wrap s0) 7)⟩), (15, some (ents eB 5 z.L))], 16⟩ : Hd)) (fun z => m.toNat - z.i) (fun _ => rfl) ?_ ⟨0, List.replicate m.toNat 0, by omega, by simp, bl_rep _⟩ [] ?_
  · rintro ⟨i, L, hi, hL, hb⟩
    dsimp only at hi hL hb ⊢
    have a1 : 0 ≤ (i : Int).tmod 5 := Int.tmod_nonneg 5 (by omega)
    have a2 : (i : Int).tmod 5 < 5 := Int.tmod_lt_of_pos (i : Int) (by decide)
    repeat' (first | (apply And.intro <;> intro hc <;> (first | exact Bool.noConfusion hc | (simp only [decide_eq_true_eq, decide_eq_false_iff_not, Bool.not_eq_true', Bool.not_eq_false', beq_iff_eq, beq_eq_false_iff_ne, bne_iff_ne, bne_eq_false_iff_eq, Bool.true_eq_false, Bool.false_eq_true] at hc) | skip)) | (refine And.intro (by first | exact trivial | decide | omega | (dsimp only; omega) | exact fun _ _ => rfl | exact ⟨by assumption, by first | exact trivial | decide | omega | (dsimp only; omega)⟩) ?_) | (apply And.intro) | (intro s hs))
    · refine ⟨⟨i + 1, L.set i (IntKind.u8.wrap (vget (arr5 (IntKind.u8.wrap s4) (IntKind.u8.wrap s2) 0 (IntKind.u8.wrap s0) 7) (0 + ((i : Int).tmod 5).toNat * 1 + 0) + IntKind.u8.wrap (IntKind.i64.wrap ((i : Int).tdiv 5)))), by omega, by rw [List.length_set]; exact hL, bl_set hb (u8r _)⟩, [], by dsimp only; omega, rfl, ?_, ?_⟩
      · repeat' (first | exact trivial | exact rfl | exact leF_ptr rfl | exact leF_int rfl | exact leF_bool rfl | exact leF_cl (cl_slB _ _) | exact leF_cl (cl_slR _ _) | exact leF_cl (cl_ll _ _) | exact leF_c (leC_os rfl rfl) | refine leF_int ?_ | refine leF_bool ?_ | exact leN_varA (fun _ _ => (Elem.flat _ _ _).le) | exact leN_varA (fun _ _ => leC_top) | apply And.intro)
        · exact leF_c (leC_os rfl (by dsimp only; rw [List.length_set]))
        · refine (IntWalk.i64_in _ ?_).trans ?_
          · constructor <;> omega
          · dsimp only
            omega
      · repeat' (first | exact trivial | exact rfl | exact leF_ptr rfl | exact leF_int rfl | exact leF_bool rfl | exact leF_cl (cl_slB _ _) | exact leF_cl (cl_slR _ _) | exact leF_cl (cl_ll _ _) | exact leF_c (leC_os rfl rfl) | refine leF_int ?_ | refine leF_bool ?_ | exact leN_varA (fun _ _ => (Elem.flat _ _ _).le) | exact leN_varA (fun _ _ => leC_top) | apply And.intro)
        · exact tapeN_le
        · exact leN_setI (by omega) rfl (by omega) rfl
    · exact ⟨(L, s), ⟨⟨hb, (show (L.length : Int) = m by omega)⟩, hs⟩, ⟨leF_c (leC_row_fin rfl rfl), tapeN_le⟩⟩
  · refine ⟨rfl, ?_, ?_⟩
    · repeat' (first | exact trivial | exact rfl | exact leF_ptr rfl | exact leF_int rfl | exact leF_bool rfl | exact leF_cl (cl_slB _ _) | exact leF_cl (cl_slR _ _) | exact leF_cl (cl_ll _ _) | exact leF_c (leC_os rfl rfl) | refine leF_int ?_ | refine leF_bool ?_ | exact leN_varA (fun _ _ => (Elem.flat _ _ _).le) | exact leN_varA (fun _ _ => leC_top) | apply And.intro)
      exact leF_c (leC_os rfl (by simp))
    · repeat' (first | exact trivial | exact rfl | exact leF_ptr rfl | exact leF_int rfl | exact leF_bool rfl | exact leF_cl (cl_slB _ _) | exact leF_cl (cl_slR _ _) | exact leF_cl (cl_ll _ _) | exact leF_c (leC_os rfl rfl) | refine leF_int ?_ | refine leF_bool ?_ | exact leN_varA (fun _ _ => (Elem.flat _ _ _).le) | exact leN_varA (fun _ _ => leC_top) | apply And.intro)
      · exact tapeN_le
      · refine leN_var ?_
        repeat' (first | exact trivial | exact leC_int rfl | apply And.intro)
      · exact leN_is (by simp) (isRow_rep _)
abbrev pfillE : Entry := tapeE (AC.cons (cI .i64) AC.nil) (fun a => 0 ≤ a.1 ∧ a.1 ≤ 2000) (fun a (r : List Int) => BL r ∧ (r.length : Int) = a.1) (fun r => .e (.c (slR eB r)))
abbrev ipE : Entry := tapeE (AC.cons (cE eAdr) AC.nil) (fun _ => True) (fun a r => byteOk r) (cE (eA .u8 16)).enc
abbrev addrE : Entry := tapeE AC.nil (fun _ => True) (fun a (r : Adr) => True) (cE eAdr).enc
abbrev portE : Entry := tapeE AC.nil (fun _ => True) (fun a (r : Int) => 0 ≤ r ∧ r < 65536) (cI .u16).enc
def LM0 : CsL := (77, some bytesE) :: (51, some pfillE) :: (76, some ipE) :: (34, some addrE) :: (78, some portE) :: (33, some newTapeE) :: []
theorem LM0_ok : AllOk Try.prog LM0 := ⟨tapeE_ok ⟨_, Try.func77, rfl, by kernel_rfl⟩ fun n l q a ht hp => bytes_ok n l q a.1 ht hp.1 hp.2, tapeE_ok ⟨_, Try.func51, rfl, by kernel_rfl⟩ fun n l q a ht hp => pfill_ok n l q a.1 ht hp.1 hp.2, tapeE_ok ⟨_, Try.func76, rfl, by kernel_rfl⟩ fun n l q a ht hp => ip_ok n l q a.1 ht, tapeE_ok ⟨_, Try.func34, rfl, by kernel_rfl⟩ fun n l q a ht hp => addr_ok n l q ht, tapeE_ok ⟨_, Try.func78, rfl, by kernel_rfl⟩ fun n l q a ht hp => port_ok n l q ht, newTapeE_ok, trivial⟩
def LM : CsL := LM0 ++ (LT1 ++ LPi)
theorem LM_ok : AllOk Try.prog LM := append_ok LM0_ok (append_ok LT1_ok LPi_ok)
end Go.Proofs.Ytjknkfjhcapocaa.AX
