/- The reference of layer 4: contracts of bit, Common, ValidPrefix, Contains, Mask, Of. -/
import Derived.Test.YtjknkfjhcapocaaRf
namespace Go.Proofs.Ytjknkfjhcapocaa.AX
open Go.RowKit
set_option linter.unusedVariables false
set_option linter.unusedSimpArgs false
theorem bit_ok (a : Fin 16 → Int) (i : Int) (h0 : 0 ≤ i) (h1 : i < 128) : PureOk Try.prog 123 [(cE (eA .u8 16)).enc a, (cI .i64).enc i] ((cI .u8).enc (bitF a i.toNat)) := by
  have hq : IntKind.i64.wrap (i.tdiv 8) = i / 8 := by rw [Int.tdiv_eq_ediv_of_nonneg h0]; exact IntWalk.i64_in _ (by omega)
  have hr : IntKind.u64.wrap (i.tmod 8) = i % 8 := by rw [Int.tmod_eq_emod_of_nonneg h0]; exact IntWalk.u64_in _ (by omega)
  have hs : IntKind.u64.wrap (7 - IntKind.u64.wrap (i.tmod 8)) = 7 - i % 8 := by rw [hr]; exact IntWalk.u64_in _ (by omega)
  refine pure_intro (wd := 1) (Q := mkQ LE0) (by decide) tysOk (q_of LE0_ok) mixed Try.func123 rfl _ (by show 2 ≤ _; decide) _ ?_
  repeat' (first | (apply And.intro <;> intro hc <;> (first | exact Bool.noConfusion hc | (simp only [decide_eq_true_eq, decide_eq_false_iff_not, Bool.not_eq_true', Bool.not_eq_false', beq_iff_eq, beq_eq_false_iff_ne, bne_iff_ne, bne_eq_false_iff_eq, Bool.true_eq_false, Bool.false_eq_true] at hc) | skip)) | (refine And.intro (by first | exact trivial | decide | omega | (dsimp only; omega) | exact fun _ _ => rfl) ?_) | (apply And.intro) | (intro s hs))
  · rw [hq]; show 1 ≤ 16 - _; omega
  refine Done.mk (leF_int ?_)
  show bits .and .u8 (shrI .u8 (vget a (0 + (IntKind.i64.wrap (i.tdiv 8)).toNat * 1 + 0)) (IntKind.u64.wrap (7 - IntKind.u64.wrap (i.tmod 8)))) 1 = _
  rw [hs, hq]
  unfold bitF bt
  rw [show 0 + (i / 8).toNat * 1 + 0 = i.toNat / 8 by omega, show ((i.toNat % 8 : Nat) : Int) = i % 8 by omega]
theorem bit_rd (a : Fin 16 → Int) (n : Nat) : bitF ((eA .u8 16).rd fun q => (eA .u8 16).cell a (0 + q)) ((n : Int)).toNat = bitF a n := by
  rw [Int.toNat_natCast, rd_ip]
def LR0 : CsL := (123, some (pureE (AC.cons (cE (eA .u8 16)) (AC.cons (cI .i64) AC.nil)) (fun a => 0 ≤ a.2.1 ∧ a.2.1 < 128) (fun a => bitF a.1 a.2.1.toNat) (cI .u8).enc)) :: []
theorem LR0_ok : AllOk Try.prog LR0 := ⟨pureE_ok ⟨_, Try.func123, rfl, by kernel_rfl⟩ fun a h => bit_ok a.1 a.2.1 h.1 h.2, trivial⟩
set_option maxRecDepth 10000 in
theorem common_ok (a b : Fin 16 → Int) : PureOk Try.prog 155 [(cE (eA .u8 16)).enc a, (cE (eA .u8 16)).enc b] ((cI .i64).enc (common a b : Nat)) := by
  refine pure_intro (wd := 1) (Q := mkQ LR0) (by decide) tysOk (q_of LR0_ok) mixed Try.func155 rfl _ (by show 2 ≤ _; decide) _ ?_
  refine loop_intro (mono_of LR0_ok) (fun n : {n : Nat // n ≤ 128 ∧ common a b = cmn a b (128 - n) n} => (⟨[(2, one (.ptr 0 0 0 false)), (3, one (.ptr 1 0 0 false)), (5, one (.int .i64 (n.1 : Int)))],
    [(0, some ⟨24, 1, 16, true, fun _ => (eA .u8 16).cell a⟩), (1, some ⟨24, 1, 16, true, fun _ => (eA .u8 16).cell b⟩)], 5⟩ : Hd)) (fun n => 128 - n.1) (fun _ => rfl) ?_ ⟨0, by omega, by unfold common; rw [Nat.sub_zero]⟩ [] ?_
  · rintro ⟨n, hn, hv⟩
    dsimp only at hn hv ⊢
    repeat' (first | (apply And.intro <;> intro hc <;> (first | exact Bool.noConfusion hc | (simp only [decide_eq_true_eq, decide_eq_false_iff_not, Bool.not_eq_true', Bool.not_eq_false', beq_iff_eq, beq_eq_false_iff_ne, bne_iff_ne, bne_eq_false_iff_eq, Bool.true_eq_false, Bool.false_eq_true] at hc) | skip)) | (refine And.intro (by first | exact trivial | decide | omega | (dsimp only; omega) | exact fun _ _ => rfl) ?_) | (apply And.intro) | (intro s hs))
    · rename_i hlt s1 hs1
      have e1 : s1 = bitF a n := hs1.trans (bit_rd a n)
      have e2 : s = bitF b n := hs.trans (bit_rd b n)
      refine ⟨⟨n + 1, by omega, ?_⟩, [], by dsimp only; omega, rfl, ?_, ?_⟩
      · rw [hv, show 128 - n = (128 - (n + 1)) + 1 by omega, cmn, if_pos (by rw [← e1, ← e2]; exact hc)]
      · repeat' (first | exact trivial | exact rfl | exact leF_ptr rfl | exact leF_int rfl | exact leF_bool rfl | exact leF_cl (cl_slB _ _) | exact leF_cl (cl_slR _ _) | exact leF_cl (cl_ll _ _) | exact leF_c (leC_os rfl rfl) | refine leF_int ?_ | refine leF_bool ?_ | exact leN_varA (fun _ _ => (Elem.flat _ _ _).le) | exact leN_varA (fun _ _ => leC_top) | apply And.intro)
        refine (IntWalk.i64_in _ ?_).trans ?_
        · constructor <;> omega
        · dsimp only
          omega
      · repeat' (first | exact trivial | exact rfl | exact leF_ptr rfl | exact leF_int rfl | exact leF_bool rfl | exact leF_cl (cl_slB _ _) | exact leF_cl (cl_slR _ _) | exact leF_cl (cl_ll _ _) | exact leF_c (leC_os rfl rfl) | refine leF_int ?_ | refine leF_bool ?_ | exact leN_varA (fun _ _ => (Elem.flat _ _ _).le) | exact leN_varA (fun _ _ => leC_top) | apply And.intro)
    · rename_i hlt s1 hs1
      have e1 : s1 = bitF a n := hs1.trans (bit_rd a n)
      have e2 : s = bitF b n := hs.trans (bit_rd b n)
      refine Done.mk (leF_int ?_)
      rw [hv, show 128 - n = (128 - (n + 1)) + 1 by omega, cmn, if_neg (by rw [← e1, ← e2]; exact hc)]
    · have : n = 128 := by omega
      subst this
      refine Done.mk (leF_int ?_)
      rw [hv]; rfl
  · refine ⟨rfl, ?_, ?_⟩
    · repeat' (first | exact trivial | exact rfl | exact leF_ptr rfl | exact leF_int rfl | exact leF_bool rfl | exact leF_cl (cl_slB _ _) | exact leF_cl (cl_slR _ _) | exact leF_cl (cl_ll _ _) | exact leF_c (leC_os rfl rfl) | refine leF_int ?_ | refine leF_bool ?_ | exact leN_varA (fun _ _ => (Elem.flat _ _ _).le) | exact leN_varA (fun _ _ => leC_top) | apply And.intro)
    · repeat' (first | exact trivial | exact rfl | exact leF_ptr rfl | exact leF_int rfl | exact leF_bool rfl | exact leF_cl (cl_slB _ _) | exact leF_cl (cl_slR _ _) | exact leF_cl (cl_ll _ _) | exact leF_c (leC_os rfl rfl) | refine leF_int ?_ | refine leF_bool ?_ | exact leN_varA (fun _ _ => (Elem.flat _ _ _).le) | exact leN_varA (fun _ _ => leC_top) | apply And.intro)
theorem bit_rdP (p : Pfx) (n : Nat) : bitF ((eA .u8 16).rd fun q => ePfx.cell p (0 + 0 + q)) ((n : Int)).toNat = bitF p.ip n := by
  rw [Int.toNat_natCast]
  have := ePfx_ip p
  simp only [Nat.zero_add] at this ⊢
  exact congrArg (bitF · n) this
set_option maxRecDepth 10000 in
theorem rvpf_ok (p : Pfx) (hp : byteOk p.ip) : PureOk Try.prog 86 [(cE ePfx).enc p] (cB.enc (vpf p)) := by
  refine pure_intro (wd := 1) (Q := mkQ LR0) (by decide) tysOk (q_of LR0_ok) mixed Try.func86 rfl _ (by show 1 ≤ _; decide) _ ?_
  repeat' (first | (apply And.intro <;> intro hc <;> (first | exact Bool.noConfusion hc | (simp only [decide_eq_true_eq, decide_eq_false_iff_not, Bool.not_eq_true', Bool.not_eq_false', beq_iff_eq, beq_eq_false_iff_ne, bne_iff_ne, bne_eq_false_iff_eq, Bool.true_eq_false, Bool.false_eq_true] at hc) | skip)) | (refine And.intro (by first | exact trivial | decide | omega | (dsimp only; omega) | exact fun _ _ => rfl) ?_) | (apply And.intro) | (intro s hs))
  · refine Done.mk (leF_bool ?_)
    simp [vpf]; omega
  · refine Done.mk (leF_bool ?_)
    simp [vpf]; omega
  · refine loop_intro (mono_of LR0_ok) (fun i : {i : Nat // p.bits ≤ i ∧ i ≤ 128 ∧ ∀ j : Nat, j < i → p.bits ≤ j → bitF p.ip j = 0} => (⟨[(1, one (.ptr 0 0 0 false)), (3, one (.int .i64 (i.1 : Int)))],
      [(0, some ⟨73, 1, 17, true, fun _ => ePfx.cell p⟩)], 14⟩ : Hd)) (fun i => 128 - i.1) (fun _ => rfl) ?_ ⟨p.bits.toNat, by omega, by omega, fun j h1 h2 => by omega⟩ [] ?_
    · rintro ⟨i, h1, h2, hv⟩
      dsimp only at h1 h2 hv ⊢
      repeat' (first | (apply And.intro <;> intro hc <;> (first | exact Bool.noConfusion hc | (simp only [decide_eq_true_eq, decide_eq_false_iff_not, Bool.not_eq_true', Bool.not_eq_false', beq_iff_eq, beq_eq_false_iff_ne, bne_iff_ne, bne_eq_false_iff_eq, Bool.true_eq_false, Bool.false_eq_true] at hc) | skip)) | (refine And.intro (by first | exact trivial | decide | omega | (dsimp only; omega) | exact fun _ _ => rfl) ?_) | (apply And.intro) | (intro s hs))
      · have e1 : s = bitF p.ip i := hs.trans (bit_rdP p i)
        have hcc : s ≠ 0 := hc
        refine Done.mk (leF_bool ?_)
        symm
        rw [Bool.eq_false_iff]
        intro h
        rw [vpf_iff hp] at h
        exact hcc (e1.trans (h.2 i (by omega) h1))
      · have e1 : s = bitF p.ip i := hs.trans (bit_rdP p i)
        refine ⟨⟨i + 1, by omega, by omega, fun j hj hb => ?_⟩, [], by dsimp only; omega, rfl, ?_, ?_⟩
        · by_cases hji : j = i
          · subst hji; rw [← e1]; assumption
          · exact hv j (by omega) hb
        · repeat' (first | exact trivial | exact rfl | exact leF_ptr rfl | exact leF_int rfl | exact leF_bool rfl | exact leF_cl (cl_slB _ _) | exact leF_cl (cl_slR _ _) | exact leF_cl (cl_ll _ _) | exact leF_c (leC_os rfl rfl) | refine leF_int ?_ | refine leF_bool ?_ | exact leN_varA (fun _ _ => (Elem.flat _ _ _).le) | exact leN_varA (fun _ _ => leC_top) | apply And.intro)
          refine (IntWalk.i64_in _ ?_).trans ?_
          · constructor <;> omega
          · dsimp only
            omega
        · repeat' (first | exact trivial | exact rfl | exact leF_ptr rfl | exact leF_int rfl | exact leF_bool rfl | exact leF_cl (cl_slB _ _) | exact leF_cl (cl_slR _ _) | exact leF_cl (cl_ll _ _) | exact leF_c (leC_os rfl rfl) | refine leF_int ?_ | refine leF_bool ?_ | exact leN_varA (fun _ _ => (Elem.flat _ _ _).le) | exact leN_varA (fun _ _ => leC_top) | apply And.intro)
      · refine Done.mk (leF_bool ?_)
        symm
        rw [vpf_iff hp]
        exact ⟨by omega, fun j hj hb => hv j (by omega) hb⟩
    · refine ⟨rfl, ?_, ?_⟩
      · repeat' (first | exact trivial | exact rfl | exact leF_ptr rfl | exact leF_int rfl | exact leF_bool rfl | exact leF_cl (cl_slB _ _) | exact leF_cl (cl_slR _ _) | exact leF_cl (cl_ll _ _) | exact leF_c (leC_os rfl rfl) | refine leF_int ?_ | refine leF_bool ?_ | exact leN_varA (fun _ _ => (Elem.flat _ _ _).le) | exact leN_varA (fun _ _ => leC_top) | apply And.intro)
        show p.bits = ((p.bits.toNat : Nat) : Int)
        omega
      · repeat' (first | exact trivial | exact rfl | exact leF_ptr rfl | exact leF_int rfl | exact leF_bool rfl | exact leF_cl (cl_slB _ _) | exact leF_cl (cl_slR _ _) | exact leF_cl (cl_ll _ _) | exact leF_c (leC_os rfl rfl) | refine leF_int ?_ | refine leF_bool ?_ | exact leN_varA (fun _ _ => (Elem.flat _ _ _).le) | exact leN_varA (fun _ _ => leC_top) | apply And.intro)
theorem maskB_ne {a : Fin 16 → Int} {i j : Nat} (h : j ≠ i / 8) : maskB a ((i + 1 : Nat) : Int) j = maskB a (i : Int) j := by
  unfold maskB
  have : keepAt ((i + 1 : Nat) : Int) j = keepAt (i : Int) j := by
    unfold keepAt clampI
    (repeat' split) <;> omega
  rw [this]
theorem maskB_at {a : Fin 16 → Int} (ha : byteOk a) (i : Nat) : bits .or .u8 (maskB a (i : Int) (i / 8)) (shlI .u8 (bitF a i) (7 - ((i % 8 : Nat) : Int))) = maskB a ((i + 1 : Nat) : Int) (i / 8) := by
  obtain ⟨x, hx⟩ := byte_nat (ha.v (i / 8))
  have h := byt_step x ⟨i % 8, by omega⟩
  have k1 : keepAt (i : Int) (i / 8) = ((i % 8 : Nat) : Int) := by
    unfold keepAt clampI; split <;> split <;> omega
  have k2 : keepAt ((i + 1 : Nat) : Int) (i / 8) = ((i % 8 : Nat) : Int) + 1 := by
    unfold keepAt clampI; split <;> split <;> omega
  unfold maskB bitF
  rw [k1, k2, hx]
  exact h
theorem rm_step {a : Fin 16 → Int} {i off j : Nat} {V : Int} (ho : off = i / 8) (hV : V = maskB a ((i + 1 : Nat) : Int) (i / 8)) : (bif Nat.ble off j && Nat.blt j (off + 1) then V else maskB a (i : Int) j) = maskB a ((i + 1 : Nat) : Int) j := by
  by_cases h : j = i / 8
  · rw [rng_in (by omega), cond_true, hV, h]
  · rw [rng_out (by omega), cond_false, maskB_ne h]
theorem maskB_zero {a : Fin 16 → Int} (ha : byteOk a) (j : Nat) : maskB a ((0 : Nat) : Int) j = 0 := by
  obtain ⟨x, hx⟩ := byte_nat (ha.v j)
  unfold maskB
  rw [hx, show keepAt ((0 : Nat) : Int) j = 0 by unfold keepAt clampI; split <;> split <;> omega]
  exact byt_zero x
set_option maxRecDepth 10000 in
theorem rmask_ok (a : Fin 16 → Int) (b : Int) (ha : byteOk a) : PureOk Try.prog 84 [(cE (eA .u8 16)).enc a, (cI .i64).enc b] ((cE ePfx).enc (maskP a b)) := by
  have hb := clampI_in b (lo := 0) (hi := 128) (by omega)
  refine pure_intro (wd := 1) (Q := mkQ LR0) (by decide) tysOk (q_of LR0_ok) mixed Try.func84 rfl _ (by show 2 ≤ _; decide) _ ?_
  refine loop_intro (mono_of LR0_ok) (fun i : {i : Nat // (i : Int) ≤ clampI b 0 128} => (⟨[(1, one (.int .i64 (clampI b 0 128))), (2, one (.ptr 0 0 0 false)), (4, one (.ptr 1 0 0 false)), (5, one (.ptr 8 0 0 false)), (6, one (.int .i64 (i.1 : Int)))],
    [(0, some ⟨24, 1, 16, true, fun _ => (eA .u8 16).cell a⟩), (1, some ⟨73, 1, 17, true, fun _ _ => .top⟩), (8, some ⟨73, 1, 17, true, fun _ j => .int (bif Nat.blt j 16 then .u8 else .i64) (bif Nat.blt j 16 then maskB a i.1 j else clampI b 0 128)⟩)], 11⟩ : Hd)) (fun i => 128 - i.1) (fun _ => rfl) ?_ ⟨0, by omega⟩ [] ?_
  · rintro ⟨i, hi⟩
    dsimp only at hi ⊢
    have hq : IntKind.i64.wrap ((i : Int).tdiv 8) = (i : Int) / 8 := by rw [Int.tdiv_eq_ediv_of_nonneg (by omega)]; exact IntWalk.i64_in _ (by omega)
    have hr : IntKind.u64.wrap ((i : Int).tmod 8) = (i : Int) % 8 := by rw [Int.tmod_eq_emod_of_nonneg (by omega)]; exact IntWalk.u64_in _ (by omega)
    have hsh : IntKind.u64.wrap (7 - IntKind.u64.wrap ((i : Int).tmod 8)) = 7 - (i : Int) % 8 := by rw [hr]; exact IntWalk.u64_in _ (by omega)
    have hk : (i : Int) < clampI b 0 128 → Nat.blt (0 + 0 + (IntKind.i64.wrap ((i : Int).tdiv 8)).toNat * 1 + 0) 16 = true := fun h => by rw [hq]; exact Nat.ble_eq_true_of_le (by omega)
    repeat' (first | (apply And.intro <;> intro hc <;> (first | exact Bool.noConfusion hc | (simp only [decide_eq_true_eq, decide_eq_false_iff_not, Bool.not_eq_true', Bool.not_eq_false', beq_iff_eq, beq_eq_false_iff_ne, bne_iff_ne, bne_eq_false_iff_eq, Bool.true_eq_false, Bool.false_eq_true] at hc) | skip)) | (refine And.intro (by first | exact trivial | decide | omega | (dsimp only; omega) | exact fun _ _ => rfl) ?_) | (apply And.intro) | (intro s hs))
    · rw [hk hc]
      repeat' (first | (apply And.intro <;> intro hc <;> (first | exact Bool.noConfusion hc | (simp only [decide_eq_true_eq, decide_eq_false_iff_not, Bool.not_eq_true', Bool.not_eq_false', beq_iff_eq, beq_eq_false_iff_ne, bne_iff_ne, bne_eq_false_iff_eq, Bool.true_eq_false, Bool.false_eq_true] at hc) | skip)) | (refine And.intro (by first | exact trivial | decide | omega | (dsimp only; omega) | exact fun _ _ => rfl) ?_) | (apply And.intro) | (intro s hs))
      · have e1 : s = bitF a i := hs.trans (bit_rd a i)
        have ho : 0 + 0 + (IntKind.i64.wrap ((i : Int).tdiv 8)).toNat * 1 = i / 8 := by rw [hq]; omega
        have hV : bits .or .u8 (maskB a (i : Int) (0 + 0 + (IntKind.i64.wrap ((i : Int).tdiv 8)).toNat * 1 + 0)) (shlI .u8 s (IntKind.u64.wrap (7 - IntKind.u64.wrap ((i : Int).tmod 8)))) = maskB a ((i + 1 : Nat) : Int) (i / 8) := by
          rw [Nat.add_zero, ho, hsh, e1, ← maskB_at ha i, show ((i % 8 : Nat) : Int) = (i : Int) % 8 by omega]
        refine ⟨⟨i + 1, by omega⟩, [], by dsimp only; omega, rfl, ?_, ?_⟩
        · repeat' (first | exact trivial | exact rfl | exact leF_ptr rfl | exact leF_int rfl | exact leF_bool rfl | exact leF_cl (cl_slB _ _) | exact leF_cl (cl_slR _ _) | exact leF_cl (cl_ll _ _) | exact leF_c (leC_os rfl rfl) | refine leF_int ?_ | refine leF_bool ?_ | exact leN_varA (fun _ _ => (Elem.flat _ _ _).le) | exact leN_varA (fun _ _ => leC_top) | apply And.intro)
          refine (IntWalk.i64_in _ ?_).trans ?_
          · constructor <;> omega
          · dsimp only
            omega
        · repeat' (first | exact trivial | exact rfl | exact leF_ptr rfl | exact leF_int rfl | exact leF_bool rfl | exact leF_cl (cl_slB _ _) | exact leF_cl (cl_slR _ _) | exact leF_cl (cl_ll _ _) | exact leF_c (leC_os rfl rfl) | refine leF_int ?_ | refine leF_bool ?_ | exact leN_varA (fun _ _ => (Elem.flat _ _ _).le) | exact leN_varA (fun _ _ => leC_top) | apply And.intro)
          refine leN_var ?_
          repeat' (first | exact trivial | exact leC_int (rm_step ho hV) | apply And.intro)
          refine cond_out (b := Nat.ble (0 + 0 + (IntKind.i64.wrap ((i : Int).tdiv 8)).toNat * 1) 16 && Nat.blt 16 (0 + 0 + (IntKind.i64.wrap ((i : Int).tdiv 8)).toNat * 1 + 1)) (y := .int .i64 (clampI b 0 128)) (z := .int .i64 (clampI b 0 128)) ?_ ?_
          · exact rng_out (by rw [ho]; omega)
          · exact leC_int rfl
    · have hib : (i : Int) = clampI b 0 128 := by omega
      refine Done.mk (leF_e (leE_all ?_))
      rw [hib]
      repeat' (first | exact trivial | exact leC_int rfl | apply And.intro)
  · refine ⟨rfl, ?_, ?_⟩
    · repeat' (first | exact trivial | exact rfl | exact leF_ptr rfl | exact leF_int rfl | exact leF_bool rfl | exact leF_cl (cl_slB _ _) | exact leF_cl (cl_slR _ _) | exact leF_cl (cl_ll _ _) | exact leF_c (leC_os rfl rfl) | refine leF_int ?_ | refine leF_bool ?_ | exact leN_varA (fun _ _ => (Elem.flat _ _ _).le) | exact leN_varA (fun _ _ => leC_top) | apply And.intro)
    · repeat' (first | exact trivial | exact rfl | exact leF_ptr rfl | exact leF_int rfl | exact leF_bool rfl | exact leF_cl (cl_slB _ _) | exact leF_cl (cl_slR _ _) | exact leF_cl (cl_ll _ _) | exact leF_c (leC_os rfl rfl) | refine leF_int ?_ | refine leF_bool ?_ | exact leN_varA (fun _ _ => (Elem.flat _ _ _).le) | exact leN_varA (fun _ _ => leC_top) | apply And.intro)
      refine leN_var ?_
      repeat' (first | exact trivial | exact leC_int (maskB_zero ha _).symm | exact leC_int rfl | apply And.intro)
def LR1 : CsL := (86, some (pureE (AC.cons (cE ePfx) AC.nil) (fun a => byteOk a.1.ip) (fun a => vpf a.1) cB.enc)) ::
  (155, some (pureE (AC.cons (cE (eA .u8 16)) (AC.cons (cE (eA .u8 16)) AC.nil)) (fun _ => True) (fun a => ((common a.1 a.2.1 : Nat) : Int)) (cI .i64).enc)) ::
  (84, some (pureE (AC.cons (cE (eA .u8 16)) (AC.cons (cI .i64) AC.nil)) (fun a => byteOk a.1) (fun a => maskP a.1 a.2.1) (cE ePfx).enc)) :: LR0
theorem LR1_ok : AllOk Try.prog LR1 := ⟨pureE_ok ⟨_, Try.func86, rfl, by kernel_rfl⟩ fun a h => rvpf_ok a.1 h, pureE_ok ⟨_, Try.func155, rfl, by kernel_rfl⟩ fun a _ => common_ok a.1 a.2.1, pureE_ok ⟨_, Try.func84, rfl, by kernel_rfl⟩ fun a h => rmask_ok a.1 a.2.1 h, LR0_ok⟩
theorem rd_pfx (p : Pfx) : ePfx.rd (fun q => ePfx.cell p (0 + q)) = p := by
  simp only [Nat.zero_add]; exact ePfx_rd p
theorem contains_ok (p : Pfx) (a : Fin 16 → Int) (hp : byteOk p.ip) (ha : byteOk a) : PureOk Try.prog 152 [(cE ePfx).enc p, (cE (eA .u8 16)).enc a] (cB.enc (containsF p a)) := by
  have hip : ((eA .u8 16).rd fun q => ePfx.cell p (0 + 0 + q)) = p.ip := by
    have := ePfx_ip p
    simp only [Nat.zero_add] at this ⊢
    exact this
  refine pure_intro (wd := 1) (Q := mkQ LR1) (by decide) tysOk (q_of LR1_ok) mixed Try.func152 rfl _ (by show 2 ≤ _; decide) _ ?_
  repeat' (first | (apply And.intro <;> intro hc <;> (first | exact Bool.noConfusion hc | (simp only [decide_eq_true_eq, decide_eq_false_iff_not, Bool.not_eq_true', Bool.not_eq_false', beq_iff_eq, beq_eq_false_iff_ne, bne_iff_ne, bne_eq_false_iff_eq, Bool.true_eq_false, Bool.false_eq_true] at hc) | skip)) | (refine And.intro (by first | exact trivial | decide | omega | (dsimp only; omega) | exact fun _ _ => rfl) ?_) | (apply And.intro) | (intro s hs))
  · show byteOk (ePfx.rd fun q => ePfx.cell p (0 + q)).ip
    rw [rd_pfx]; exact hp
  · rename_i s1 hs1
    have hc1 : s1 = true := by assumption
    have e1 : s1 = vpf p := hs1.trans (congrArg vpf (rd_pfx p))
    have e2 : s = ((common p.ip a : Nat) : Int) := hs.trans (by
      show ((common ((eA .u8 16).rd fun q => ePfx.cell p (0 + 0 + q)) ((eA .u8 16).rd fun q => (eA .u8 16).cell a (0 + q)) : Nat) : Int) = _
      rw [hip, rd_ip])
    refine Done.mk (leF_bool ?_)
    rw [Bool.eq_iff_iff, ← contains_iff hp ha, ← e2, ← e1, hc1]
    show decide (p.bits ≤ s) = true ↔ _
    simp
  · have e1 : s = vpf p := hs.trans (congrArg vpf (rd_pfx p))
    refine Done.mk (leF_bool ?_)
    symm
    rw [Bool.eq_false_iff]
    intro h
    have := (contains_iff hp ha).2 h
    rw [← e1] at this
    simp_all
/-! ### Of -/
def ofB (x y : Int) (j : Nat) : Int := IntKind.u8.wrap (shrI .u64 (bif Nat.blt j 8 then x else y) (56 - 8 * ((j % 8 : Nat) : Int)))
def ofF (x y : Int) : Fin 16 → Int := fun q => ofB x y q.1
theorem of_byteOk (x y : Int) : byteOk (ofF x y) := by
  refine ⟨fun q => ?_⟩
  have h : ∀ z, 0 ≤ IntKind.u8.wrap z ∧ IntKind.u8.wrap z < 256 := fun z => by
    simp only [IntKind.wrap, IntKind.signed, IntKind.bits]
    constructor
    · exact Int.emod_nonneg _ (by decide)
    · exact Int.emod_lt_of_pos _ (by decide)
  exact h _
theorem of_step {x y v1 v2 : Int} {i off1 off2 j : Nat} (h1 : off1 = i) (h2 : off2 = 8 + i) (hi : i < 8) (hj : j < 16) (e1 : v1 = ofB x y i) (e2 : v2 = ofB x y (8 + i)) :
    (bif Nat.ble off2 j && Nat.blt j (off2 + 1) then v2 else (bif Nat.ble off1 j && Nat.blt j (off1 + 1) then v1 else if j % 8 < i then ofB x y j else 0)) = if j % 8 < i + 1 then ofB x y j else 0 := by
  by_cases a : j = 8 + i
  · rw [rng_in (by omega), cond_true, e2, if_pos (by omega), a]
  · rw [rng_out (by omega), cond_false]
    by_cases b : j = i
    · rw [rng_in (by omega), cond_true, e1, if_pos (by omega), b]
    · rw [rng_out (by omega), cond_false]
      by_cases c : j % 8 < i
      · rw [if_pos c, if_pos (by omega)]
      · rw [if_neg c, if_neg (by omega)]
set_option maxRecDepth 10000 in
theorem of_ok (x y : Int) : PureOk Try.prog 48 [(cI .u64).enc x, (cI .u64).enc y] ((cE (eA .u8 16)).enc (ofF x y)) := by
  refine pure_intro (wd := 1) (Q := mkQ LR0) (by decide) tysOk (q_of LR0_ok) mixed Try.func48 rfl _ (by show 2 ≤ _; decide) _ ?_
  refine loop_intro (mono_of LR0_ok) (fun i : {i : Nat // i ≤ 8} => (⟨[(0, one (.int .u64 x)), (1, one (.int .u64 y)), (4, one (.ptr 0 0 0 false)), (5, one (.ptr 1 0 0 false)), (6, one (.int .i64 (i.1 : Int)))],
    [(0, some ⟨24, 1, 16, true, fun _ _ => .top⟩), (1, some ⟨24, 1, 16, true, fun _ j => .int .u8 (if j % 8 < i.1 then ofB x y j else 0)⟩)], 3⟩ : Hd)) (fun i => 8 - i.1) (fun _ => rfl) ?_ ⟨0, by omega⟩ [] ?_
  · rintro ⟨i, hi⟩
    dsimp only at hi ⊢
    have h8 : IntKind.i64.wrap (8 + (i : Int)) = 8 + i := IntWalk.i64_in _ (by omega)
    have hu : IntKind.u64.wrap (i : Int) = i := IntWalk.u64_in _ (by omega)
    have hu8 : IntKind.u64.wrap (8 * IntKind.u64.wrap (i : Int)) = 8 * i := by rw [hu]; exact IntWalk.u64_in _ (by omega)
    have hsh : i < 8 → IntKind.u64.wrap (56 - IntKind.u64.wrap (8 * IntKind.u64.wrap (i : Int))) = 56 - 8 * i := fun h => by rw [hu8]; exact IntWalk.u64_in _ (by omega)
    repeat' (first | (apply And.intro <;> intro hc <;> (first | exact Bool.noConfusion hc | (simp only [decide_eq_true_eq, decide_eq_false_iff_not, Bool.not_eq_true', Bool.not_eq_false', beq_iff_eq, beq_eq_false_iff_ne, bne_iff_ne, bne_eq_false_iff_eq, Bool.true_eq_false, Bool.false_eq_true] at hc) | skip)) | (refine And.intro (by first | exact trivial | decide | omega | (dsimp only; omega) | exact fun _ _ => rfl) ?_) | (apply And.intro) | (intro s hs))
    · have hs := hsh (by omega)
      have o1 : 0 + ((i : Int)).toNat * 1 = i := by omega
      have o2 : 0 + (IntKind.i64.wrap (8 + (i : Int))).toNat * 1 = 8 + i := by rw [h8]; omega
      have e1 : IntKind.u8.wrap (shrI .u64 x (IntKind.u64.wrap (56 - IntKind.u64.wrap (8 * IntKind.u64.wrap (i : Int))))) = ofB x y i := by
        unfold ofB
        rw [hs, show Nat.blt i 8 = true from Nat.ble_eq_true_of_le (by omega), show i % 8 = i by omega]; rfl
      have e2 : IntKind.u8.wrap (shrI .u64 y (IntKind.u64.wrap (56 - IntKind.u64.wrap (8 * IntKind.u64.wrap (i : Int))))) = ofB x y (8 + i) := by
        unfold ofB
        rw [hs, show Nat.blt (8 + i) 8 = false from by cases hb : Nat.blt (8 + i) 8 with
          | false => rfl
          | true => have := Nat.le_of_ble_eq_true hb; omega, show (8 + i) % 8 = i by omega]; rfl
      refine ⟨⟨i + 1, by omega⟩, [], by dsimp only; omega, rfl, ?_, ?_⟩
      · repeat' (first | exact trivial | exact rfl | exact leF_ptr rfl | exact leF_int rfl | exact leF_bool rfl | exact leF_cl (cl_slB _ _) | exact leF_cl (cl_slR _ _) | exact leF_cl (cl_ll _ _) | exact leF_c (leC_os rfl rfl) | refine leF_int ?_ | refine leF_bool ?_ | exact leN_varA (fun _ _ => (Elem.flat _ _ _).le) | exact leN_varA (fun _ _ => leC_top) | apply And.intro)
        refine (IntWalk.i64_in _ ?_).trans ?_
        · constructor <;> omega
        · dsimp only
          omega
      · repeat' (first | exact trivial | exact rfl | exact leF_ptr rfl | exact leF_int rfl | exact leF_bool rfl | exact leF_cl (cl_slB _ _) | exact leF_cl (cl_slR _ _) | exact leF_cl (cl_ll _ _) | exact leF_c (leC_os rfl rfl) | refine leF_int ?_ | refine leF_bool ?_ | exact leN_varA (fun _ _ => (Elem.flat _ _ _).le) | exact leN_varA (fun _ _ => leC_top) | apply And.intro)
        refine leN_varA fun j hj => ?_
        exact leC_int (of_step (j := j) o1 o2 (by omega) hj e1 e2)
    · have h8' : i = 8 := by omega
      subst h8'
      refine Done.mk (leF_e (leE_all ?_))
      repeat' (first | exact trivial | exact leC_int rfl | apply And.intro)
  · refine ⟨rfl, ?_, ?_⟩
    · repeat' (first | exact trivial | exact rfl | exact leF_ptr rfl | exact leF_int rfl | exact leF_bool rfl | exact leF_cl (cl_slB _ _) | exact leF_cl (cl_slR _ _) | exact leF_cl (cl_ll _ _) | exact leF_c (leC_os rfl rfl) | refine leF_int ?_ | refine leF_bool ?_ | exact leN_varA (fun _ _ => (Elem.flat _ _ _).le) | exact leN_varA (fun _ _ => leC_top) | apply And.intro)
    · repeat' (first | exact trivial | exact rfl | exact leF_ptr rfl | exact leF_int rfl | exact leF_bool rfl | exact leF_cl (cl_slB _ _) | exact leF_cl (cl_slR _ _) | exact leF_cl (cl_ll _ _) | exact leF_c (leC_os rfl rfl) | refine leF_int ?_ | refine leF_bool ?_ | exact leN_varA (fun _ _ => (Elem.flat _ _ _).le) | exact leN_varA (fun _ _ => leC_top) | apply And.intro)
      refine leN_var ?_
      repeat' (first | exact trivial | exact leC_int rfl | apply And.intro)
def LR2 : CsL := (152, some (pureE (AC.cons (cE ePfx) (AC.cons (cE (eA .u8 16)) AC.nil)) (fun a => byteOk a.1.ip ∧ byteOk a.2.1) (fun a => containsF a.1 a.2.1) cB.enc)) ::
  (48, some (pureE (AC.cons (cI .u64) (AC.cons (cI .u64) AC.nil)) (fun _ => True) (fun a => ofF a.1 a.2.1) (cE (eA .u8 16)).enc)) :: LR1
theorem LR2_ok : AllOk Try.prog LR2 := ⟨pureE_ok ⟨_, Try.func152, rfl, by kernel_rfl⟩ fun a h => contains_ok a.1 a.2.1 h.1 h.2, pureE_ok ⟨_, Try.func48, rfl, by kernel_rfl⟩ fun a _ => of_ok a.1 a.2.1, LR1_ok⟩
end Go.Proofs.Ytjknkfjhcapocaa.AX
