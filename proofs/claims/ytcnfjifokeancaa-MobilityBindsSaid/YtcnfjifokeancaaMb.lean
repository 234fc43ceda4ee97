/- Package mobility: isTime, validSequence, Valid (by AX2). -/
import Derived.Test.YtcnfjifokeancaaCmp
import Derived.Test.YtcnfjifokeancaaRf
import Derived.Test.YtcnfjifokeancaaCt5
namespace Go.Proofs.Ytcnfjifokeancaa.AX
open Go.RowKit
set_option linter.unusedVariables false
set_option linter.unusedSimpArgs false
structure Bd where
  home : Fin 16 → Int
  place : Fin 16 → Int
  seq : Int
  til : Int
instance : Inhabited Bd := ⟨⟨fun _ => 0, fun _ => 0, 0, 0⟩⟩
def eBdC (x : Bd) (j : Nat) : CV := bif Nat.blt j 16 then .int .u8 (vget x.home (j - 0)) else bif Nat.blt j 32 then .int .u8 (vget x.place (j - 16)) else bif Nat.beq j 32 then .int .i64 x.seq else (.int .i64 x.til)
def eBd : Elem Bd where
  sz := 34
  cell := eBdC
  rd g := ⟨fun q => valI (g (0 + q.1)), fun q => valI (g (16 + q.1)), valI (g 32), valI (g 33)⟩
  ok g := okA .u8 g 0 16 && okA .u8 g 16 16 && isK .i64 (g 32) && isK .i64 (g 33)
  ok_eq g h j hj := by
    simp only [Bool.and_eq_true] at h
    unfold eBdC
    by_cases c0 : j < 16
    · have e := okA_at h.1.1.1 (j - 0) (by omega)
      rw [show 0 + (j - 0) = j by omega] at e
      rw [show Nat.blt j 16 = true from Nat.ble_eq_true_of_le c0, cond_true]
      rw [show vget (fun q : Fin 16 => valI (g (0 + q.1))) (j - 0) = valI (g (0 + (j - 0))) from vget_lt _ (by omega)]
      rw [show 0 + (j - 0) = j by omega]
      exact e
    by_cases c1 : j < 32
    · have e := okA_at h.1.1.2 (j - 16) (by omega)
      rw [show 16 + (j - 16) = j by omega] at e
      have b0 : Nat.blt j 16 = false := by cases hb : Nat.blt j 16 with | false => rfl | true => have := Nat.le_of_ble_eq_true hb; omega
      rw [b0, cond_false, show Nat.blt j 32 = true from Nat.ble_eq_true_of_le c1, cond_true]
      rw [show vget (fun q : Fin 16 => valI (g (16 + q.1))) (j - 16) = valI (g (16 + (j - 16))) from vget_lt _ (by omega)]
      rw [show 16 + (j - 16) = j by omega]
      exact e
    by_cases c2 : j < 33
    · have e : j = 32 := by omega
      subst e
      exact isK_eq h.1.2
    by_cases c3 : j < 34
    · have e : j = 33 := by omega
      subst e
      exact isK_eq h.2
    omega
  flat a j := by
    unfold eBdC
    cases Nat.blt j 16 with
    | true => exact flat_int
    | false =>
    cases Nat.blt j 32 with
    | true => exact flat_int
    | false =>
    cases Nat.beq j 32 with
    | true => exact flat_int
    | false =>
    exact flat_int
theorem eBd_sz : 0 < eBd.sz := by decide
theorem eBd_home_at (x : Bd) (q : Nat) (h : q < 16) : eBd.cell x (0 + q) = .int .u8 (vget x.home q) := by
  show eBdC x (0 + q) = _
  unfold eBdC
  rw [show Nat.blt (0 + q) 16 = true from Nat.ble_eq_true_of_le (by omega), cond_true]
  rw [show 0 + q - 0 = q by omega]
theorem eBd_home (x : Bd) : (fun q : Fin 16 => valI (eBd.cell x (0 + q.1))) = x.home := by
  funext q
  rw [eBd_home_at x q.1 q.2]
  exact vget_lt _ q.2
theorem eBd_place_at (x : Bd) (q : Nat) (h : q < 16) : eBd.cell x (16 + q) = .int .u8 (vget x.place q) := by
  show eBdC x (16 + q) = _
  unfold eBdC
  rw [show Nat.blt (16 + q) 16 = false from by cases hb : Nat.blt (16 + q) 16 with | false => rfl | true => have := Nat.le_of_ble_eq_true hb; omega, cond_false]
  rw [show Nat.blt (16 + q) 32 = true from Nat.ble_eq_true_of_le (by omega), cond_true]
  rw [show 16 + q - 16 = q by omega]
theorem eBd_place (x : Bd) : (fun q : Fin 16 => valI (eBd.cell x (16 + q.1))) = x.place := by
  funext q
  rw [eBd_place_at x q.1 q.2]
  exact vget_lt _ q.2
theorem eBd_rd (x : Bd) : eBd.rd (eBd.cell x) = x := by
  show (⟨fun q => valI (eBd.cell x (0 + q.1)), fun q => valI (eBd.cell x (16 + q.1)), x.seq, x.til⟩ : Bd) = x
  rw [eBd_home, eBd_place]
theorem eBd_ok (x : Bd) : eBd.ok (eBd.cell x) = true := rfl
theorem rd_bd (b : Bd) : (eBd.rd fun q => eBd.cell b (0 + q)) = b := by simp only [Nat.zero_add]; exact eBd_rd b
theorem toL_bd (l : List Bd) : toL eBd l.length (rowF eBd l) = l := toL_row eBd_rd l
def ipL (a : Fin 16 → Int) : List Int := (List.range 16).map (vget a)
def ipC (a b : Fin 16 → Int) : Int := cmpI (ipL a) (ipL b)
theorem ipL_by {a : Fin 16 → Int} (h : byteOk a) : byL (ipL a) := by
  refine ⟨fun x hx => ?_⟩
  simp only [ipL, List.mem_map, List.mem_range] at hx
  obtain ⟨i, hi, rfl⟩ := hx
  rw [vget_lt _ hi]
  exact h.q _
theorem toL_home {g : Nat → Nat → CV} {a : Fin 16 → Int} (h : ∀ i, i < 16 → g i 0 = .int .u8 (vget a i)) : toL (eI .u8) 16 g = ipL a := by
  unfold toL ipL
  refine List.map_congr_left fun i hi => ?_
  show valI (g i 0) = _
  rw [h i (List.mem_range.1 hi)]; rfl
theorem home_cell {x : Bd} {n s : Nat} (h : n = 0 + s) (hs : s < 16) : eBd.cell x n = .int .u8 (vget x.home s) := by rw [h]; exact eBd_home_at x s hs
theorem home_ok {x : Bd} {n s : Nat} (h : n = 0 + s) (hs : s < 16) : isK .u8 (eBd.cell x n) = true := by rw [home_cell h hs]; rfl
theorem byL_home {g : Nat → Nat → CV} {a : Fin 16 → Int} (hb : byteOk a) (h : ∀ i, i < 16 → g i 0 = .int .u8 (vget a i)) : byL (toL (eI .u8) 16 g) := by rw [toL_home h]; exact ipL_by hb
theorem cmp_home {g g' : Nat → Nat → CV} {a a' : Fin 16 → Int} (h : ∀ i, i < 16 → g i 0 = .int .u8 (vget a i)) (h' : ∀ i, i < 16 → g' i 0 = .int .u8 (vget a' i)) : cmpI (toL (eI .u8) 16 g) (toL (eI .u8) 16 g') = ipC a a' := by rw [toL_home h, toL_home h']; rfl
def sqOk (s : Int) : Bool := decide (0 ≤ s) && decide (s ≤ 1073741824)
theorem mtime_ok (t : Int) : PureOk Try.prog 53 [(cI .i64).enc t] (cB.enc (vt t)) := by
  refine pure_intro (wd := 1) (Q := mkQ LE0) (by decide) tysOk (q_of LE0_ok) mixed Try.func53 rfl _ (by show 1 ≤ _; decide) _ ?_
  repeat' (first | (apply And.intro <;> intro hc <;> (first | exact Bool.noConfusion hc | (simp only [decide_eq_true_eq, decide_eq_false_iff_not, Bool.not_eq_true', Bool.not_eq_false', beq_iff_eq, beq_eq_false_iff_ne, bne_iff_ne, bne_eq_false_iff_eq, Bool.true_eq_false, Bool.false_eq_true] at hc) | skip)) | (refine And.intro (by first | exact trivial | decide | omega | (dsimp only; omega) | exact fun _ _ => rfl) ?_) | (apply And.intro) | (intro s hs))
  all_goals (refine Done.mk (leF_bool ?_); simp [vt, *])
theorem mseq_ok (t : Int) : PureOk Try.prog 54 [(cI .i64).enc t] (cB.enc (sqOk t)) := by
  refine pure_intro (wd := 1) (Q := mkQ LE0) (by decide) tysOk (q_of LE0_ok) mixed Try.func54 rfl _ (by show 1 ≤ _; decide) _ ?_
  repeat' (first | (apply And.intro <;> intro hc <;> (first | exact Bool.noConfusion hc | (simp only [decide_eq_true_eq, decide_eq_false_iff_not, Bool.not_eq_true', Bool.not_eq_false', beq_iff_eq, beq_eq_false_iff_ne, bne_iff_ne, bne_eq_false_iff_eq, Bool.true_eq_false, Bool.false_eq_true] at hc) | skip)) | (refine And.intro (by first | exact trivial | decide | omega | (dsimp only; omega) | exact fun _ _ => rfl) ?_) | (apply And.intro) | (intro s hs))
  all_goals (refine Done.mk (leF_bool ?_); simp [sqOk, *])
def LM0 : CsL := (53, some (pureE (AC.cons (cI .i64) AC.nil) (fun _ => True) (fun a => vt a.1) cB.enc)) :: (54, some (pureE (AC.cons (cI .i64) AC.nil) (fun _ => True) (fun a => sqOk a.1) cB.enc)) ::
  (55, some (pureE (AC.cons (cSl (eI .u8) eI_sz) (AC.cons (cSl (eI .u8) eI_sz) AC.nil)) (fun a => byL a.1 ∧ byL a.2.1) (fun a => cmpI a.1 a.2.1) (cI .i64).enc)) :: []
theorem LM0_ok : AllOk Try.prog LM0 := ⟨pureE_ok ⟨_, Try.func53, rfl, by kernel_rfl⟩ fun a _ => mtime_ok a.1, pureE_ok ⟨_, Try.func54, rfl, by kernel_rfl⟩ fun a _ => mseq_ok a.1, pureE_ok ⟨_, Try.func55, rfl, by kernel_rfl⟩ fun a h => compare_ok a.1 a.2.1 h.1 h.2, trivial⟩
def bdOk (b : Bd) : Bool := !(ipEq b.place b.home) && sqOk b.seq && vt b.til
def ordOk : Option (Fin 16 → Int) → (Fin 16 → Int) → Bool
  | none, _ => true
  | some h, a => decide (ipC h a < 0)
def bvF : Option (Fin 16 → Int) → List Bd → Bool
  | _, [] => true
  | p, b :: l => bdOk b && ordOk p b.home && bvF (some b.home) l
def bvalid (l : List Bd) : Bool := decide (l.length ≤ 32) && bvF none l
structure bdL (l : List Bd) : Prop where
  b : ∀ b ∈ l, byteOk b.home ∧ byteOk b.place
  n : l.length ≤ 2932031007317
def pvB (l : List Bd) (i : Nat) : Option (Fin 16 → Int) := if i = 0 then none else some (l.getD (i - 1) default).home
theorem memB {L : List Bd} {i : Nat} (h : i < L.length) : L.getD i default ∈ L := by
  rw [List.getD_eq_getElem?_getD, List.getElem?_eq_getElem h]
  exact List.getElem_mem h
theorem bv_step {l : List Bd} {i : Nat} (p : Option (Fin 16 → Int)) (h : i < l.length) : bvF p (l.drop i) = (bdOk (l.getD i default) && ordOk p (l.getD i default).home && bvF (pvB l (i + 1)) (l.drop (i + 1))) := by
  rw [drop_at h, bvF]; simp [pvB]
set_option maxHeartbeats 4000000 in
set_option maxRecDepth 20000 in
theorem mvalid_ok (l : List Bd) (hl : bdL l) : PureOk Try.prog 52 [(cSl eBd eBd_sz).enc l] (cB.enc (bvalid l)) := by
  have hn := hl.n
  refine pure_intro (wd := 1) (Q := mkQ LM0) (by decide) tysOk (q_of LM0_ok) mixed Try.func52 rfl _ (by show 1 ≤ _; decide) _ ?_
  repeat' (first | (apply And.intro <;> intro hc <;> (first | exact Bool.noConfusion hc | (simp only [decide_eq_true_eq, decide_eq_false_iff_not, Bool.not_eq_true', Bool.not_eq_false', beq_iff_eq, beq_eq_false_iff_ne, bne_iff_ne, bne_eq_false_iff_eq, Bool.true_eq_false, Bool.false_eq_true] at hc) | skip)) | (refine And.intro (by first | exact trivial | decide | omega | (dsimp only; omega) | exact fun _ _ => rfl) ?_) | (apply And.intro) | (intro s hs))
  · have e : bvalid l = false := by unfold bvalid; rw [decide_eq_false (by omega)]; rfl
    rw [e]
    exact Done.mk (leF_bool rfl)
  have e : bvalid l = bvF none l := by unfold bvalid; rw [decide_eq_true (by omega)]; rfl
  rw [e]
  refine loop_intro (mono_of LM0_ok) (fun i : {i : Nat // i ≤ l.length ∧ bvF none l = bvF (pvB l i) (l.drop i)} => (⟨[(0, one (.sl false l.length eBd.sz (rowF eBd l))), (8, one (.sl false l.length eBd.sz (rowF eBd l))), (9, one (.int .i64 (l.length : Int))), (10, one (.int .i64 (i.1 : Int)))], [], 10⟩ : Hd)) (fun i => l.length - i.1) (fun _ => rfl) ?_ ⟨0, by omega, rfl⟩ [] ?_
  · rintro ⟨i, hi, hv⟩
    dsimp only at hi hv ⊢
    have hcmp : 0 < (i : Int) → (0 ≤ IntKind.i64.wrap ((i : Int) - 1) ∧ IntKind.i64.wrap ((i : Int) - 1) < (l.length : Int)) ∧ (IntKind.i64.wrap ((i : Int) - 1)).toNat < l.length ∧ pvB l i = some (l.getD (IntKind.i64.wrap ((i : Int) - 1)).toNat default).home := fun h => by
      rw [show IntKind.i64.wrap ((i : Int) - 1) = (i : Int) - 1 from IntWalk.i64_in _ (by omega)]
      exact ⟨⟨by omega, by omega⟩, by omega, by rw [pvB, if_neg (by omega), show ((i : Int) - 1).toNat = i - 1 by omega]⟩
    have hp0 : ¬ 0 < (i : Int) → pvB l i = none := fun h => by rw [pvB, if_pos (by omega)]
    repeat' (first | (apply And.intro <;> intro hc <;> (first | exact Bool.noConfusion hc | (simp only [decide_eq_true_eq, decide_eq_false_iff_not, Bool.not_eq_true', Bool.not_eq_false', beq_iff_eq, beq_eq_false_iff_ne, bne_iff_ne, bne_eq_false_iff_eq, Bool.true_eq_false, Bool.false_eq_true] at hc) | skip)) | (refine And.intro (by first | exact trivial | decide | omega | (dsimp only; omega) | exact fun _ _ => rfl) ?_) | (apply And.intro) | (intro s hs))
    all_goals first
      | exact (hcmp (by assumption)).1.1
      | exact (hcmp (by assumption)).1.2
      | exact home_ok (s := s) (by omega) (by omega)
      | (dsimp only; refine byL_home (hl.b _ (memB (hcmp (by assumption)).2.1)).1 (fun k hk => ?_); exact home_cell (by omega) hk)
      | (dsimp only; refine byL_home (hl.b _ (memB (show i < l.length by omega))).1 (fun k hk => ?_); exact home_cell (by omega) hk)
      | (refine Done.mk (leF_bool ?_)
         have hlt : i < l.length := by omega
         symm
         rw [hv, bv_step _ hlt, Bool.eq_false_iff]
         intro h
         simp only [Bool.and_eq_true, bdOk, Bool.not_eq_true'] at h
         obtain ⟨⟨⟨⟨h1, h2⟩, h3⟩, h4⟩, _⟩ := h
         first
           | (have q : ipEq (l.getD i default).place (l.getD i default).home = true := by assumption
              rw [h1] at q; cases q)
           | (have q : s = sqOk (l.getD i default).seq := hs
              have q2 : s = false := by assumption
              rw [q, h2] at q2; cases q2)
           | (have q : s = vt (l.getD i default).til := hs
              have q2 : s = false := by assumption
              rw [q, h3] at q2; cases q2)
           | (have q2 : 0 < (i : Int) := by assumption
              have q : s = ipC (l.getD (IntKind.i64.wrap ((i : Int) - 1)).toNat default).home (l.getD i default).home := by rw [hs]; dsimp only; refine cmp_home (fun k hk => ?_) (fun k hk => ?_) <;> exact home_cell (by omega) hk
              have q3 : 0 ≤ s := by assumption
              rw [(hcmp q2).2.2] at h4
              simp only [ordOk, decide_eq_true_eq] at h4
              omega))
      | (have hlt : i < l.length := by omega
         have b1 : ipEq (l.getD i default).place (l.getD i default).home = false := by assumption
         have b4 : ordOk (pvB l i) (l.getD i default).home = true := by
           first
             | (rw [hp0 (by assumption)]; rfl)
             | (have q2 : 0 < (i : Int) := by assumption
                have q : s = ipC (l.getD (IntKind.i64.wrap ((i : Int) - 1)).toNat default).home (l.getD i default).home := by rw [hs]; dsimp only; refine cmp_home (fun k hk => ?_) (fun k hk => ?_) <;> exact home_cell (by omega) hk
                have q3 : ¬ 0 ≤ s := by assumption
                rw [(hcmp q2).2.2]
                simp only [ordOk, decide_eq_true_eq]
                omega)
         have b23 : sqOk (l.getD i default).seq = true ∧ vt (l.getD i default).til = true := by
           first
             | (rename_i s1 hs1 c1 c2
                exact ⟨(show _ = s1 from hs1.symm).trans c1, (show _ = s from hs.symm).trans (by assumption)⟩)
             | (rename_i s1 hs1 c1 c2 c3
                exact ⟨(show _ = s1 from hs1.symm).trans c1, (show _ = s from hs.symm).trans c2⟩)
             | (rename_i s1 hs1 c1 s2 hs2 c2 c3
                exact ⟨(show _ = s1 from hs1.symm).trans c1, (show _ = s2 from hs2.symm).trans c2⟩)
         refine ⟨⟨i + 1, by omega, ?_⟩, [], by dsimp only; omega, rfl, ?_, ?_⟩
         · rw [hv, bv_step _ hlt, bdOk, b1, b4, b23.1, b23.2]; rfl
         · repeat' (first | exact trivial | exact rfl | exact leF_ptr rfl | exact leF_int rfl | exact leF_bool rfl | exact leF_cl (cl_slB _ _) | exact leF_cl (cl_slR _ _) | exact leF_c (leC_os rfl rfl) | refine leF_int ?_ | refine leF_bool ?_ | exact leN_varA (fun _ _ => (Elem.flat _ _ _).le) | exact leN_varA (fun _ _ => leC_top) | apply And.intro)
           (dsimp only; rw [IntWalk.i64_in _ (by omega)]; omega)
         · repeat' (first | exact trivial | exact rfl | exact leF_ptr rfl | exact leF_int rfl | exact leF_bool rfl | exact leF_cl (cl_slB _ _) | exact leF_cl (cl_slR _ _) | exact leF_c (leC_os rfl rfl) | refine leF_int ?_ | refine leF_bool ?_ | exact leN_varA (fun _ _ => (Elem.flat _ _ _).le) | exact leN_varA (fun _ _ => leC_top) | apply And.intro))
      | (refine Done.mk (leF_bool ?_)
         have hil : i = l.length := by omega
         rw [hv, hil, List.drop_length]; rfl)
  · refine ⟨rfl, ?_, ?_⟩
    · repeat' (first | exact trivial | exact rfl | exact leF_ptr rfl | exact leF_int rfl | exact leF_bool rfl | exact leF_cl (cl_slB _ _) | exact leF_cl (cl_slR _ _) | exact leF_c (leC_os rfl rfl) | refine leF_int ?_ | refine leF_bool ?_ | exact leN_varA (fun _ _ => (Elem.flat _ _ _).le) | exact leN_varA (fun _ _ => leC_top) | apply And.intro)
    · repeat' (first | exact trivial | exact rfl | exact leF_ptr rfl | exact leF_int rfl | exact leF_bool rfl | exact leF_cl (cl_slB _ _) | exact leF_cl (cl_slR _ _) | exact leF_c (leC_os rfl rfl) | refine leF_int ?_ | refine leF_bool ?_ | exact leN_varA (fun _ _ => (Elem.flat _ _ _).le) | exact leN_varA (fun _ _ => leC_top) | apply And.intro)
end Go.Proofs.Ytcnfjifokeancaa.AX
