/- Package contexts: plain functions and contracts. -/
import Derived.Test.YtjknkfjhcapocaaGe
namespace Go.Proofs.Ytjknkfjhcapocaa.AX
set_option linter.unusedVariables false
set_option linter.unusedSimpArgs false

structure Ctx where
  id : Int
  ip : Fin 16 → Int
  bits : Int
  comp : Bool
  til : Int
instance : Inhabited Ctx := ⟨⟨0, fun _ => 0, 0, false, 0⟩⟩
structure Pfx where
  ip : Fin 16 → Int
  bits : Int
def eCtxC (x : Ctx) (j : Nat) : CV := bif Nat.beq j 0 then .int .i64 x.id else bif Nat.blt j 17 then .int .u8 (vget x.ip (j - 1)) else bif Nat.beq j 17 then .int .i64 x.bits else bif Nat.beq j 18 then .bool x.comp else (.int .i64 x.til)
def eCtx : Elem Ctx where
  sz := 20
  cell := eCtxC
  rd g := ⟨valI (g 0), fun q => valI (g (1 + q.1)), valI (g 17), valB (g 18), valI (g 19)⟩
  ok g := isK .i64 (g 0) && okA .u8 g 1 16 && isK .i64 (g 17) && isB (g 18) && isK .i64 (g 19)
  ok_eq g h j hj := by
    simp only [Bool.and_eq_true] at h
    unfold eCtxC
    by_cases c0 : j < 1
    · have e : j = 0 := by omega
      subst e
      exact isK_eq h.1.1.1.1
    by_cases c1 : j < 17
    · have e := okA_at h.1.1.1.2 (j - 1) (by omega)
      rw [show 1 + (j - 1) = j by omega] at e
      have b0 : Nat.beq j 0 = false := by cases hb : Nat.beq j 0 with | false => rfl | true => have := Nat.eq_of_beq_eq_true hb; omega
      rw [b0, cond_false, show Nat.blt j 17 = true from Nat.ble_eq_true_of_le c1, cond_true]
      rw [show vget (fun q : Fin 16 => valI (g (1 + q.1))) (j - 1) = valI (g (1 + (j - 1))) from vget_lt _ (by omega)]
      rw [show 1 + (j - 1) = j by omega]
      exact e
    by_cases c2 : j < 18
    · have e : j = 17 := by omega
      subst e
      exact isK_eq h.1.1.2
    by_cases c3 : j < 19
    · have e : j = 18 := by omega
      subst e
      exact isB_eq h.1.2
    by_cases c4 : j < 20
    · have e : j = 19 := by omega
      subst e
      exact isK_eq h.2
    omega
  flat a j := by
    unfold eCtxC
    cases Nat.beq j 0 with
    | true => exact flat_int
    | false =>
    cases Nat.blt j 17 with
    | true => exact flat_int
    | false =>
    cases Nat.beq j 17 with
    | true => exact flat_int
    | false =>
    cases Nat.beq j 18 with
    | true => exact flat_bool
    | false =>
    exact flat_int
theorem eCtx_sz : 0 < eCtx.sz := by decide
theorem eCtx_ip_at (x : Ctx) (q : Nat) (h : q < 16) : eCtx.cell x (1 + q) = .int .u8 (vget x.ip q) := by
  show eCtxC x (1 + q) = _
  unfold eCtxC
  rw [show Nat.beq (1 + q) 0 = false from by cases hb : Nat.beq (1 + q) 0 with | false => rfl | true => have := Nat.eq_of_beq_eq_true hb; omega, cond_false]
  rw [show Nat.blt (1 + q) 17 = true from Nat.ble_eq_true_of_le (by omega), cond_true]
  rw [show 1 + q - 1 = q by omega]
theorem eCtx_ip (x : Ctx) : (fun q : Fin 16 => valI (eCtx.cell x (1 + q.1))) = x.ip := by
  funext q
  rw [eCtx_ip_at x q.1 q.2]
  exact vget_lt _ q.2
theorem eCtx_rd (x : Ctx) : eCtx.rd (eCtx.cell x) = x := by
  show (⟨x.id, fun q => valI (eCtx.cell x (1 + q.1)), x.bits, x.comp, x.til⟩ : Ctx) = x
  rw [eCtx_ip]
theorem eCtx_ok (x : Ctx) : eCtx.ok (eCtx.cell x) = true := rfl
def ePfxC (x : Pfx) (j : Nat) : CV := bif Nat.blt j 16 then .int .u8 (vget x.ip (j - 0)) else (.int .i64 x.bits)
def ePfx : Elem Pfx where
  sz := 17
  cell := ePfxC
  rd g := ⟨fun q => valI (g (0 + q.1)), valI (g 16)⟩
  ok g := okA .u8 g 0 16 && isK .i64 (g 16)
  ok_eq g h j hj := by
    simp only [Bool.and_eq_true] at h
    unfold ePfxC
    by_cases c0 : j < 16
    · have e := okA_at h.1 (j - 0) (by omega)
      rw [show 0 + (j - 0) = j by omega] at e
      rw [show Nat.blt j 16 = true from Nat.ble_eq_true_of_le c0, cond_true]
      rw [show vget (fun q : Fin 16 => valI (g (0 + q.1))) (j - 0) = valI (g (0 + (j - 0))) from vget_lt _ (by omega)]
      rw [show 0 + (j - 0) = j by omega]
      exact e
    by_cases c1 : j < 17
    · have e : j = 16 := by omega
      subst e
      exact isK_eq h.2
    omega
  flat a j := by
    unfold ePfxC
    cases Nat.blt j 16 with
    | true => exact flat_int
    | false =>
    exact flat_int
theorem ePfx_sz : 0 < ePfx.sz := by decide
theorem ePfx_ip_at (x : Pfx) (q : Nat) (h : q < 16) : ePfx.cell x (0 + q) = .int .u8 (vget x.ip q) := by
  show ePfxC x (0 + q) = _
  unfold ePfxC
  rw [show Nat.blt (0 + q) 16 = true from Nat.ble_eq_true_of_le (by omega), cond_true]
  rw [show 0 + q - 0 = q by omega]
theorem ePfx_ip (x : Pfx) : (fun q : Fin 16 => valI (ePfx.cell x (0 + q.1))) = x.ip := by
  funext q
  rw [ePfx_ip_at x q.1 q.2]
  exact vget_lt _ q.2
theorem ePfx_rd (x : Pfx) : ePfx.rd (ePfx.cell x) = x := by
  show (⟨fun q => valI (ePfx.cell x (0 + q.1)), x.bits⟩ : Pfx) = x
  rw [ePfx_ip]
theorem ePfx_ok (x : Pfx) : ePfx.ok (ePfx.cell x) = true := rfl

def vt (t : Int) : Bool := decide (0 ≤ t) && decide (t ≤ 1099511627776)
theorem vt_ok (t : Int) : PureOk Try.prog 140 [(cI .i64).enc t] (cB.enc (vt t)) := by
  refine pure_intro (wd := 1) (Q := mkQ LE0) (by decide) tysOk (q_of LE0_ok) mixed Try.func140 rfl _ (by show 1 ≤ _; decide) _ ?_
  repeat' (first | (apply And.intro <;> intro hc <;> (first | exact Bool.noConfusion hc | (simp only [decide_eq_true_eq, decide_eq_false_iff_not, Bool.not_eq_true', Bool.not_eq_false', beq_iff_eq, beq_eq_false_iff_ne, bne_iff_ne, bne_eq_false_iff_eq, Bool.true_eq_false, Bool.false_eq_true] at hc) | skip)) | (refine And.intro (by first | exact trivial | decide | omega | (dsimp only; omega) | exact fun _ _ => rfl) ?_) | (apply And.intro) | (intro s hs))
  all_goals (refine Done.mk (leF_bool ?_); simp [vt, *])
def compr (c : Ctx) (now : Int) : Bool := c.comp && decide (now < c.til)
theorem compr_ok (c : Ctx) (now : Int) : PureOk Try.prog 148 [(cE eCtx).enc c, (cI .i64).enc now] (cB.enc (compr c now)) := by
  refine pure_intro (wd := 1) (Q := mkQ LE0) (by decide) tysOk (q_of LE0_ok) mixed Try.func148 rfl _ (by show 2 ≤ _; decide) _ ?_
  repeat' (first | (apply And.intro <;> intro hc <;> (first | exact Bool.noConfusion hc | (simp only [decide_eq_true_eq, decide_eq_false_iff_not, Bool.not_eq_true', Bool.not_eq_false', beq_iff_eq, beq_eq_false_iff_ne, bne_iff_ne, bne_eq_false_iff_eq, Bool.true_eq_false, Bool.false_eq_true] at hc) | skip)) | (refine And.intro (by first | exact trivial | decide | omega | (dsimp only; omega) | exact fun _ _ => rfl) ?_) | (apply And.intro) | (intro s hs))
  all_goals (refine Done.mk (leF_bool ?_); simp [compr, *])
def decom (c : Ctx) (now : Int) : Bool := decide (now < IntKind.i64.wrap (c.til + 32))
theorem decom_ok (c : Ctx) (now : Int) : PureOk Try.prog 141 [(cE eCtx).enc c, (cI .i64).enc now] (cB.enc (decom c now)) := by
  refine pure_intro (wd := 1) (Q := mkQ LE0) (by decide) tysOk (q_of LE0_ok) mixed Try.func141 rfl _ (by show 2 ≤ _; decide) _ ?_
  repeat' (first | (apply And.intro <;> intro hc <;> (first | exact Bool.noConfusion hc | (simp only [decide_eq_true_eq, decide_eq_false_iff_not, Bool.not_eq_true', Bool.not_eq_false', beq_iff_eq, beq_eq_false_iff_ne, bne_iff_ne, bne_eq_false_iff_eq, Bool.true_eq_false, Bool.false_eq_true] at hc) | skip)) | (refine And.intro (by first | exact trivial | decide | omega | (dsimp only; omega) | exact fun _ _ => rfl) ?_) | (apply And.intro) | (intro s hs))
  all_goals (refine Done.mk (leF_bool ?_); simp [decom, *])

/-! ### address.Mask -/
def clampI (b lo hi : Int) : Int := if hi < (if b < lo then lo else b) then hi else (if b < lo then lo else b)
def keepAt (b : Int) (i : Nat) : Int := clampI (b - 8 * i) 0 8
def maskB (a : Fin 16 → Int) (b : Int) (i : Nat) : Int := bits .andNot .u8 (vget a i) (shrI .u8 255 (keepAt b i))
def maskP (a : Fin 16 → Int) (b : Int) : Pfx := ⟨fun q => maskB a (clampI b 0 128) q.1, clampI b 0 128⟩
def maskS (a : Fin 16 → Int) (b : Int) (i : Nat) (j : Nat) : CV := bif Nat.blt j 16 then .int .u8 (if j < i then maskB a b j else 0) else .int .i64 b
theorem upd_step (i j : Nat) (v : Int) (m : Nat → Int) (h : v = m i) : (bif Nat.ble (0 + i * 1) j && Nat.blt j (0 + i * 1 + 1) then v else (if j < i then m j else 0)) = if j < i + 1 then m j else 0 := by
  rw [Nat.mul_one, Nat.zero_add]
  by_cases h1 : j = i
  · subst h1
    have : (Nat.ble j j && Nat.blt j (j + 1)) = true := by simp [Nat.blt]
    rw [this, cond_true, if_pos (by omega), h]
  · have : (Nat.ble i j && Nat.blt j (i + 1)) = false := by
      cases hb : (Nat.ble i j && Nat.blt j (i + 1)) with
      | false => rfl
      | true =>
        simp only [Bool.and_eq_true] at hb
        have := Nat.le_of_ble_eq_true hb.1
        have := Nat.le_of_ble_eq_true hb.2
        omega
    rw [this, cond_false]
    by_cases h2 : j < i
    · rw [if_pos h2, if_pos (by omega)]
    · rw [if_neg h2, if_neg (by omega)]
theorem clampI_in (b : Int) {lo hi : Int} (h : lo ≤ hi) : lo ≤ clampI b lo hi ∧ clampI b lo hi ≤ hi := by unfold clampI; split <;> split <;> omega
set_option maxRecDepth 4000 in
theorem mask_ok (a : Fin 16 → Int) (b : Int) : PureOk Try.prog 149 [(cE (eA .u8 16)).enc a, (cI .i64).enc b] ((cE ePfx).enc (maskP a b)) := by
  have hb := clampI_in b (lo := 0) (hi := 128) (by omega)
  refine pure_intro (wd := 1) (Q := mkQ LE0) (by decide) tysOk (q_of LE0_ok) mixed Try.func149 rfl _ (by show 2 ≤ _; decide) _ ?_
  refine loop_intro (mono_of LE0_ok) (fun i : {i : Nat // i ≤ 16} => (⟨[(2, one (.ptr 0 0 0 false)), (4, one (.ptr 1 0 0 false)), (5, one (.ptr 6 0 0 false)), (12, one (.int .i64 (i.1 : Int)))],
    [(0, some ⟨24, 1, 16, true, fun _ => (eA .u8 16).cell a⟩), (1, some ⟨73, 1, 17, true, fun _ _ => .top⟩), (6, some ⟨73, 1, 17, true, fun _ => maskS a (clampI b 0 128) i.1⟩)], 9⟩ : Hd)) (fun i => 16 - i.1) (fun _ => rfl) ?_ ⟨0, by omega⟩ [] ?_
  · rintro ⟨i, hi⟩
    dsimp only
    have hv : bits .andNot .u8 (vget a (0 + (i : Int).toNat * 1 + 0)) (shrI .u8 255 (clampI (IntKind.i64.wrap (clampI b 0 128 - IntKind.i64.wrap (8 * (i : Int)))) 0 8)) = maskB a (clampI b 0 128) i := by
      have h1 : IntKind.i64.wrap (8 * (i : Int)) = 8 * i := IntWalk.i64_in _ (by omega)
      have h2 : IntKind.i64.wrap (clampI b 0 128 - 8 * (i : Int)) = clampI b 0 128 - 8 * i := IntWalk.i64_in _ (by omega)
      simp [maskB, keepAt, h1, h2]
    repeat' (first | (apply And.intro <;> intro hc <;> (first | exact Bool.noConfusion hc | (simp only [decide_eq_true_eq, decide_eq_false_iff_not, Bool.not_eq_true', Bool.not_eq_false', beq_iff_eq, beq_eq_false_iff_ne, bne_iff_ne, bne_eq_false_iff_eq, Bool.true_eq_false, Bool.false_eq_true] at hc) | skip)) | (refine And.intro (by first | exact trivial | decide | omega | (dsimp only; omega) | exact fun _ _ => rfl) ?_) | (apply And.intro) | (intro s hs))
    · refine ⟨⟨i + 1, by omega⟩, [], by dsimp only; omega, rfl, ?_, ?_⟩
      · repeat' (first | exact trivial | exact rfl | exact leF_ptr rfl | exact leF_int rfl | exact leF_bool rfl | exact leF_cl (cl_slB _ _) | exact leF_cl (cl_slR _ _) | exact leF_cl (cl_ll _ _) | exact leF_c (leC_os rfl rfl) | refine leF_int ?_ | refine leF_bool ?_ | exact leN_varA (fun _ _ => (Elem.flat _ _ _).le) | exact leN_varA (fun _ _ => leC_top) | apply And.intro)
        first | (dsimp only; rw [IntWalk.i64_in _ (by omega)]; omega) | (dsimp only; rw [IntWalk.i64_in _ (by omega)]; done) | (dsimp only; exact IntWalk.i64_in _ (by omega)) | exact IntWalk.i64_in _ (by omega) | (rw [IntWalk.i64_in _ (by omega)]; omega)
      · repeat' (first | exact trivial | exact rfl | exact leF_ptr rfl | exact leF_int rfl | exact leF_bool rfl | exact leF_cl (cl_slB _ _) | exact leF_cl (cl_slR _ _) | exact leF_cl (cl_ll _ _) | exact leF_c (leC_os rfl rfl) | refine leF_int ?_ | refine leF_bool ?_ | exact leN_varA (fun _ _ => (Elem.flat _ _ _).le) | exact leN_varA (fun _ _ => leC_top) | apply And.intro)
        refine leN_var ?_
        repeat' (first | exact trivial | exact leC_int (upd_step i _ _ _ hv) | exact leC_int rfl | apply And.intro)
        refine cond_out (b := Nat.ble (0 + (i : Int).toNat * 1) 16 && Nat.blt 16 (0 + (i : Int).toNat * 1 + 1)) (y := .int .i64 (clampI b 0 128)) (z := .int .i64 (clampI b 0 128)) ?_ ?_
        · refine rng_out (i := 0 + (i : Int).toNat * 1) (j := 16) (n := 1) ?_
          simp
          omega
        · exact leC_int rfl
    · refine Done.mk (leF_e (leE_all ?_))
      have h16 : i = 16 := by omega
      subst h16
      repeat' (first | exact trivial | exact leC_int rfl | apply And.intro)
  · refine ⟨rfl, ?_, ?_⟩
    · repeat' (first | exact trivial | exact rfl | exact leF_ptr rfl | exact leF_int rfl | exact leF_bool rfl | exact leF_cl (cl_slB _ _) | exact leF_cl (cl_slR _ _) | exact leF_cl (cl_ll _ _) | exact leF_c (leC_os rfl rfl) | refine leF_int ?_ | refine leF_bool ?_ | exact leN_varA (fun _ _ => (Elem.flat _ _ _).le) | exact leN_varA (fun _ _ => leC_top) | apply And.intro)
    · repeat' (first | exact trivial | exact rfl | exact leF_ptr rfl | exact leF_int rfl | exact leF_bool rfl | exact leF_cl (cl_slB _ _) | exact leF_cl (cl_slR _ _) | exact leF_cl (cl_ll _ _) | exact leF_c (leC_os rfl rfl) | refine leF_int ?_ | refine leF_bool ?_ | exact leN_varA (fun _ _ => (Elem.flat _ _ _).le) | exact leN_varA (fun _ _ => leC_top) | apply And.intro)
      refine leN_var ?_
      repeat' (first | exact trivial | exact leC_int rfl | apply And.intro)
def ipEq (a b : Fin 16 → Int) : Bool := (List.range 16).all fun j => vget a j == vget b j
theorem ipEq_iff {a b : Fin 16 → Int} : ipEq a b = true ↔ a = b := by
  simp only [ipEq, List.all_eq_true, List.mem_range, beq_iff_eq]
  constructor
  · intro h
    funext q
    have := h q.1 q.2
    rw [vget_lt _ q.2, vget_lt _ q.2] at this
    exact this
  · rintro rfl j _; rfl
def pEq (p q : Pfx) : Bool := ipEq p.ip q.ip && decide (p.bits = q.bits)
theorem pEq_iff {p q : Pfx} : pEq p q = true ↔ p = q := by
  simp only [pEq, Bool.and_eq_true, ipEq_iff, decide_eq_true_eq]
  constructor
  · rintro ⟨h1, h2⟩
    obtain ⟨a, b⟩ := p
    obtain ⟨c, d⟩ := q
    simp only at h1 h2
    rw [h1, h2]
  · rintro rfl; exact ⟨rfl, rfl⟩
theorem pEq_from (p q : Pfx) : eqFrom (ePfx.cell p) (ePfx.cell q) 17 0 = pEq p q := by
  rw [Bool.eq_iff_iff, eqFrom_iff, pEq_iff]
  simp only [Nat.zero_add]
  constructor
  · intro h
    obtain ⟨a, b⟩ := p
    obtain ⟨c, d⟩ := q
    have h1 : a = c := by
      funext j
      have := h j.1 (by omega)
      rw [← Nat.zero_add j.1, ePfx_ip_at _ _ j.2, ePfx_ip_at _ _ j.2] at this
      simp only [eqCell, beq_iff_eq] at this
      rw [vget_lt _ j.2, vget_lt _ j.2] at this
      exact this
    have h2 : b = d := by
      have := h 16 (by omega)
      have e1 : ∀ x : Pfx, ePfx.cell x 16 = .int .i64 x.bits := fun x => rfl
      rw [e1, e1] at this
      simpa [eqCell] using this
    rw [h1, h2]
  · rintro rfl j hj
    by_cases h16 : j < 16
    · rw [← Nat.zero_add j, ePfx_ip_at _ _ h16]; simp [eqCell]
    · have : j = 16 := by omega
      subst this
      have e1 : ∀ x : Pfx, ePfx.cell x 16 = .int .i64 x.bits := fun x => rfl
      rw [e1]; simp [eqCell]
def vpf (p : Pfx) : Bool := decide (0 ≤ p.bits) && decide (p.bits ≤ 128) && pEq (maskP p.ip p.bits) p
def LE1 : CsL := [(149, some (pureE (AC.cons (cE (eA .u8 16)) (AC.cons (cI .i64) AC.nil)) (fun _ => True) (fun a => maskP a.1 a.2.1) (cE ePfx).enc))]
theorem LE1_ok : AllOk Try.prog LE1 := ⟨pureE_ok ⟨_, Try.func149, rfl, by kernel_rfl⟩ fun a _ => mask_ok a.1 a.2.1, trivial⟩
theorem vpf_ok (p : Pfx) : PureOk Try.prog 147 [(cE ePfx).enc p] (cB.enc (vpf p)) := by
  refine pure_intro (wd := 1) (Q := mkQ LE1) (by decide) tysOk (q_of LE1_ok) mixed Try.func147 rfl _ (by show 1 ≤ _; decide) _ ?_
  repeat' (first | (apply And.intro <;> intro hc <;> (first | exact Bool.noConfusion hc | (simp only [decide_eq_true_eq, decide_eq_false_iff_not, Bool.not_eq_true', Bool.not_eq_false', beq_iff_eq, beq_eq_false_iff_ne, bne_iff_ne, bne_eq_false_iff_eq, Bool.true_eq_false, Bool.false_eq_true] at hc) | skip)) | (refine And.intro (by first | exact trivial | decide | omega | (dsimp only; omega) | exact fun _ _ => rfl) ?_) | (apply And.intro) | (intro s hs))
  · refine Done.mk (leF_bool ?_)
    refine (show _ = eqFrom (ePfx.cell s) (ePfx.cell p) 17 0 from by simp only [Nat.zero_add]; rfl).trans ?_
    rw [pEq_from, hs]
    have e : ((eA .u8 16).rd fun q => (fun x => ePfx.cell p) 0 (0 + 0 + q)) = p.ip := by
      have := ePfx_ip p
      simp only [Nat.zero_add] at this ⊢
      exact this
    rw [e]
    simp [vpf, *]
  all_goals (refine Done.mk (leF_bool ?_); simp [vpf, *])
def pfxOf (c : Ctx) : Pfx := ⟨c.ip, c.bits⟩
theorem pfx_of_ctx (c : Ctx) : ePfx.rd (fun q => eCtx.cell c (1 + q)) = pfxOf c := by
  show (⟨fun q => valI (eCtx.cell c (1 + (0 + q.1))), valI (eCtx.cell c (1 + 16))⟩ : Pfx) = _
  have := eCtx_ip c
  simp only [Nat.zero_add]
  rw [this]
  rfl
def validFrom : Int → List Ctx → Bool
  | _, [] => true
  | b, c :: l => decide (b < c.id) && decide (c.id < 16) && vpf (pfxOf c) && vt c.til && validFrom c.id l
def validT (l : List Ctx) : Bool := validFrom (-1) l
def LE2 : CsL := (147, some (pureE (AC.cons (cE ePfx) AC.nil) (fun _ => True) (fun a => vpf a.1) cB.enc)) ::
  (140, some (pureE (AC.cons (cI .i64) AC.nil) (fun _ => True) (fun a => vt a.1) cB.enc)) ::
  (148, some (pureE (AC.cons (cE eCtx) (AC.cons (cI .i64) AC.nil)) (fun _ => True) (fun a => compr a.1 a.2.1) cB.enc)) ::
  (141, some (pureE (AC.cons (cE eCtx) (AC.cons (cI .i64) AC.nil)) (fun _ => True) (fun a => decom a.1 a.2.1) cB.enc)) :: LE1
theorem LE2_ok : AllOk Try.prog LE2 := ⟨pureE_ok ⟨_, Try.func147, rfl, by kernel_rfl⟩ fun a _ => vpf_ok a.1, pureE_ok ⟨_, Try.func140, rfl, by kernel_rfl⟩ fun a _ => vt_ok a.1, pureE_ok ⟨_, Try.func148, rfl, by kernel_rfl⟩ fun a _ => compr_ok a.1 a.2.1, pureE_ok ⟨_, Try.func141, rfl, by kernel_rfl⟩ fun a _ => decom_ok a.1 a.2.1, LE1_ok⟩
theorem valid_step {l : List Ctx} {i : Nat} (b : Int) (h : i < l.length) : validFrom b (l.drop i) = (decide (b < (l.getD i default).id) && decide ((l.getD i default).id < 16) && vpf (pfxOf (l.getD i default)) && vt (l.getD i default).til && validFrom (l.getD i default).id (l.drop (i + 1))) := by
  have : l.drop i = l.getD i default :: l.drop (i + 1) := by
    rw [List.drop_eq_getElem_cons h, List.getD_eq_getElem?_getD, List.getElem?_eq_getElem h]
    rfl
  rw [this, validFrom]
theorem valid_ok (l : List Ctx) (hl : l.length ≤ 9223372036854775807) : PureOk Try.prog 112 [(cSl eCtx eCtx_sz).enc l] (cB.enc (validT l)) := by
  refine pure_intro (wd := 1) (Q := mkQ LE2) (by decide) tysOk (q_of LE2_ok) mixed Try.func112 rfl _ (by show 1 ≤ _; decide) _ ?_
  refine loop_intro (mono_of LE2_ok) (fun s : {s : Nat × Int // s.1 ≤ l.length ∧ validT l = validFrom s.2 (l.drop s.1)} => (⟨[(3, one (.int .i64 s.1.2)), (6, one (.sl false l.length eCtx.sz (rowF eCtx l))), (7, one (.int .i64 (l.length : Int))), (8, one (.int .i64 (s.1.1 : Int)))], [], 5⟩ : Hd)) (fun s => l.length - s.1.1) (fun _ => rfl) ?_ ⟨(0, -1), by simp, rfl⟩ [] ?_
  · rintro ⟨⟨i, b⟩, hi, hv⟩
    dsimp only at hi hv ⊢
    repeat' (first | (apply And.intro <;> intro hc <;> (first | exact Bool.noConfusion hc | (simp only [decide_eq_true_eq, decide_eq_false_iff_not, Bool.not_eq_true', Bool.not_eq_false', beq_iff_eq, beq_eq_false_iff_ne, bne_iff_ne, bne_eq_false_iff_eq, Bool.true_eq_false, Bool.false_eq_true] at hc) | skip)) | (refine And.intro (by first | exact trivial | decide | omega | (dsimp only; omega) | exact fun _ _ => rfl) ?_) | (apply And.intro) | (intro s hs))
    · have h := valid_step b (l := l) (i := i) (by omega)
      simp only [Int.toNat_natCast] at *
      refine Done.mk (leF_bool ?_)
      rw [hv, h, decide_eq_false (p := b < _) (by omega)]
      rfl
    · have h := valid_step b (l := l) (i := i) (by omega)
      simp only [Int.toNat_natCast] at *
      refine Done.mk (leF_bool ?_)
      rw [hv, h, decide_eq_false (p := _ < (16 : Int)) (by omega)]
      simp
    · have h := valid_step b (l := l) (i := i) (by omega)
      have hs' : s = vpf (pfxOf (l.getD i default)) := by
        rw [hs, ← pfx_of_ctx]
        simp only [Int.toNat_natCast, Nat.zero_add]
        rfl
      have hf : s = false := by assumption
      refine Done.mk (leF_bool ?_)
      rw [hv, h, ← hs', hf]
      simp
    · have h := valid_step b (l := l) (i := i) (by omega)
      have hs' : s = vt (l.getD i default).til := hs
      refine Done.mk (leF_bool ?_)
      rw [hv, h, ← hs', hc]
      simp
    · have h := valid_step b (l := l) (i := i) (by omega)
      rename_i s1 hs1 hc1
      have hs1' : s1 = vpf (pfxOf (l.getD i default)) := by
        rw [hs1, ← pfx_of_ctx]
        simp only [Int.toNat_natCast, Nat.zero_add]
        rfl
      have hs' : s = vt (l.getD i default).til := hs
      have hd1 : ¬ (l.getD i default).id ≤ b := by assumption
      have hd2 : ¬ 16 ≤ (l.getD i default).id := by assumption
      refine ⟨⟨(i + 1, (l.getD i default).id), by dsimp only; omega, ?_⟩, [], by dsimp only; omega, rfl, ?_, ?_⟩
      · dsimp only
        have d1 : decide (b < (l.getD i default).id) = true := decide_eq_true (by omega)
        have d2 : decide ((l.getD i default).id < 16) = true := decide_eq_true (by omega)
        rw [hv, h, ← hs', ← hs1', hc, hc1, d1, d2]
        rfl
      · repeat' (first | exact trivial | exact rfl | exact leF_ptr rfl | exact leF_int rfl | exact leF_bool rfl | exact leF_cl (cl_slB _ _) | exact leF_cl (cl_slR _ _) | exact leF_cl (cl_ll _ _) | exact leF_c (leC_os rfl rfl) | refine leF_int ?_ | refine leF_bool ?_ | exact leN_varA (fun _ _ => (Elem.flat _ _ _).le) | exact leN_varA (fun _ _ => leC_top) | apply And.intro)
        refine (IntWalk.i64_in _ ?_).trans ?_
        · constructor <;> omega
        · dsimp only
          omega
      · repeat' (first | exact trivial | exact rfl | exact leF_ptr rfl | exact leF_int rfl | exact leF_bool rfl | exact leF_cl (cl_slB _ _) | exact leF_cl (cl_slR _ _) | exact leF_cl (cl_ll _ _) | exact leF_c (leC_os rfl rfl) | refine leF_int ?_ | refine leF_bool ?_ | exact leN_varA (fun _ _ => (Elem.flat _ _ _).le) | exact leN_varA (fun _ _ => leC_top) | apply And.intro)
    · refine Done.mk (leF_bool ?_)
      have : i = l.length := by omega
      subst this
      rw [hv, List.drop_length]
      rfl
  · refine ⟨rfl, ?_, ?_⟩
    · repeat' (first | exact trivial | exact rfl | exact leF_ptr rfl | exact leF_int rfl | exact leF_bool rfl | exact leF_cl (cl_slB _ _) | exact leF_cl (cl_slR _ _) | exact leF_cl (cl_ll _ _) | exact leF_c (leC_os rfl rfl) | refine leF_int ?_ | refine leF_bool ?_ | exact leN_varA (fun _ _ => (Elem.flat _ _ _).le) | exact leN_varA (fun _ _ => leC_top) | apply And.intro)
    · repeat' (first | exact trivial | exact rfl | exact leF_ptr rfl | exact leF_int rfl | exact leF_bool rfl | exact leF_cl (cl_slB _ _) | exact leF_cl (cl_slR _ _) | exact leF_cl (cl_ll _ _) | exact leF_c (leC_os rfl rfl) | refine leF_int ?_ | refine leF_bool ?_ | exact leN_varA (fun _ _ => (Elem.flat _ _ _).le) | exact leN_varA (fun _ _ => leC_top) | apply And.intro)
end Go.Proofs.Ytjknkfjhcapocaa.AX
