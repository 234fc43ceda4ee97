/- Texts of one's own in one file: IhL, Tp2, IhP, Dp, Ad, Pv, Ih, R12, Ih2, Ih3, Ih4, PkM, PkQ, PkR, PkT, Ih5, Oc2, Rd2, R12d, Ra, Ja, Jb, Is, Ju, Re, R12h, Rd3, Rd4p, Rd4a, Rd4b. -/
import Derived.Test.YtjknkfjhcapocaaDoorJCompressNoticesc
/- Plain laws of contexts and of halves of addresses. -/
namespace Go.Proofs.YtjknkfjhcapocaaDoor.AX
open Go.RowKit
set_option linter.unusedVariables false
set_option linter.unusedSimpArgs false
theorem forCom_in {l : List Ctx} {a : Fin 16 → Int} {now : Int} (h : (forCom l a now).2 = true) : validT l = true ∧ vt now = true ∧ (forCom l a now).1 ∈ l ∧ mt a now (forCom l a now).1 = true := by
  unfold forCom at h ⊢
  split at h
  · rename_i hv
    rw [if_pos hv]
    refine ⟨hv.1, hv.2, ?_⟩
    rcases (fold_spec a now l (default, false) (-1) hv.1 (fun h => by cases h)).2.2 with g | g
    · rw [g] at h; cases h
    · exact g.2
  · cases h
/-! ### Halves of addresses -/
theorem beN_snoc (x c : Int) (hc : 0 ≤ c ∧ c < 256) : ∀ n, beN (x * 256 + c) (n + 1) = beN x n ++ [c] := by
  intro n
  induction n with
  | zero =>
    show [(x * 256 + c) / 256 ^ 0 % 256] = [c]
    rw [Int.pow_zero, Int.ediv_one]
    congr 1
    omega
  | succ n ih =>
    show (x * 256 + c) / 256 ^ (n + 1) % 256 :: beN (x * 256 + c) (n + 1) = (x / 256 ^ n % 256 :: beN x n) ++ [c]
    rw [ih, List.cons_append]
    congr 1
    rw [Int.pow_succ, Int.mul_comm (256 ^ n) 256, ← Int.ediv_ediv_of_nonneg (show (0 : Int) ≤ 256 by decide), show (x * 256 + c) / 256 = x by omega]
theorem beN_beVal : ∀ (n : Nat) (l : List Int), BL l → l.length = n → beN (beVal l) n = l := by
  intro n
  induction n with
  | zero => intro l _ h; rw [List.length_eq_zero_iff.1 h]; rfl
  | succ n ih =>
    intro l hl h
    have hne : l ≠ [] := fun e => by rw [e] at h; cases h
    have e := List.dropLast_concat_getLast hne
    have hb : BL l.dropLast := ⟨fun x hx => hl.m x ((List.dropLast_sublist l).subset hx)⟩
    have hc := hl.m _ (List.getLast_mem hne)
    rw [← e, beVal_snoc, beN_snoc _ _ hc, ih _ hb (by rw [List.length_dropLast]; omega)]
theorem beVal_beN : ∀ (n : Nat) (v : Int), 0 ≤ v → v < 256 ^ n → beVal (beN v n) = v := by
  intro n
  induction n with
  | zero => intro v h1 h2; simp at h2; show (0 : Int) = v; omega
  | succ n ih =>
    intro v h1 h2
    have e : v = (v / 256) * 256 + v % 256 := by omega
    have h3 : v / 256 < 256 ^ n := by
      rw [Int.pow_succ] at h2
      exact Int.ediv_lt_of_lt_mul (by decide) h2
    conv => lhs; rw [e]
    rw [beN_snoc _ _ (by omega), beVal_snoc, ih _ (by omega) h3]
    omega
def hiF (a : Fin 16 → Int) : Int := beVal ((ipL a).take 8)
def loF (a : Fin 16 → Int) : Int := beVal ((ipL a).drop 8)
def splF (a : Fin 16 → Int) : Int × Int := (hiF a, loF a)
def jn (a : Fin 16 → Int) (y : Int) : Fin 16 → Int := fun q => if q.1 < 8 then a q else byteM y 8 (q.1 - 8)
theorem ipBL {a : Fin 16 → Int} (h : byteOk a) : BL (ipL a) := ipL_BL fun i => h.v i
theorem lo_lt {a : Fin 16 → Int} (h : byteOk a) : 0 ≤ loF a ∧ loF a < 18446744073709551616 := by
  have := beVal_lt _ ((ipBL h).drop 8)
  rw [List.length_drop, ipL_len] at this
  exact this
theorem be_hi {a : Fin 16 → Int} (h : byteOk a) : beN (hiF a) 8 = (ipL a).take 8 := beN_beVal 8 _ ((ipBL h).take 8) (by rw [List.length_take, ipL_len]; rfl)
theorem be_lo {a : Fin 16 → Int} (h : byteOk a) : beN (loF a) 8 = (ipL a).drop 8 := beN_beVal 8 _ ((ipBL h).drop 8) (by rw [List.length_drop, ipL_len])
theorem beB8 (v : Int) : beB v 8 = beN v 8 := by unfold beB; rw [if_pos (by decide)]; rfl
theorem beB_hi {a : Fin 16 → Int} (h : byteOk a) : beB (hiF a) 8 ++ beB (loF a) 8 = ipL a := by
  rw [beB8, beB8, be_hi h, be_lo h, List.take_append_drop]
theorem ipL_get (a : Fin 16 → Int) {k : Nat} (hk : k < 16) : (ipL a).getD k default = vget a k := by
  unfold ipL
  rw [List.getD_eq_getElem?_getD, List.getElem?_map, List.getElem?_range hk]; rfl
theorem ip_fun {a b : Fin 16 → Int} (h : ∀ k, k < 16 → vget a k = vget b k) : a = b := by
  funext q
  have := h q.1 q.2
  rw [vget_lt _ q.2, vget_lt _ q.2] at this
  exact this
theorem ipL_inj {a b : Fin 16 → Int} (h : ipL a = ipL b) : a = b := ip_fun fun k hk => by rw [← ipL_get a hk, ← ipL_get b hk, h]
theorem jn_at (a : Fin 16 → Int) (y : Int) {k : Nat} (hk : k < 16) : vget (jn a y) k = if k < 8 then vget a k else byteM y 8 (k - 8) := by
  rw [vget_lt _ hk]
  unfold jn
  split
  · rw [vget_lt _ hk]
  · rfl
theorem byteM_r (v : Int) (m j : Nat) : 0 ≤ byteM v m j ∧ byteM v m j < 256 := by
  unfold byteM
  simp only [IntKind.wrap, IntKind.signed, IntKind.bits]
  constructor
  · exact Int.emod_nonneg _ (by decide)
  · exact Int.emod_lt_of_pos _ (by decide)
theorem jn_ok {a : Fin 16 → Int} (h : byteOk a) (y : Int) : byteOk (jn a y) := ⟨fun q => by
  unfold jn
  split
  · exact h.q q
  · exact byteM_r _ _ _⟩
theorem jn_L (a : Fin 16 → Int) (y : Int) : ipL (jn a y) = (ipL a).take 8 ++ beN y 8 := by
  rw [← beM_eq y 8 (by decide)]
  apply List.ext_getElem
  · rw [ipL_len, List.length_append, List.length_take, ipL_len]; simp [beM]
  · intro k h1 h2
    rw [ipL_len] at h1
    rw [List.getElem_append]
    split
    · rename_i h
      rw [List.length_take, ipL_len] at h
      simp only [ipL, List.getElem_map, List.getElem_range, List.getElem_take]
      rw [jn_at a y h1, if_pos (by omega)]
    · rename_i h
      rw [List.length_take, ipL_len] at h
      simp only [ipL, beM, List.getElem_map, List.getElem_range, List.length_take, List.length_map, List.length_range]
      rw [jn_at a y h1, if_neg (by omega)]; rfl
theorem jn_hi {a : Fin 16 → Int} (y : Int) : hiF (jn a y) = hiF a := by
  unfold hiF
  rw [jn_L, List.take_left' (by rw [List.length_take, ipL_len]; rfl)]
theorem jn_iff {p a : Fin 16 → Int} (hp : byteOk p) (ha : byteOk a) : jn p (loF a) = a ↔ hiF p = hiF a := by
  constructor
  · intro h
    have := congrArg hiF h
    rw [jn_hi] at this
    exact this
  · intro h
    apply ipL_inj
    rw [jn_L, be_lo ha, ← be_hi hp, h, be_hi ha, List.take_append_drop]
theorem ofF_eq (x y : Int) : ofF x y = fun q => if q.1 < 8 then byteM x 8 q.1 else byteM y 8 (q.1 - 8) := by
  funext q
  unfold ofF ofB
  split
  · rename_i h
    rw [show Nat.blt q.1 8 = true from Nat.ble_eq_true_of_le h, cond_true]
    unfold byteM
    rw [show (56 : Int) - 8 * ((q.1 % 8 : Nat) : Int) = 8 * (((8 : Nat) : Int) - 1 - (q.1 : Int)) by omega]
  · rename_i h
    rw [show Nat.blt q.1 8 = false from by cases hb : Nat.blt q.1 8 with
      | false => rfl
      | true => have := Nat.le_of_ble_eq_true hb; omega, cond_false]
    unfold byteM
    have := q.2
    rw [show (56 : Int) - 8 * ((q.1 % 8 : Nat) : Int) = 8 * (((8 : Nat) : Int) - 1 - ((q.1 - 8 : Nat) : Int)) by omega]
theorem of_hi {a : Fin 16 → Int} (h : byteOk a) (y : Int) : ofF (hiF a) y = jn a y := by
  rw [ofF_eq]
  funext q
  unfold jn
  split
  · rename_i hq
    have e := be_hi h
    rw [← beM_eq _ 8 (by decide)] at e
    have e2 := congrArg (fun l => l.getD q.1 default) e
    have e3 : ((ipL a).take 8).getD q.1 default = vget a q.1 := by rw [← ipL_get a q.2, List.getD_eq_getElem?_getD, List.getD_eq_getElem?_getD, List.getElem?_take, if_pos hq]
    have e4 : (beM (hiF a) 8).getD q.1 default = vget a q.1 := e2.trans e3
    rw [vget_lt _ q.2] at e4
    rw [← e4]
    simp [beM, hq]
  · rfl
/-- The prefix of the link-local addresses. -/
def llP : Pfx := ⟨fun q => if q.1 = 0 then 254 else if q.1 = 1 then 128 else 0, 64⟩
theorem llP_b : byteOk llP.ip := ⟨fun q => by show 0 ≤ (if q.1 = 0 then (254 : Int) else if q.1 = 1 then 128 else 0) ∧ (if q.1 = 0 then (254 : Int) else if q.1 = 1 then 128 else 0) < 256; split <;> (try split) <;> omega⟩
theorem llP_v : vpf llP = true := by decide +kernel
theorem llP_hi : hiF llP.ip = 18338657682652659712 := by decide +kernel
theorem llP_of (y : Int) : ofF 18338657682652659712 y = jn llP.ip y := by rw [← llP_hi]; exact of_hi llP_b y
end Go.Proofs.YtjknkfjhcapocaaDoor.AX

/- What the makers draw from a tape: prefixes, contexts, devices, addresses. -/
namespace Go.Proofs.YtjknkfjhcapocaaDoor.AX
open Go.RowKit
set_option linter.unusedVariables false
set_option linter.unusedSimpArgs false
structure Adr where
  mode : Int
  short : Int
  eui : Int
def eAdrC (x : Adr) (j : Nat) : CV := bif Nat.beq j 0 then .int .i64 x.mode else bif Nat.beq j 1 then .int .u16 x.short else (.int .u64 x.eui)
def eAdr : Elem Adr where
  sz := 3
  cell := eAdrC
  rd g := ⟨valI (g 0), valI (g 1), valI (g 2)⟩
  ok g := isK .i64 (g 0) && isK .u16 (g 1) && isK .u64 (g 2)
  ok_eq g h j hj := by
    simp only [Bool.and_eq_true] at h
    unfold eAdrC
    by_cases c0 : j < 1
    · have e : j = 0 := by omega
      subst e
      exact isK_eq h.1.1
    by_cases c1 : j < 2
    · have e : j = 1 := by omega
      subst e
      exact isK_eq h.1.2
    by_cases c2 : j < 3
    · have e : j = 2 := by omega
      subst e
      exact isK_eq h.2
    omega
  flat a j := by
    unfold eAdrC
    cases Nat.beq j 0 with
    | true => exact flat_int
    | false =>
    cases Nat.beq j 1 with
    | true => exact flat_int
    | false =>
    exact flat_int
theorem eAdr_rd (x : Adr) : eAdr.rd (eAdr.cell x) = x := by
  show (⟨x.mode, x.short, x.eui⟩ : Adr) = x
  rfl
theorem rd_adr (x : Adr) : eAdr.rd (fun q => eAdr.cell x (0 + q)) = x := by
  simp only [Nat.zero_add]; exact eAdr_rd x
theorem word_ok (n : Nat) (l : List Int) (q : Int) (ht : TapeOk n (rI l) q) :
    ∃ (r q' : Int), True ∧ TapeOk n (rI l) q' ∧ MethOk Tryd.prog 42 [] (tapeN n (rI l) q) ((cI .u64).enc r) (tapeN n (rI l) q') := by
  refine tape_intro (wd := 1) (Q := mkQ LT0) (by decide) tysOk (q_of LT0_ok) mixed Tryd.func42 rfl _ (by show 0 + 1 ≤ _; decide) (fun _ => nff_int) ?_
  repeat' (first | (apply And.intro <;> intro hc <;> (first | exact Bool.noConfusion hc | (simp only [decide_eq_true_eq, decide_eq_false_iff_not, Bool.not_eq_true', Bool.not_eq_false', beq_iff_eq, beq_eq_false_iff_ne, bne_iff_ne, bne_eq_false_iff_eq, Bool.true_eq_false, Bool.false_eq_true] at hc) | skip)) | (refine And.intro (by first | exact trivial | decide | omega | (dsimp only; omega) | exact fun _ _ => rfl | exact ⟨by assumption, by first | exact trivial | decide | omega | (dsimp only; omega)⟩) ?_) | (apply And.intro) | (intro s hs))
  all_goals exact ⟨(_, _), ⟨trivial, by assumption⟩, ⟨leF_int rfl, tapeN_le⟩⟩
abbrev wordE : Entry := tapeE AC.nil (fun _ => True) (fun a (r : Int) => True) (cI .u64).enc
def LT1 : CsL := (21, some boolE) :: (42, some wordE) :: (LT0 ++ LR2)
theorem LT1_ok : AllOk Tryd.prog LT1 := ⟨tapeE_ok ⟨_, Tryd.func21, rfl, by kernel_rfl⟩ fun n l q a ht hp => bool_ok n l q a.1 ht hp.1 hp.2, tapeE_ok ⟨_, Tryd.func42, rfl, by kernel_rfl⟩ fun n l q a ht _ => word_ok n l q ht, append_ok LT0_ok LR2_ok⟩
set_option maxRecDepth 10000 in
theorem prefix_ok (n : Nat) (l : List Int) (q : Int) (ht : TapeOk n (rI l) q) :
    ∃ (r : Pfx) (q' : Int), (vpf r = true ∧ byteOk r.ip) ∧ TapeOk n (rI l) q' ∧ MethOk Tryd.prog 22 [] (tapeN n (rI l) q) ((cE ePfx).enc r) (tapeN n (rI l) q') := by
  refine tape_intro (wd := 1) (Q := mkQ LT1) (by decide) tysOk (q_of LT1_ok) mixed Tryd.func22 rfl _ (by show 0 + 1 ≤ _; decide) (nff_elem ePfx) ?_
  repeat' (first | (apply And.intro <;> intro hc <;> (first | exact Bool.noConfusion hc | (simp only [decide_eq_true_eq, decide_eq_false_iff_not, Bool.not_eq_true', Bool.not_eq_false', beq_iff_eq, beq_eq_false_iff_ne, bne_iff_ne, bne_eq_false_iff_eq, Bool.true_eq_false, Bool.false_eq_true] at hc) | skip)) | (refine And.intro (by first | exact trivial | decide | omega | (dsimp only; omega) | exact fun _ _ => rfl | exact ⟨by assumption, by first | exact trivial | decide | omega | (dsimp only; omega)⟩) ?_) | (apply And.intro) | (intro s hs))
  · rename_i so hso sn hsn
    show byteOk ((eA .u8 16).rd ((eA .u8 16).cell so))
    rw [eA_rd, hso]; exact of_byteOk _ _
  · rename_i so hso sn hsn sq hsq
    have hb : byteOk so := by rw [hso]; exact of_byteOk _ _
    obtain ⟨b, e⟩ : ∃ b, s = maskP so b := ⟨_, hs.trans (congrArg (maskP · _) (eA_rd (k := .u8) so))⟩
    exact ⟨(s, _), ⟨⟨by rw [e]; exact mask_vpf hb b, by rw [e]; exact mask_byteOk hb b⟩, by assumption⟩, ⟨leF_e (leE_all (by repeat' (first | exact trivial | exact rfl | exact leC_int rfl | exact leC_bool rfl | refine leE_all ?_ | exact leC_bool (by assumption) | apply And.intro))), tapeN_le⟩⟩
set_option maxRecDepth 10000 in
theorem device_ok (n : Nat) (l : List Int) (q : Int) (ht : TapeOk n (rI l) q) :
    ∃ (r : Adr) (q' : Int), True ∧ TapeOk n (rI l) q' ∧ MethOk Tryd.prog 20 [] (tapeN n (rI l) q) ((cE eAdr).enc r) (tapeN n (rI l) q') := by
  refine tape_intro (wd := 1) (Q := mkQ LT1) (by decide) tysOk (q_of LT1_ok) mixed Tryd.func20 rfl _ (by show 0 + 1 ≤ _; decide) (nff_elem eAdr) ?_
  repeat' (first | (apply And.intro <;> intro hc <;> (first | exact Bool.noConfusion hc | (simp only [decide_eq_true_eq, decide_eq_false_iff_not, Bool.not_eq_true', Bool.not_eq_false', beq_iff_eq, beq_eq_false_iff_ne, bne_iff_ne, bne_eq_false_iff_eq, Bool.true_eq_false, Bool.false_eq_true] at hc) | skip)) | (refine And.intro (by first | exact trivial | decide | omega | (dsimp only; omega) | exact fun _ _ => rfl | exact ⟨by assumption, by first | exact trivial | decide | omega | (dsimp only; omega)⟩) ?_) | (apply And.intro) | (intro s hs))
  · exact ⟨(⟨3, 0, _⟩, _), ⟨trivial, by assumption⟩, ⟨leF_e (leE_all ⟨⟨⟨trivial, leC_int rfl⟩, leC_int rfl⟩, leC_int rfl⟩), tapeN_le⟩⟩
  · exact ⟨(⟨2, _, 0⟩, _), ⟨trivial, by assumption⟩, ⟨leF_e (leE_all ⟨⟨⟨trivial, leC_int rfl⟩, leC_int rfl⟩, leC_int rfl⟩), tapeN_le⟩⟩
def adrValid (a : Adr) : Bool := if a.mode = 0 then (a.short == 0) && (a.eui == 0) else if a.mode = 2 then (a.eui == 0) else if a.mode = 3 then (a.short == 0) else false
theorem adrValid_ok (a : Adr) : PureOk Tryd.prog 87 [(cE eAdr).enc a] (cB.enc (adrValid a)) := by
  refine pure_intro (wd := 1) (Q := mkQ LE0) (by decide) tysOk (q_of LE0_ok) mixed Tryd.func87 rfl _ (by show 1 ≤ _; decide) _ ?_
  repeat' (first | (apply And.intro <;> intro hc <;> (first | exact Bool.noConfusion hc | (simp only [decide_eq_true_eq, decide_eq_false_iff_not, Bool.not_eq_true', Bool.not_eq_false', beq_iff_eq, beq_eq_false_iff_ne, bne_iff_ne, bne_eq_false_iff_eq, Bool.true_eq_false, Bool.false_eq_true] at hc) | skip)) | (refine And.intro (by first | exact trivial | decide | omega | (dsimp only; omega) | exact fun _ _ => rfl) ?_) | (apply And.intro) | (intro s hs))
  all_goals (refine Done.mk (leF_bool ?_); simp [adrValid, *])
def adrSome (a : Adr) : Bool := adrValid a && (a.mode != 0)
def LA0 : CsL := (87, some (pureE (AC.cons (cE eAdr) AC.nil) (fun _ => True) (fun a => adrValid a.1) cB.enc)) :: []
theorem LA0_ok : AllOk Tryd.prog LA0 := ⟨pureE_ok ⟨_, Tryd.func87, rfl, by kernel_rfl⟩ fun a _ => adrValid_ok a.1, trivial⟩
theorem adrSome_ok (a : Adr) : PureOk Tryd.prog 67 [(cE eAdr).enc a] (cB.enc (adrSome a)) := by
  refine pure_intro (wd := 1) (Q := mkQ LA0) (by decide) tysOk (q_of LA0_ok) mixed Tryd.func67 rfl _ (by show 1 ≤ _; decide) _ ?_
  repeat' (first | (apply And.intro <;> intro hc <;> (first | exact Bool.noConfusion hc | (simp only [decide_eq_true_eq, decide_eq_false_iff_not, Bool.not_eq_true', Bool.not_eq_false', beq_iff_eq, beq_eq_false_iff_ne, bne_iff_ne, bne_eq_false_iff_eq, Bool.true_eq_false, Bool.false_eq_true] at hc) | skip)) | (refine And.intro (by first | exact trivial | decide | omega | (dsimp only; omega) | exact fun _ _ => rfl) ?_) | (apply And.intro) | (intro s hs))
  all_goals (
    have e1 : s = adrValid a := hs.trans (congrArg adrValid (rd_adr a))
    refine Done.mk (leF_bool ?_)
    simp [adrSome, ← e1, hc])
def iidF (a : Adr) : Int × Bool := if adrSome a = true then (if a.mode = 3 then (bits .xor .u64 a.eui 144115188075855872, true) else (IntKind.u64.wrap (1099478073344 + IntKind.u64.wrap a.short), true)) else (0, false)
def encIB (r : Int × Bool) : FV := .tup [.c (.int .u64 r.1), .c (.bool r.2)]
def LA1 : CsL := (67, some (pureE (AC.cons (cE eAdr) AC.nil) (fun _ => True) (fun a => adrSome a.1) cB.enc)) :: LA0
theorem LA1_ok : AllOk Tryd.prog LA1 := ⟨pureE_ok ⟨_, Tryd.func67, rfl, by kernel_rfl⟩ fun a _ => adrSome_ok a.1, LA0_ok⟩
theorem iid_ok (a : Adr) : PureOk Tryd.prog 41 [(cE eAdr).enc a] (encIB (iidF a)) := by
  refine pure_intro (wd := 1) (Q := mkQ LA1) (by decide) tysOk (q_of LA1_ok) mixed Tryd.func41 rfl _ (by show 1 ≤ _; decide) _ ?_
  repeat' (first | (apply And.intro <;> intro hc <;> (first | exact Bool.noConfusion hc | (simp only [decide_eq_true_eq, decide_eq_false_iff_not, Bool.not_eq_true', Bool.not_eq_false', beq_iff_eq, beq_eq_false_iff_ne, bne_iff_ne, bne_eq_false_iff_eq, Bool.true_eq_false, Bool.false_eq_true] at hc) | skip)) | (refine And.intro (by first | exact trivial | decide | omega | (dsimp only; omega) | exact fun _ _ => rfl) ?_) | (apply And.intro) | (intro s hs))
  all_goals (
    have e1 : s = adrSome a := hs.trans (congrArg adrSome (rd_adr a))
    clear hs
    subst e1
    refine Done.mk (leF_tup ⟨leC_int ?_, leC_bool ?_, trivial⟩) <;> simp [iidF, *])
def setV (a : Fin 16 → Int) (i : Nat) (v : Int) : Fin 16 → Int := fun q => if q.1 = i then v else a q
theorem setV_ok {a : Fin 16 → Int} {i : Nat} {v : Int} (ha : byteOk a) (hv : 0 ≤ v ∧ v < 256) : byteOk (setV a i v) := ⟨fun q => by
  unfold setV
  split
  · exact hv
  · exact ha.q q⟩
theorem setV_at {a : Fin 16 → Int} {i off j : Nat} {v : Int} (h : off = i) (hj : j < 16) : (bif Nat.ble off j && Nat.blt j (off + 1) then v else vget a j) = vget (setV a i v) j := by
  rw [vget_lt _ hj, vget_lt _ hj]
  unfold setV
  by_cases e : j = i
  · rw [rng_in (by omega), cond_true, if_pos e]
  · rw [rng_out (by omega), cond_false, if_neg e]
theorem u8r (z : Int) : 0 ≤ IntKind.u8.wrap z ∧ IntKind.u8.wrap z < 256 := by
  simp only [IntKind.wrap, IntKind.signed, IntKind.bits]
  constructor
  · exact Int.emod_nonneg _ (by decide)
  · exact Int.emod_lt_of_pos _ (by decide)
structure GrpS (n : Nat) (l : List Int) where
  i : Nat
  a : Fin 16 → Int
  q : Int
  hi : i ≤ 15
  ha : byteOk a
  ht : TapeOk n (rI l) q
set_option maxRecDepth 10000 in
theorem group_ok (n : Nat) (l : List Int) (q : Int) (ht : TapeOk n (rI l) q) :
    ∃ (r : Fin 16 → Int) (q' : Int), byteOk r ∧ TapeOk n (rI l) q' ∧ MethOk Tryd.prog 43 [] (tapeN n (rI l) q) ((cE (eA .u8 16)).enc r) (tapeN n (rI l) q') := by
  refine tape_intro (wd := 1) (Q := mkQ LT1) (by decide) tysOk (q_of LT1_ok) mixed Tryd.func43 rfl _ (by show 0 + 1 ≤ _; decide) (nff_elem (eA .u8 16)) ?_
  repeat' (first | (apply And.intro <;> intro hc <;> (first | exact Bool.noConfusion hc | (simp only [decide_eq_true_eq, decide_eq_false_iff_not, Bool.not_eq_true', Bool.not_eq_false', beq_iff_eq, beq_eq_false_iff_ne, bne_iff_ne, bne_eq_false_iff_eq, Bool.true_eq_false, Bool.false_eq_true] at hc) | skip)) | (refine And.intro (by first | exact trivial | decide | omega | (dsimp only; omega) | exact fun _ _ => rfl | exact ⟨by assumption, by first | exact trivial | decide | omega | (dsimp only; omega)⟩) ?_) | (apply And.intro) | (intro s hs))
  · rename_i s1 hs1
    refine loop_intro (mono_of LT1_ok) (fun s : GrpS n l => (⟨[(0, one (.ptr 0 0 0 false)), (2, one (.ptr 1 0 0 false)), (3, one (.ptr 3 0 0 false)), (4, one (.int .i64 (s.i : Int)))],
      [(0, some (tapeN n (rI l) s.q)), (1, some ⟨37, 1, 16, true, fun _ _ => .top⟩), (3, some ⟨37, 1, 16, true, fun _ => (eA .u8 16).cell s.a⟩)], 50⟩ : Hd)) (fun s => s.i) (fun _ => rfl) ?_ ⟨15, fun q => if q.1 = 0 then 255 else if q.1 = 1 then IntKind.u8.wrap s1 else 0, _, by omega, ⟨fun q => by have := u8r s1; split <;> (try split) <;> omega⟩, hs⟩ [] ?_
    · rintro ⟨i, a, q1, hi, ha, ht1⟩
      dsimp only at hi ⊢
      repeat' (first | (apply And.intro <;> intro hc <;> (first | exact Bool.noConfusion hc | (simp only [decide_eq_true_eq, decide_eq_false_iff_not, Bool.not_eq_true', Bool.not_eq_false', beq_iff_eq, beq_eq_false_iff_ne, bne_iff_ne, bne_eq_false_iff_eq, Bool.true_eq_false, Bool.false_eq_true] at hc) | skip)) | (refine And.intro (by first | exact trivial | decide | omega | (dsimp only; omega) | exact fun _ _ => rfl | exact ⟨by assumption, by first | exact trivial | decide | omega | (dsimp only; omega)⟩) ?_) | (apply And.intro) | (intro s hs))
      · rename_i s1 hs1 sq1 hsq1 s2 hs2
        have hs1' : 0 ≤ s1 ∧ s1 < 15 := hs1
        have hw : IntKind.i64.wrap (15 - s1) = 15 - s1 := IntWalk.i64_in _ (by omega)
        have hc' : IntKind.i64.wrap (15 - s1) < (i : Int) := by assumption
        have hi2 : 1 ≤ i := by omega
        refine ⟨⟨i - 1, setV a i (IntKind.u8.wrap s2), _, by omega, setV_ok ha (u8r _), hs⟩, [], by dsimp only; omega, rfl, ?_, ?_⟩
        · repeat' (first | exact trivial | exact rfl | exact leF_ptr rfl | exact leF_int rfl | exact leF_bool rfl | exact leF_cl (cl_slB _ _) | exact leF_cl (cl_slR _ _) | exact leF_cl (cl_ll _ _) | exact leF_c (leC_os rfl rfl) | refine leF_int ?_ | refine leF_bool ?_ | exact leN_varA (fun _ _ => (Elem.flat _ _ _).le) | exact leN_varA (fun _ _ => leC_top) | apply And.intro)
          refine (IntWalk.i64_in _ ?_).trans ?_
          · constructor <;> omega
          · dsimp only
            omega
        · repeat' (first | exact trivial | exact rfl | exact leF_ptr rfl | exact leF_int rfl | exact leF_bool rfl | exact leF_cl (cl_slB _ _) | exact leF_cl (cl_slR _ _) | exact leF_cl (cl_ll _ _) | exact leF_c (leC_os rfl rfl) | refine leF_int ?_ | refine leF_bool ?_ | exact leN_varA (fun _ _ => (Elem.flat _ _ _).le) | exact leN_varA (fun _ _ => leC_top) | apply And.intro)
          · exact tapeN_le
          · refine leN_varA fun j hj => ?_
            exact leC_int (setV_at (j := j) (by omega) hj)
      · exact ⟨(a, _), ⟨ha, by assumption⟩, ⟨leF_e (leE_all (by repeat' (first | exact trivial | exact rfl | exact leC_int rfl | exact leC_bool rfl | refine leE_all ?_ | exact leC_bool (by assumption) | apply And.intro))), tapeN_le⟩⟩
    · refine ⟨rfl, ?_, ?_⟩
      · repeat' (first | exact trivial | exact rfl | exact leF_ptr rfl | exact leF_int rfl | exact leF_bool rfl | exact leF_cl (cl_slB _ _) | exact leF_cl (cl_slR _ _) | exact leF_cl (cl_ll _ _) | exact leF_c (leC_os rfl rfl) | refine leF_int ?_ | refine leF_bool ?_ | exact leN_varA (fun _ _ => (Elem.flat _ _ _).le) | exact leN_varA (fun _ _ => leC_top) | apply And.intro)
      · repeat' (first | exact trivial | exact rfl | exact leF_ptr rfl | exact leF_int rfl | exact leF_bool rfl | exact leF_cl (cl_slB _ _) | exact leF_cl (cl_slR _ _) | exact leF_cl (cl_ll _ _) | exact leF_c (leC_os rfl rfl) | refine leF_int ?_ | refine leF_bool ?_ | exact leN_varA (fun _ _ => (Elem.flat _ _ _).le) | exact leN_varA (fun _ _ => leC_top) | apply And.intro)
        · exact tapeN_le
        · refine leN_var ?_
          repeat' (first | exact trivial | exact leC_int rfl | apply And.intro)
  · skip
    refine loop_intro (mono_of LT1_ok) (fun s : GrpS n l => (⟨[(0, one (.ptr 0 0 0 false)), (2, one (.ptr 1 0 0 false)), (3, one (.ptr 3 0 0 false)), (4, one (.int .i64 (s.i : Int)))],
      [(0, some (tapeN n (rI l) s.q)), (1, some ⟨37, 1, 16, true, fun _ _ => .top⟩), (3, some ⟨37, 1, 16, true, fun _ => (eA .u8 16).cell s.a⟩)], 50⟩ : Hd)) (fun s => s.i) (fun _ => rfl) ?_ ⟨15, fun q => if q.1 = 0 then 255 else if q.1 = 1 then 2 else 0, _, by omega, ⟨fun q => by split <;> (try split) <;> omega⟩, hs⟩ [] ?_
    · rintro ⟨i, a, q1, hi, ha, ht1⟩
      dsimp only at hi ⊢
      repeat' (first | (apply And.intro <;> intro hc <;> (first | exact Bool.noConfusion hc | (simp only [decide_eq_true_eq, decide_eq_false_iff_not, Bool.not_eq_true', Bool.not_eq_false', beq_iff_eq, beq_eq_false_iff_ne, bne_iff_ne, bne_eq_false_iff_eq, Bool.true_eq_false, Bool.false_eq_true] at hc) | skip)) | (refine And.intro (by first | exact trivial | decide | omega | (dsimp only; omega) | exact fun _ _ => rfl | exact ⟨by assumption, by first | exact trivial | decide | omega | (dsimp only; omega)⟩) ?_) | (apply And.intro) | (intro s hs))
      · rename_i s1 hs1 sq1 hsq1 s2 hs2
        have hs1' : 0 ≤ s1 ∧ s1 < 15 := hs1
        have hw : IntKind.i64.wrap (15 - s1) = 15 - s1 := IntWalk.i64_in _ (by omega)
        have hc' : IntKind.i64.wrap (15 - s1) < (i : Int) := by assumption
        have hi2 : 1 ≤ i := by omega
        refine ⟨⟨i - 1, setV a i (IntKind.u8.wrap s2), _, by omega, setV_ok ha (u8r _), hs⟩, [], by dsimp only; omega, rfl, ?_, ?_⟩
        · repeat' (first | exact trivial | exact rfl | exact leF_ptr rfl | exact leF_int rfl | exact leF_bool rfl | exact leF_cl (cl_slB _ _) | exact leF_cl (cl_slR _ _) | exact leF_cl (cl_ll _ _) | exact leF_c (leC_os rfl rfl) | refine leF_int ?_ | refine leF_bool ?_ | exact leN_varA (fun _ _ => (Elem.flat _ _ _).le) | exact leN_varA (fun _ _ => leC_top) | apply And.intro)
          refine (IntWalk.i64_in _ ?_).trans ?_
          · constructor <;> omega
          · dsimp only
            omega
        · repeat' (first | exact trivial | exact rfl | exact leF_ptr rfl | exact leF_int rfl | exact leF_bool rfl | exact leF_cl (cl_slB _ _) | exact leF_cl (cl_slR _ _) | exact leF_cl (cl_ll _ _) | exact leF_c (leC_os rfl rfl) | refine leF_int ?_ | refine leF_bool ?_ | exact leN_varA (fun _ _ => (Elem.flat _ _ _).le) | exact leN_varA (fun _ _ => leC_top) | apply And.intro)
          · exact tapeN_le
          · refine leN_varA fun j hj => ?_
            exact leC_int (setV_at (j := j) (by omega) hj)
      · exact ⟨(a, _), ⟨ha, by assumption⟩, ⟨leF_e (leE_all (by repeat' (first | exact trivial | exact rfl | exact leC_int rfl | exact leC_bool rfl | refine leE_all ?_ | exact leC_bool (by assumption) | apply And.intro))), tapeN_le⟩⟩
    · refine ⟨rfl, ?_, ?_⟩
      · repeat' (first | exact trivial | exact rfl | exact leF_ptr rfl | exact leF_int rfl | exact leF_bool rfl | exact leF_cl (cl_slB _ _) | exact leF_cl (cl_slR _ _) | exact leF_cl (cl_ll _ _) | exact leF_c (leC_os rfl rfl) | refine leF_int ?_ | refine leF_bool ?_ | exact leN_varA (fun _ _ => (Elem.flat _ _ _).le) | exact leN_varA (fun _ _ => leC_top) | apply And.intro)
      · repeat' (first | exact trivial | exact rfl | exact leF_ptr rfl | exact leF_int rfl | exact leF_bool rfl | exact leF_cl (cl_slB _ _) | exact leF_cl (cl_slR _ _) | exact leF_cl (cl_ll _ _) | exact leF_c (leC_os rfl rfl) | refine leF_int ?_ | refine leF_bool ?_ | exact leN_varA (fun _ _ => (Elem.flat _ _ _).le) | exact leN_varA (fun _ _ => leC_top) | apply And.intro)
        · exact tapeN_le
        · refine leN_var ?_
          repeat' (first | exact trivial | exact leC_int rfl | apply And.intro)
abbrev pfxE : Entry := tapeE AC.nil (fun _ => True) (fun a (r : Pfx) => vpf r = true ∧ byteOk r.ip) (cE ePfx).enc
abbrev devE : Entry := tapeE AC.nil (fun _ => True) (fun a (r : Adr) => True) (cE eAdr).enc
abbrev grpE : Entry := tapeE AC.nil (fun _ => True) (fun a (r : Fin 16 → Int) => byteOk r) (cE (eA .u8 16)).enc
def LT2a : CsL := (22, some pfxE) :: (20, some devE) :: (43, some grpE) :: (41, some (pureE (AC.cons (cE eAdr) AC.nil) (fun _ => True) (fun a => iidF a.1) encIB)) :: []
theorem LT2a_ok : AllOk Tryd.prog LT2a := ⟨tapeE_ok ⟨_, Tryd.func22, rfl, by kernel_rfl⟩ fun n l q a ht hp => prefix_ok n l q ht, tapeE_ok ⟨_, Tryd.func20, rfl, by kernel_rfl⟩ fun n l q a ht hp => device_ok n l q ht, tapeE_ok ⟨_, Tryd.func43, rfl, by kernel_rfl⟩ fun n l q a ht hp => group_ok n l q ht, pureE_ok ⟨_, Tryd.func41, rfl, by kernel_rfl⟩ fun a _ => iid_ok a.1, trivial⟩
def LT2 : CsL := LT2a ++ LT1
theorem LT2_ok : AllOk Tryd.prog LT2 := append_ok LT2a_ok LT1_ok
end Go.Proofs.YtjknkfjhcapocaaDoor.AX

/- Plain functions of compressed headers, and the laws of their lengths. -/
namespace Go.Proofs.YtjknkfjhcapocaaDoor.AX
open Go.RowKit
set_option linter.unusedVariables false
set_option linter.unusedSimpArgs false
structure Fm where
  ctx : Bool
  id : Int
  mode : Int
instance : Inhabited Fm := ⟨⟨false, 0, 0⟩⟩
def eFmC (x : Fm) (j : Nat) : CV := bif Nat.beq j 0 then .bool x.ctx else bif Nat.beq j 1 then .int .i64 x.id else (.int .i64 x.mode)
def eFm : Elem Fm where
  sz := 3
  cell := eFmC
  rd g := ⟨valB (g 0), valI (g 1), valI (g 2)⟩
  ok g := isB (g 0) && isK .i64 (g 1) && isK .i64 (g 2)
  ok_eq g h j hj := by
    simp only [Bool.and_eq_true] at h
    unfold eFmC
    by_cases c0 : j < 1
    · have e : j = 0 := by omega
      subst e
      exact isB_eq h.1.1
    by_cases c1 : j < 2
    · have e : j = 1 := by omega
      subst e
      exact isK_eq h.1.2
    by_cases c2 : j < 3
    · have e : j = 2 := by omega
      subst e
      exact isK_eq h.2
    omega
  flat a j := by
    unfold eFmC
    cases Nat.beq j 0 with
    | true => exact flat_bool
    | false =>
    cases Nat.beq j 1 with
    | true => exact flat_int
    | false =>
    exact flat_int
abbrev Form := Fm × List Int
def zeroA : Fin 16 → Int := fun _ => 0
def iidsF (iid : Int) (k : Adr) : Int × List Int :=
  if iidF k = (iid, true) then (3, []) else if bits .andNot .u64 iid 65535 = 1099478073344 then (2, beB iid 2) else (1, beB iid 8)
def coverF (a : Fin 16 → Int) (l : List Ctx) (now : Int) : Bool := (forCom l a now).2 && decide ((forCom l a now).1.bits ≤ 64) && decide (hiF (forCom l a now).1.ip = hiF a)
def uniF (a : Fin 16 → Int) (k : Adr) (source : Bool) (l : List Ctx) (now : Int) : Form :=
  if source = true ∧ ipEq a zeroA = true then (⟨true, 0, 0⟩, [])
  else if hiF a = 18338657682652659712 then (⟨false, 0, (iidsF (loF a) k).1⟩, (iidsF (loF a) k).2)
  else if coverF a l now = true then (⟨true, (forCom l a now).1.id, (iidsF (loF a) k).1⟩, (iidsF (loF a) k).2)
  else (⟨false, 0, 0⟩, ipL a)
def zr (a : Fin 16 → Int) (i j : Nat) : Bool := (((ipL a).drop i).take (j - i)).all fun x => x == 0
def grpF (a : Fin 16 → Int) : Form :=
  if vget a 1 = 2 ∧ zr a 2 15 = true then (⟨false, 0, 3⟩, [vget a 15])
  else if zr a 2 13 = true then (⟨false, 0, 2⟩, [vget a 1, vget a 13, vget a 14, vget a 15])
  else if zr a 2 11 = true then (⟨false, 0, 1⟩, [vget a 1, vget a 11, vget a 12, vget a 13, vget a 14, vget a 15])
  else (⟨false, 0, 0⟩, ipL a)
/-- F and the bytes of class and flow. -/
def flowF (p : Pkt) : Int × List Int :=
  if p.1.cls ≠ 0 ∧ p.1.flow ≠ 0 then (0, [p.1.cls] ++ beB p.1.flow 3)
  else if p.1.flow ≠ 0 then (1, [] ++ beB p.1.flow 3)
  else if p.1.cls ≠ 0 then (2, [p.1.cls])
  else (3, [])
def hopF (h : Int) : Int := if h = 1 then 1 else if h = 64 then 2 else if h = 255 then 3 else 0
def bitV (b : Bool) (v : Int) : Int := if b = true then v else 0
def inlF (p : Pkt) : List Int := (flowF p).2 ++ (if p.1.nxt = 17 then [] else [p.1.nxt]) ++ (if hopF p.1.hops = 0 then [p.1.hops] else [])
def firstF (p : Pkt) : Int := 96 + 8 * (flowF p).1 + bitV (decide (p.1.nxt = 17)) 4 + hopF p.1.hops
def checkF (f t : Adr) (l : List Ctx) (now : Int) : Int := if adrValid f = true ∧ adrValid t = true ∧ validT l = true then (if vt now = true then 0 else 2) else 1
def dstF (p : Pkt) (t : Adr) (l : List Ctx) (now : Int) : Form := if mcast p.1.dst = true then grpF p.1.dst else uniF p.1.dst t false l now
def secF (s d : Fm) (m : Bool) : Int := bitV (decide (16 * s.id + d.id ≠ 0)) 128 + bitV s.ctx 64 + 16 * s.mode + bitV m 8 + bitV d.ctx 4 + d.mode
def joinH (p : Pkt) (s d : Form) : List Int := [firstF p, secF s.1 d.1 (mcast p.1.dst)] ++ (if 16 * s.1.id + d.1.id ≠ 0 then [16 * s.1.id + d.1.id] else []) ++ inlF p ++ s.2 ++ d.2
def encI (p : Pkt) (f t : Adr) (l : List Ctx) (now : Int) : List Int × Int :=
  if validP p = false then ([], 1)
  else if checkF f t l now ≠ 0 then ([], checkF f t l now)
  else (joinH p (uniF p.1.src f true l now) (dstF p t l now), 0)
/-! ### Lengths -/
theorem beB_n (v : Int) (n : Nat) (h : n ≤ 8) : (beB v n).length = n := by
  unfold beB
  rw [if_pos (by omega), beN_len]
  omega
theorem iids_len (y : Int) (k : Adr) : (iidsF y k).2.length ≤ 8 := by
  unfold iidsF
  split
  · simp
  · split
    · exact Nat.le_trans (Nat.le_of_eq (beB_n y 2 (by decide))) (by decide)
    · exact Nat.le_of_eq (beB_n y 8 (by decide))
theorem uni_len (a : Fin 16 → Int) (k : Adr) (s : Bool) (l : List Ctx) (now : Int) : (uniF a k s l now).2.length ≤ 16 := by
  have := iids_len (loF a) k
  unfold uniF
  split
  · simp
  · split
    · dsimp only; omega
    · split
      · dsimp only; omega
      · dsimp only; rw [ipL_len]; exact Nat.le_refl _
theorem grp_len (a : Fin 16 → Int) : (grpF a).2.length ≤ 16 ∧ (grpF a).1.id = 0 := by
  unfold grpF
  split
  · exact ⟨by simp, rfl⟩
  · split
    · exact ⟨by simp, rfl⟩
    · split
      · exact ⟨by simp, rfl⟩
      · exact ⟨by dsimp only; rw [ipL_len]; exact Nat.le_refl _, rfl⟩
theorem inl_len (p : Pkt) : (inlF p).length ≤ 6 := by
  have h3 := beB_n p.1.flow 3 (by decide)
  have h3' : (beB p.1.flow 3).length = 3 := h3
  have h1 : (flowF p).2.length ≤ 4 := by
    unfold flowF
    split
    · simp [h3']
    · split
      · simp [h3']
      · split <;> simp
  unfold inlF
  rw [List.length_append, List.length_append]
  have h4 : (if p.1.nxt = 17 then [] else [p.1.nxt]).length ≤ 1 := by split <;> simp
  have h5 : (if hopF p.1.hops = 0 then [p.1.hops] else []).length ≤ 1 := by split <;> simp
  omega
theorem join_len (p : Pkt) (s d : Form) : (joinH p s d).length = 2 + (if 16 * s.1.id + d.1.id ≠ 0 then 1 else 0) + (inlF p).length + s.2.length + d.2.length := by
  unfold joinH
  simp only [List.length_append, List.length_cons, List.length_nil]
  split <;> simp
theorem forCom_id {l : List Ctx} {a : Fin 16 → Int} {now : Int} (h : (forCom l a now).2 = true) : 0 ≤ (forCom l a now).1.id ∧ (forCom l a now).1.id < 16 := by
  obtain ⟨h1, _, h2, _⟩ := forCom_in h
  have := valid_lt h1 h2
  omega
theorem uni_id (a : Fin 16 → Int) (k : Adr) (s : Bool) (l : List Ctx) (now : Int) : 0 ≤ (uniF a k s l now).1.id ∧ (uniF a k s l now).1.id < 16 := by
  unfold uniF
  split
  · exact ⟨(by decide : (0 : Int) ≤ 0), (by decide : (0 : Int) < 16)⟩
  · split
    · exact ⟨(by decide : (0 : Int) ≤ 0), (by decide : (0 : Int) < 16)⟩
    · split
      · rename_i h
        unfold coverF at h
        simp only [Bool.and_eq_true] at h
        exact forCom_id h.1.1
      · exact ⟨(by decide : (0 : Int) ≤ 0), (by decide : (0 : Int) < 16)⟩
theorem dst_len (p : Pkt) (k : Adr) (l : List Ctx) (now : Int) : (dstF p k l now).2.length ≤ 16 := by
  unfold dstF
  split
  · exact (grp_len _).1
  · exact uni_len _ _ _ _ _
theorem encI_ok {p : Pkt} {f t : Adr} {l : List Ctx} {now : Int} (hp : validP p = true) (hf : adrValid f = true) (ht : adrValid t = true) (hl : validT l = true) (hn : vt now = true) : encI p f t l now = (joinH p (uniF p.1.src f true l now) (dstF p t l now), 0) := by
  have hc : checkF f t l now = 0 := by unfold checkF; rw [if_pos ⟨hf, ht, hl⟩, if_pos hn]
  unfold encI
  rw [if_neg (by rw [hp]; decide), if_neg (by rw [hc]; decide)]
/-! ### What costs no bytes -/
theorem iids_own {k : Adr} {y : Int} (h : iidF k = (y, true)) : iidsF y k = (3, []) := if_pos h
/-- A packet of few fields. -/
def hP (hops : Int) (src dst : Fin 16 → Int) : Pkt := (⟨0, 0, 17, hops, src, dst, 0, 0⟩, [])
theorem hP_v {hops : Int} {src dst : Fin 16 → Int} (h : vget src 0 ≠ 255) : validP (hP hops src dst) = true := by
  unfold validP mcast
  rw [show (hP hops src dst).1.src = src from rfl, decide_eq_false h]
  rfl
end Go.Proofs.YtjknkfjhcapocaaDoor.AX

/- Plain functions of the reading of compressed headers. -/
namespace Go.Proofs.YtjknkfjhcapocaaDoor.AX
open Go.RowKit
set_option linter.unusedVariables false
set_option linter.unusedSimpArgs false
/-- What a step of reading gives: a value, an error's number, the place behind it. -/
abbrev RD (α : Type) := (α × Int) × Int
def thenD {α β : Type} (x : RD α) (z : β) (f : α → Int → RD β) : RD β := if x.1.2 = 0 then f x.1.1 x.2 else ((z, x.1.2), x.2)
theorem thenD_ok {α β : Type} {v : α} {q : Int} {z : β} {f : α → Int → RD β} : thenD ((v, 0), q) z f = f v q := if_pos rfl
def numF (b : List Int) (q n : Int) : RD Int := if (uintF b q n).2 = true then (((uintF b q n).1, 0), q + n) else ((0, 4), q)
def ipAt (b : List Int) (q : Int) : Fin 16 → Int := fun i => b.getD (q.toNat + i.1) default
def ipRF (b : List Int) (q : Int) : RD (Fin 16 → Int) := if (b.length : Int) - q < 16 then ((zeroA, 4), q) else ((ipAt b q, 0), q + 16)
def bitAt (y k : Int) : Bool := decide (y / k % 2 = 1)
def badY (y : Int) : Bool := bitAt y 4 && (bitAt y 8 || decide (y % 4 = 0))
abbrev I3 := Int × Int × Int
def z3 : I3 := (0, 0, 0)
def startF (b : List Int) (q : Int) : RD I3 :=
  thenD (numF b q 1) z3 fun x q => if x < 96 ∨ 127 < x then ((z3, 5), q) else
    thenD (numF b q 1) z3 fun y q => if badY y = true then ((z3, 5), q) else if 128 ≤ y then thenD (numF b q 1) z3 fun i q => (((x, y, i), 0), q) else (((x, y, 0), 0), q)
def zeroH : Hdr := ⟨0, 0, 0, 0, zeroA, zeroA, 0, 0⟩
def hopV (h : Int) : Int := if h = 1 then 1 else if h = 2 then 64 else if h = 3 then 255 else 0
def fieldsD (b : List Int) (x q : Int) : RD Hdr :=
  thenD (if x / 8 % 4 = 0 ∨ x / 8 % 4 = 2 then numF b q 1 else ((0, 0), q)) zeroH fun c q =>
  thenD (if x / 8 % 4 = 0 ∨ x / 8 % 4 = 1 then numF b q 3 else ((0, 0), q)) zeroH fun fl q => if 1048575 < fl then ((zeroH, 5), q) else
  thenD (if x / 4 % 2 = 0 then numF b q 1 else ((17, 0), q)) zeroH fun nx q => if x / 4 % 2 = 0 ∧ nx = 17 then ((zeroH, 5), q) else
  thenD (if x % 4 = 0 then numF b q 1 else ((hopV (x % 4), 0), q)) zeroH fun hp q => ((⟨c, fl, nx, hp, zeroA, zeroA, 0, 0⟩, 0), q)
def prefD (ctx : Bool) (C : Ctx × Bool) : Pfx := if ctx = true then pfxOf C.1 else llP
def uniV (b : List Int) (mode : Int) (k : Adr) (P : Pfx) (q : Int) : RD (Fin 16 → Int) :=
  if mode = 0 then ipRF b q else if mode = 1 then thenD (numF b q 8) zeroA fun v q => ((jn P.ip v, 0), q)
  else if mode = 2 then thenD (numF b q 2) zeroA fun v q => ((jn P.ip (v + 1099478073344), 0), q)
  else ((jn P.ip (iidF k).1, 0), q)
def uniD (b : List Int) (ctx : Bool) (mode : Int) (k : Adr) (C : Ctx × Bool) (q : Int) : RD (Fin 16 → Int) :=
  if mode = 3 ∧ (iidF k).2 = false then ((zeroA, 5), q)
  else if ctx = true ∧ C.2 = false then ((zeroA, 9), q)
  else if ctx = true ∧ 64 < C.1.bits then ((zeroA, 5), q)
  else thenD (uniV b mode k (prefD ctx C) q) zeroA fun a q => if mcast a = true then ((zeroA, 5), q) else ((a, 0), q)
def grpN (mode : Int) : Int := if mode = 1 then 6 else if mode = 2 then 4 else 1
/-- The multicast address of the bytes w. -/
def grpV (n : Nat) (w : List Int) : Fin 16 → Int := fun i => if i.1 = 0 then 255 else if i.1 = 1 then (if n = 1 then 2 else w.getD 0 default) else if i.1 + n < 17 ∧ n ≠ 1 ∨ i.1 < 15 ∧ n = 1 then 0 else w.getD (i.1 + n - 16) default
def grpD (b : List Int) (mode q : Int) : RD (Fin 16 → Int) :=
  if mode = 0 then thenD (ipRF b q) zeroA fun a q => if mcast a = true then ((a, 0), q) else ((a, 5), q)
  else thenD (numF b q (grpN mode)) zeroA fun v q' => ((grpV (grpN mode).toNat ((b.drop q.toNat).take (grpN mode).toNat), 0), q')
def srcD (b : List Int) (y ids : Int) (f : Adr) (l : List Ctx) (now q : Int) : RD (Fin 16 → Int) :=
  if bitAt y 64 = false ∨ y / 16 % 4 ≠ 0 then uniD b (bitAt y 64) (y / 16 % 4) f (forDec l (ids / 16) now) q else ((zeroA, 0), q)
def dstD (b : List Int) (y ids : Int) (t : Adr) (l : List Ctx) (now q : Int) : RD (Fin 16 → Int) :=
  if bitAt y 8 = true then grpD b (y % 4) q else uniD b (bitAt y 4) (y % 4) t (forDec l (ids % 16) now) q
def readD (b : List Int) (f t : Adr) (l : List Ctx) (now : Int) : RD Hdr :=
  thenD (startF b 0) zeroH fun s q => thenD (fieldsD b s.1 q) zeroH fun h q =>
  thenD (srcD b s.2.1 s.2.2 f l now q) zeroH fun src q => thenD (dstD b s.2.1 s.2.2 t l now q) zeroH fun dst q => (({ h with src := src, dst := dst }, 0), q)
def decI (b : List Int) (f t : Adr) (l : List Ctx) (now : Int) : (Pkt × Int) × Int :=
  if checkF f t l now ≠ 0 then (((zeroH, []), 0), checkF f t l now)
  else if (readD b f t l now).1.2 = 0 then ((((readD b f t l now).1.1, []), (readD b f t l now).2), 0) else (((zeroH, []), 0), (readD b f t l now).1.2)
end Go.Proofs.YtjknkfjhcapocaaDoor.AX

/- Addresses by AX2: Valid, IID, Split, Join of the program; Split, Join, LinkLocal of the reference. -/
namespace Go.Proofs.YtjknkfjhcapocaaDoor.AX
open Go.RowKit
set_option linter.unusedVariables false
set_option linter.unusedSimpArgs false
theorem zero_eq3 (b : Adr) (h : b.mode = 0) : eqFrom (fun q => eAdr.cell b q) (nth [CV.int .i64 0, .int .u16 0, .int .u64 0]) 3 0 = ((b.short == 0) && (b.eui == 0)) := by
  rw [Bool.eq_iff_iff, eqFrom_iff]
  constructor
  · intro g
    have g1 := g 1 (by decide)
    have g2 := g 2 (by decide)
    have g1' : eqCell (.int .u16 b.short) (.int .u16 0) = true := g1
    have g2' : eqCell (.int .u64 b.eui) (.int .u64 0) = true := g2
    simp [eqCell] at g1' g2'
    simp [g1', g2']
  · intro g
    simp at g
    intro i hi
    rcases i with _ | _ | _ | i
    · show eqCell (.int .i64 b.mode) (.int .i64 0) = true
      rw [h]; rfl
    · show eqCell (.int .u16 b.short) (.int .u16 0) = true
      rw [g.1]; rfl
    · show eqCell (.int .u64 b.eui) (.int .u64 0) = true
      rw [g.2]; rfl
    · omega
theorem avalid_ok (a : Adr) : PureOk Tryd.prog 68 [(cE eAdr).enc a] (cB.enc (adrValid a)) := by
  refine pure_intro (wd := 1) (Q := mkQ LE0) (by decide) tysOk (q_of LE0_ok) mixed Tryd.func68 rfl _ (by show 1 ≤ _; decide) _ ?_
  repeat' (first | (apply And.intro <;> intro hc <;> (first | exact Bool.noConfusion hc | (simp only [decide_eq_true_eq, decide_eq_false_iff_not, Bool.not_eq_true', Bool.not_eq_false', beq_iff_eq, beq_eq_false_iff_ne, bne_iff_ne, bne_eq_false_iff_eq, Bool.true_eq_false, Bool.false_eq_true] at hc) | skip)) | (refine And.intro (by first | exact trivial | decide | omega | (dsimp only; omega) | exact fun _ _ => rfl) ?_) | (apply And.intro) | (intro s hs))
  all_goals first
    | (refine Done.mk (leF_bool ?_); simp [adrValid, *]; done)
    | (refine Done.mk (leF_bool ((zero_eq3 a (by assumption)).trans ?_)); simp [adrValid, *])
def LAd0 : CsL := (68, some (pureE (AC.cons (cE eAdr) AC.nil) (fun _ => True) (fun a => adrValid a.1) cB.enc)) :: (LE3 ++ LPb)
theorem LAd0_ok : AllOk Tryd.prog LAd0 := ⟨pureE_ok ⟨_, Tryd.func68, rfl, by kernel_rfl⟩ fun a _ => avalid_ok a.1, append_ok LE3_ok LPb_ok⟩
theorem iid_2 {a : Adr} (h : adrValid a = true) (h2 : a.mode = 2) : iidF a = (IntKind.u64.wrap (1099478073344 + IntKind.u64.wrap a.short), true) := by
  unfold iidF adrSome
  rw [if_pos (by rw [h, h2]; rfl), if_neg (by rw [h2]; decide)]
theorem iid_3 {a : Adr} (h : adrValid a = true) (h2 : a.mode = 3) : iidF a = (bits .xor .u64 a.eui 144115188075855872, true) := by
  unfold iidF adrSome
  rw [if_pos (by rw [h, h2]; rfl), if_pos h2]
theorem iid_no {a : Adr} (h : adrValid a = false) : iidF a = (0, false) := by
  unfold iidF adrSome
  rw [h]; rfl
theorem iid_0 {a : Adr} (h : adrValid a = true) (h2 : ¬ a.mode = 2) (h3 : ¬ a.mode = 3) : iidF a = (0, false) := by
  have : a.mode = 0 := by
    unfold adrValid at h
    rw [if_neg h2, if_neg h3] at h
    split at h
    · assumption
    · cases h
  unfold iidF adrSome
  rw [if_neg (by rw [this]; simp)]
theorem aiid_ok (a : Adr) : PureOk Tryd.prog 77 [(cE eAdr).enc a] (encIB (iidF a)) := by
  refine pure_intro (wd := 1) (Q := mkQ LAd0) (by decide) tysOk (q_of LAd0_ok) mixed Tryd.func77 rfl _ (by show 1 ≤ _; decide) _ ?_
  repeat' (first | (apply And.intro <;> intro hc <;> (first | exact Bool.noConfusion hc | (simp only [decide_eq_true_eq, decide_eq_false_iff_not, Bool.not_eq_true', Bool.not_eq_false', beq_iff_eq, beq_eq_false_iff_ne, bne_iff_ne, bne_eq_false_iff_eq, Bool.true_eq_false, Bool.false_eq_true, ne_eq, not_true_eq_false] at hc <;> first | exact absurd rfl hc | skip) | skip)) | (refine And.intro (by first | exact trivial | decide | omega | (dsimp only; omega) | exact fun _ _ => rfl | exact ⟨by assumption, by first | exact trivial | decide | omega | (dsimp only; omega)⟩) ?_) | (apply And.intro) | (intro s hs; (have q : s = adrValid a := hs.trans (congrArg adrValid (rd_adr a)); clear hs; subst q)))
  all_goals first
    | (rw [iid_no (by assumption)]; exact Done.mk (leF_tup ⟨leC_int rfl, leC_bool rfl, trivial⟩))
    | (rw [iid_2 (by assumption) (by assumption)]; exact Done.mk (leF_tup ⟨leC_int rfl, leC_bool rfl, trivial⟩))
    | (rw [iid_3 (by assumption) (by assumption)]; exact Done.mk (leF_tup ⟨leC_int rfl, leC_bool rfl, trivial⟩))
    | (rw [iid_0 (by assumption) (by assumption) (by assumption)]; exact Done.mk (leF_tup ⟨leC_int rfl, leC_bool rfl, trivial⟩))
def encUU (r : Int × Int) : FV := .tup [.c (.int .u64 r.1), .c (.int .u64 r.2)]
theorem uint_hi (a : Fin 16 → Int) : uintF (ipL a) 0 8 = (hiF a, true) := by
  unfold uintF hiF
  rw [if_pos (by rw [ipL_len]; omega)]; rfl
theorem uint_lo (a : Fin 16 → Int) : uintF (ipL a) 8 8 = (loF a, true) := by
  unfold uintF loF
  rw [if_pos (by rw [ipL_len]; omega)]
  show (beVal ((List.drop 8 (ipL a)).take 8), true) = _
  rw [List.take_of_length_le (by rw [List.length_drop, ipL_len]; decide)]
theorem ip_toL (a : Fin 16 → Int) {n : Nat} {F : Nat → Nat → CV} (hn : n = 16) (h : ∀ k, F k 0 = .int .u8 (vget a k)) : toL eB n F = ipL a := by
  subst hn
  exact toL_ip fun k _ => h k
theorem ip_fn (a : Fin 16 → Int) : toL eB (16 - 0) (fun k q => (fun x : Nat => (eA IntKind.u8 16).cell a) 0 (0 + 0 * 1 + (k * 1 + q))) = ipL a := ip_toL a rfl fun k => congrArg (fun j => CV.int .u8 (vget a j)) (by omega)
theorem ip_len' (a : Fin 16 → Int) : (ipL a).length ≤ 70368744177664 := by rw [ipL_len]; decide
set_option maxRecDepth 20000 in
theorem asplit_ok (a : Fin 16 → Int) (ha : byteOk a) : PureOk Tryd.prog 70 [(cE (eA .u8 16)).enc a] (encUU (splF a)) := by
  have g1 : True := trivial
  refine pure_intro (wd := 1) (Q := mkQ LAd0) (by decide) tysOk (q_of LAd0_ok) mixed Tryd.func70 rfl _ (by show 1 ≤ _; decide) _ ?_
  repeat' (first | (apply And.intro <;> intro hc <;> (first | exact Bool.noConfusion hc | (simp only [decide_eq_true_eq, decide_eq_false_iff_not, Bool.not_eq_true', Bool.not_eq_false', beq_iff_eq, beq_eq_false_iff_ne, bne_iff_ne, bne_eq_false_iff_eq, Bool.true_eq_false, Bool.false_eq_true, ne_eq, not_true_eq_false] at hc <;> first | exact absurd rfl hc | skip) | skip)) | (refine And.intro (by first | exact trivial | decide | omega | (dsimp only; omega) | exact fun _ _ => rfl | exact ⟨by assumption, by first | exact trivial | decide | omega | (dsimp only; omega)⟩) ?_) | (apply And.intro) | (intro s hs; (first | (clear g1; have q : s = (hiF a, true) := hs.trans ((congrArg (fun l => uintF l 0 8) (ip_fn a)).trans (uint_hi a)); clear hs; subst q) | (have q : s = (loF a, true) := hs.trans ((congrArg (fun l => uintF l 8 8) (ip_fn a)).trans (uint_lo a)); clear hs; subst q))))
  all_goals first
    | exact fun i hi => rfl
    | exact Eq.mp (congrArg BL (ip_fn a).symm) (ipBL ha)
    | exact Eq.mp (congrArg (fun l : List Int => l.length ≤ 70368744177664) (ip_fn a).symm) (ip_len' a)
    | exact Done.mk (leF_tup ⟨leC_int rfl, leC_int rfl, trivial⟩)
def joinF (p : Pfx) (y : Int) : (Fin 16 → Int) × Bool := if vpf p = true ∧ p.bits ≤ 64 then (jn p.ip y, true) else (zeroA, false)
def encIpB (r : (Fin 16 → Int) × Bool) : FV := .tup [.agg 16 ((eA .u8 16).cell r.1), .c (.bool r.2)]
theorem beB_M (y : Int) : [] ++ beB y 8 = beM y 8 := by rw [List.nil_append, beB8, beM_eq y 8 (by decide)]
set_option maxRecDepth 20000 in
set_option maxHeartbeats 4000000 in
theorem ajoin_ok (p : Pfx) (y : Int) : PureOk Tryd.prog 72 [(cE ePfx).enc p, (cI .u64).enc y] (encIpB (joinF p y)) := by
  have g1 : True := trivial
  obtain ⟨J, eJ⟩ : ∃ J, joinF p y = J := ⟨_, rfl⟩
  rw [eJ]
  refine pure_intro (wd := 1) (Q := mkQ LAd0) (by decide) tysOk (q_of LAd0_ok) mixed Tryd.func72 rfl _ (by show 2 ≤ _; decide) _ ?_
  repeat' (first | (apply And.intro <;> intro hc <;> (first | exact Bool.noConfusion hc | (simp only [decide_eq_true_eq, decide_eq_false_iff_not, Bool.not_eq_true', Bool.not_eq_false', beq_iff_eq, beq_eq_false_iff_ne, bne_iff_ne, bne_eq_false_iff_eq, Bool.true_eq_false, Bool.false_eq_true, ne_eq, not_true_eq_false] at hc <;> first | exact absurd rfl hc | skip) | skip)) | (refine And.intro (by first | exact trivial | decide | omega | (dsimp only; omega) | exact fun _ _ => rfl | exact ⟨by assumption, by first | exact trivial | decide | omega | (dsimp only; omega)⟩) ?_) | (apply And.intro) | (intro s hs; (first | (clear g1; have q : s = vpf p := hs.trans (congrArg vpf (rd_pfx p)); clear hs; subst q) | (have q : s = beM y 8 := hs.trans (beB_M y); clear hs; subst q))))
  · have e : J = (zeroA, false) := by rw [← eJ]; unfold joinF; rw [if_neg (fun h => by have := h.1; simp_all)]
    rw [e]
    refine Done.mk (leF_tup ?_)
    repeat' (first | exact trivial | exact rfl | exact leC_int rfl | exact leC_bool rfl | refine leE_all ?_ | exact leC_bool (by assumption) | apply And.intro)
  · have e : J = (zeroA, false) := by rw [← eJ]; unfold joinF; rw [if_neg (fun h => by have := h.2; omega)]
    rw [e]
    refine Done.mk (leF_tup ?_)
    repeat' (first | exact trivial | exact rfl | exact leC_int rfl | exact leC_bool rfl | refine leE_all ?_ | exact leC_bool (by assumption) | apply And.intro)
  · exact Nat.zero_le _
  · exact Nat.le_refl _
  · have e : J = (jn p.ip y, true) := by rw [← eJ]; unfold joinF; rw [if_pos ⟨by assumption, by omega⟩]
    rw [e]
    exact Done.mk (leF_tup ⟨leE_all (by repeat' (first | exact trivial | exact rfl | exact leC_int rfl | exact leC_bool rfl | refine leE_all ?_ | exact leC_bool (by assumption) | apply And.intro)), leC_bool rfl, trivial⟩)
abbrev aIp : AC ((Fin 16 → Int) × Unit) := AC.cons (cE (eA .u8 16)) AC.nil
def LAd : CsL := (77, some (pureE (AC.cons (cE eAdr) AC.nil) (fun _ => True) (fun a => iidF a.1) encIB)) ::
  (70, some (pureE aIp (fun a => byteOk a.1) (fun a => splF a.1) encUU)) ::
  (72, some (pureE (AC.cons (cE ePfx) (AC.cons (cI .u64) AC.nil)) (fun _ => True) (fun a => joinF a.1 a.2.1) encIpB)) :: LAd0
theorem LAd_ok : AllOk Tryd.prog LAd := ⟨pureE_ok ⟨_, Tryd.func77, rfl, by kernel_rfl⟩ fun a _ => aiid_ok a.1, pureE_ok ⟨_, Tryd.func70, rfl, by kernel_rfl⟩ fun a h => asplit_ok a.1 h, pureE_ok ⟨_, Tryd.func72, rfl, by kernel_rfl⟩ fun a _ => ajoin_ok a.1 a.2.1, LAd0_ok⟩
end Go.Proofs.YtjknkfjhcapocaaDoor.AX

/- A pointer to a variable of the caller's as an argument (captured variables of closures). -/
namespace Go.Proofs.YtjknkfjhcapocaaDoor.AX
open Go.RowKit
set_option linter.unusedVariables false
set_option linter.unusedSimpArgs false
def cPv {α : Type} (E : Elem α) : Codec α where
  enc a := .e (.c (.rp false E.sz (E.cell a)))
  dec H x := match x with
    | .e (.c (.ptr k 0 0 _)) => match hget H k with
      | some e => bif Nat.blt 0 e.n && Nat.beq e.sz E.sz && E.ok (e.f 0) then some (E.rd (e.f 0), none, [k]) else none
      | none => none
    | _ => none
  sound H H' x a p rd h hp hh := by
    split at h
    · rename_i k fl
      split at h
      · rename_i e he
        obtain ⟨hb, h⟩ := cond_some h
        injection h with h h'
        injection h' with h' h''
        subst h h' h''
        rw [Bool.and_eq_true, Bool.and_eq_true] at hb
        have hsz := Nat.eq_of_beq_eq_true hb.1.2
        have he' : hget H' k = some e := by rw [← hh k (List.mem_cons_self ..)]; exact he
        rintro cx r w v st ⟨y, hy, rfl⟩
        refine ⟨⟨y.b, 0 * y.sz + 0, none⟩, rfl, rfl, ?_, (fun h => by cases h), (st.dom k y hy.1).1, fun j hj => ?_⟩
        · rintro ⟨k2, e2, z, q1, q2, q3, q4⟩
          have := st.inj k2 k e2 _ z y q1 he' q2 hy.1 q3
          exact q4 (by rw [this]; exact List.mem_cons_self ..)
        · obtain ⟨u, hu, hr⟩ := blk_cell st he' hy (i := 0) (j := j) (Nat.le_of_ble_eq_true hb.1.1) (by omega)
          refine ⟨u, hu, ?_⟩
          rw [E.ok_eq _ hb.2 j hj] at hr
          exact E.flat _ _ _ _ _ _ _ _ _ _ _ hr
      · cases h
    · cases h
end Go.Proofs.YtjknkfjhcapocaaDoor.AX

/- Layer 14 by AX2: the forms of addresses, of the program. -/
namespace Go.Proofs.YtjknkfjhcapocaaDoor.AX
open Go.RowKit
set_option linter.unusedVariables false
set_option linter.unusedSimpArgs false
theorem llp_ok : PureOk Tryd.prog 73 [] ((cE ePfx).enc llP) := by
  refine pure_intro (wd := 1) (Q := mkQ LE0) (by decide) tysOk (q_of LE0_ok) mixed Tryd.func73 rfl _ (by show 0 ≤ _; decide) _ ?_
  exact Done.mk (leF_e (leE_all (by repeat' (first | exact trivial | exact rfl | exact leC_int rfl | exact leC_bool rfl | refine leE_all ?_ | exact leC_bool (by assumption) | apply And.intro))))
theorem flag_ok (b : Bool) (v : Int) : PureOk Tryd.prog 50 [cB.enc b, (cI .i64).enc v] ((cI .i64).enc (bitV b v)) := by
  refine pure_intro (wd := 1) (Q := mkQ LE0) (by decide) tysOk (q_of LE0_ok) mixed Tryd.func50 rfl _ (by show 2 ≤ _; decide) _ ?_
  repeat' (first | (apply And.intro <;> intro hc <;> (first | exact Bool.noConfusion hc | (simp only [decide_eq_true_eq, decide_eq_false_iff_not, Bool.not_eq_true', Bool.not_eq_false', beq_iff_eq, beq_eq_false_iff_ne, bne_iff_ne, bne_eq_false_iff_eq, Bool.true_eq_false, Bool.false_eq_true] at hc) | skip)) | (refine And.intro (by first | exact trivial | decide | omega | (dsimp only; omega) | exact fun _ _ => rfl) ?_) | (apply And.intro) | (intro s hs))
  all_goals exact Done.mk (leF_int (by simp [bitV, *]))
theorem high_ok (a : Fin 16 → Int) (ha : byteOk a) : PureOk Tryd.prog 75 [(cE (eA .u8 16)).enc a] ((cI .u64).enc (hiF a)) := by
  refine pure_intro (wd := 1) (Q := mkQ LAd) (by decide) tysOk (q_of LAd_ok) mixed Tryd.func75 rfl _ (by show 1 ≤ _; decide) _ ?_
  repeat' (first | (apply And.intro <;> intro hc <;> (first | exact Bool.noConfusion hc | (simp only [decide_eq_true_eq, decide_eq_false_iff_not, Bool.not_eq_true', Bool.not_eq_false', beq_iff_eq, beq_eq_false_iff_ne, bne_iff_ne, bne_eq_false_iff_eq, Bool.true_eq_false, Bool.false_eq_true, ne_eq, not_true_eq_false] at hc <;> first | exact absurd rfl hc | skip) | skip)) | (refine And.intro (by first | exact trivial | decide | omega | (dsimp only; omega) | exact fun _ _ => rfl | exact ⟨by assumption, by first | exact trivial | decide | omega | (dsimp only; omega)⟩) ?_) | (apply And.intro) | (intro s hs; (have q : s = splF a := hs.trans (congrArg splF (rd_ip a)); clear hs; subst q)))
  · exact Eq.mp (congrArg byteOk (rd_ip a).symm) ha
  · exact Done.mk (leF_int rfl)
def shortF (y : Int) : List Int × Bool := if bits .andNot .u64 y 65535 = 1099478073344 then (beB y 2, true) else ([], false)
def boolV (b : Bool) : EV := .c (.bool b)
theorem short_ok (y : Int) : NewOk Tryd.prog 78 [(cI .u64).enc y] (some (shortF y).1.length) (some [boolV (shortF y).2]) (ents eB 5 (shortF y).1) := by
  obtain ⟨w, eW⟩ : ∃ w, shortF y = w := ⟨_, rfl⟩
  rw [eW]
  refine new_intro (wd := 1) (Q := mkQ LAd) (by decide) tysOk (q_of LAd_ok) mixed Tryd.func78 rfl _ (by show 1 ≤ _; decide) (fun i _ j _ => row_nf eB _ i j) ?_
  repeat' (first | (apply And.intro <;> intro hc <;> (first | exact Bool.noConfusion hc | (simp only [decide_eq_true_eq, decide_eq_false_iff_not, Bool.not_eq_true', Bool.not_eq_false', beq_iff_eq, beq_eq_false_iff_ne, bne_iff_ne, bne_eq_false_iff_eq, Bool.true_eq_false, Bool.false_eq_true, ne_eq, not_true_eq_false] at hc <;> first | exact absurd rfl hc | skip) | skip)) | (refine And.intro (by first | exact trivial | decide | omega | (dsimp only; omega) | exact fun _ _ => rfl | exact ⟨by assumption, by first | exact trivial | decide | omega | (dsimp only; omega)⟩) ?_) | (apply And.intro) | (intro s hs; (have q : s = beB y 2 := hs; clear hs; subst q)))
  · have e : w = ([], false) := by rw [← eW]; unfold shortF; rw [if_neg hc]
    rw [e]
    exact ⟨⟨none, leF_tup ⟨leC_nils_os rfl, leC_bool rfl, trivial⟩, rfl, rfl, (by show 0 < 1; omega)⟩⟩
  · exact Nat.zero_le _
  · have e : w = (beB y 2, true) := by rw [← eW]; unfold shortF; rw [if_pos hc]
    rw [e]
    exact ⟨⟨some _, leF_tup ⟨leC_os rfl rfl, leC_bool rfl, trivial⟩, leN_ents⟩⟩
def withinF (p : Pfx) (y : Int) (a : Fin 16 → Int) : Bool := decide (vpf p = true ∧ p.bits ≤ 64) && ipEq (jn p.ip y) a
theorem ip_from (a b : Fin 16 → Int) : eqFrom ((eA .u8 16).cell a) ((eA .u8 16).cell b) 16 0 = ipEq a b := by
  rw [Bool.eq_iff_iff, eqFrom_iff]
  unfold ipEq
  simp only [List.all_eq_true, List.mem_range, beq_iff_eq]
  constructor
  · intro h j hj
    have := h j hj
    rw [Nat.zero_add] at this
    simpa [eA, eqCell] using this
  · intro h j hj
    rw [Nat.zero_add]
    have := h j hj
    simpa [eA, eqCell] using this
theorem within_ok (p : Pfx) (y : Int) (a : Fin 16 → Int) : PureOk Tryd.prog 71 [(cE ePfx).enc p, (cPv (eI .u64)).enc y, (cPv (eA .u8 16)).enc a] (cB.enc (withinF p y a)) := by
  refine pure_intro (wd := 1) (Q := mkQ LAd) (by decide) tysOk (q_of LAd_ok) mixed Tryd.func71 rfl _ (by show 3 ≤ _; decide) _ ?_
  repeat' (first | (apply And.intro <;> intro hc <;> (first | exact Bool.noConfusion hc | (simp only [decide_eq_true_eq, decide_eq_false_iff_not, Bool.not_eq_true', Bool.not_eq_false', beq_iff_eq, beq_eq_false_iff_ne, bne_iff_ne, bne_eq_false_iff_eq, Bool.true_eq_false, Bool.false_eq_true, ne_eq, not_true_eq_false] at hc <;> first | exact absurd rfl hc | skip) | skip)) | (refine And.intro (by first | exact trivial | decide | omega | (dsimp only; omega) | exact fun _ _ => rfl | exact ⟨by assumption, by first | exact trivial | decide | omega | (dsimp only; omega)⟩) ?_) | (apply And.intro) | (intro s hs; (have q : s = joinF p y := hs.trans (congrArg (joinF · y) (rd_pfx p)); clear hs; subst q)))
  · have e : withinF p y a = ipEq (joinF p y).1 a := by
      unfold withinF joinF at *
      split at hc
      · rename_i h
        rw [decide_eq_true h, Bool.true_and, if_pos h]
      · cases hc
    rw [e]
    exact Done.mk (leF_bool (ip_from (joinF p y).1 a))
  · have e : withinF p y a = false := by
      unfold withinF joinF at *
      split at hc
      · cases hc
      · rename_i h
        rw [decide_eq_false h, Bool.false_and]
    rw [e]
    exact Done.mk (leF_bool rfl)
end Go.Proofs.YtjknkfjhcapocaaDoor.AX

/- The reference of layer 12: Time, compresses, expands, Valid, ForDecompression (by AX2). -/
namespace Go.Proofs.YtjknkfjhcapocaaDoor.AX
open Go.RowKit
set_option linter.unusedVariables false
set_option linter.unusedSimpArgs false
structure bytesL (l : List Ctx) : Prop where
  b : ∀ c ∈ l, byteOk c.ip
  n : l.length ≤ 2932031007317
end Go.Proofs.YtjknkfjhcapocaaDoor.AX

/- Layer 14 by AX2: unicast of the program. -/
namespace Go.Proofs.YtjknkfjhcapocaaDoor.AX
open Go.RowKit
set_option linter.unusedVariables false
set_option linter.unusedSimpArgs false
abbrev withinE : Entry := pureE (AC.cons (cE ePfx) (AC.cons (cPv (eI .u64)) (AC.cons (cPv (eA .u8 16)) AC.nil))) (fun _ => True) (fun a => withinF a.1 a.2.1 a.2.2.1) cB.enc
abbrev comE : Entry := pureE (AC.cons (cSl eCtx eCtx_sz) (AC.cons (cE (eA .u8 16)) (AC.cons (cI .i64) AC.nil))) (fun a => a.1.length ≤ 9223372036854775807) (fun a => forCom a.1 a.2.1 a.2.2.1) encCB
abbrev shortE : Entry := newE (AC.cons (cI .u64) AC.nil) (fun _ => True) (fun a => shortF a.1) (fun s => some s.1.length) (fun s => some [boolV s.2]) (fun s => ents eB 5 s.1)
def LIh0 : CsL := (73, some (pureE AC.nil (fun _ => True) (fun _ => llP) (cE ePfx).enc)) ::
  (50, some (pureE (AC.cons cB (AC.cons (cI .i64) AC.nil)) (fun _ => True) (fun a => bitV a.1 a.2.1) (cI .i64).enc)) ::
  (75, some (pureE aIp (fun a => byteOk a.1) (fun a => hiF a.1) (cI .u64).enc)) ::
  (78, some shortE) :: (71, some withinE) :: (74, some comE) :: LAd
theorem LIh0_ok : AllOk Tryd.prog LIh0 := ⟨pureE_ok ⟨_, Tryd.func73, rfl, by kernel_rfl⟩ fun _ _ => llp_ok, pureE_ok ⟨_, Tryd.func50, rfl, by kernel_rfl⟩ fun a _ => flag_ok a.1 a.2.1, pureE_ok ⟨_, Tryd.func75, rfl, by kernel_rfl⟩ fun a h => high_ok a.1 h,
  newE_ok ⟨_, Tryd.func78, rfl, by kernel_rfl⟩ (fun s l h x hx => by injection h with h; subst h; obtain rfl := List.mem_singleton.1 hx; exact nfE_c nf_bool) fun a _ => short_ok a.1,
  pureE_ok ⟨_, Tryd.func71, rfl, by kernel_rfl⟩ fun a _ => within_ok a.1 a.2.1 a.2.2.1, pureE_ok ⟨_, Tryd.func74, rfl, by kernel_rfl⟩ fun a h => forCom_ok a.1 a.2.1 a.2.2.1 h, LAd_ok⟩
def chE : Entry := inlE T (mkQ LAd) 1 Tryd.f76.ntmps Tryd.f76.results.toList (Tryd.f76.body.getD Code.ret)
theorem chE_ok : EntOk Tryd.prog 76 chE := inlE_ok (by decide) tysOk (q_of LAd_ok) (mono_of LAd_ok) mixed Tryd.func76 rfl rfl
def LIh1 : CsL := (76, some chE) :: LIh0
theorem LIh1_ok : AllOk Tryd.prog LIh1 := ⟨chE_ok, LIh0_ok⟩
abbrev encFm (r : Form) : FV := .e (tailR eFm eB r)
theorem zero_from (a : Fin 16 → Int) : eqFrom (fun q => (eA .u8 16).cell a (0 + q)) (zf [CV.int .u8 0, CV.int .u8 0, CV.int .u8 0, CV.int .u8 0, CV.int .u8 0, CV.int .u8 0, CV.int .u8 0, CV.int .u8 0, CV.int .u8 0, CV.int .u8 0, CV.int .u8 0, CV.int .u8 0, CV.int .u8 0, CV.int .u8 0, CV.int .u8 0, CV.int .u8 0]) 16 0 = ipEq a zeroA := by
  refine (eqFrom_congr (fun j hj => by rw [Nat.zero_add]) (fun j hj => ?_)).trans (ip_from a zeroA)
  iterate 16 (rcases j with _ | j; exact rfl)
  exact absurd hj (by omega)
theorem pfx_rd {c : Ctx} {g : Nat → CV} (h : ∀ q, g q = eCtx.cell c (1 + q)) : ePfx.rd g = pfxOf c := by rw [funext h]; exact pfx_of_ctx c
theorem within_ll {a : Fin 16 → Int} (ha : byteOk a) : withinF llP (loF a) a = decide (hiF a = 18338657682652659712) := by
  unfold withinF
  rw [decide_eq_true (show vpf llP = true ∧ llP.bits ≤ 64 from ⟨llP_v, by decide⟩), Bool.true_and, Bool.eq_iff_iff, ipEq_iff, jn_iff llP_b ha, llP_hi, decide_eq_true_eq]
  exact eq_comm
theorem within_cx {a : Fin 16 → Int} {l : List Ctx} {now : Int} (ha : byteOk a) (hl : bytesL l) : coverF a l now = ((forCom l a now).2 && withinF (pfxOf (forCom l a now).1) (loF a) a) := by
  unfold coverF
  cases h : (forCom l a now).2 with
  | false => rfl
  | true =>
    obtain ⟨h1, _, h2, _⟩ := forCom_in h
    have hv := (valid_lt h1 h2).2.2.2
    have hb := hl.b _ h2
    rw [Bool.true_and, Bool.true_and]
    unfold withinF
    rw [show (pfxOf (forCom l a now).1).bits = (forCom l a now).1.bits from rfl, hv, Bool.eq_iff_iff]
    simp only [Bool.and_eq_true, decide_eq_true_eq, ipEq_iff, true_and]
    rw [jn_iff (show byteOk (pfxOf (forCom l a now).1).ip from hb) ha]
    exact Iff.rfl
/-- The ways of unicast. -/
theorem uni_0 {a : Fin 16 → Int} {k : Adr} {source : Bool} {l : List Ctx} {now : Int} (h : source = true ∧ ipEq a zeroA = true) : uniF a k source l now = (⟨true, 0, 0⟩, []) := if_pos h
theorem uni_1 {a : Fin 16 → Int} {k : Adr} {source : Bool} {l : List Ctx} {now : Int} (h : ¬ (source = true ∧ ipEq a zeroA = true)) (h1 : hiF a = 18338657682652659712) : uniF a k source l now = (⟨false, 0, (iidsF (loF a) k).1⟩, (iidsF (loF a) k).2) := by
  unfold uniF
  rw [if_neg h, if_pos h1]
theorem uni_2 {a : Fin 16 → Int} {k : Adr} {source : Bool} {l : List Ctx} {now : Int} (h : ¬ (source = true ∧ ipEq a zeroA = true)) (h1 : hiF a ≠ 18338657682652659712) (h2 : coverF a l now = true) : uniF a k source l now = (⟨true, (forCom l a now).1.id, (iidsF (loF a) k).1⟩, (iidsF (loF a) k).2) := by
  unfold uniF
  rw [if_neg h, if_neg h1, if_pos h2]
theorem uni_3 {a : Fin 16 → Int} {k : Adr} {source : Bool} {l : List Ctx} {now : Int} (h : ¬ (source = true ∧ ipEq a zeroA = true)) (h1 : hiF a ≠ 18338657682652659712) (h2 : coverF a l now = false) : uniF a k source l now = (⟨false, 0, 0⟩, ipL a) := by
  unfold uniF
  rw [if_neg h, if_neg h1, if_neg (by rw [h2]; decide)]
theorem iids_2 {y : Int} {k : Adr} (h : iidF k ≠ (y, true)) (h2 : bits .andNot .u64 y 65535 = 1099478073344) : iidsF y k = (2, beB y 2) := by
  unfold iidsF
  rw [if_neg h, if_pos h2]
theorem iids_1 {y : Int} {k : Adr} (h : iidF k ≠ (y, true)) (h2 : ¬ bits .andNot .u64 y 65535 = 1099478073344) : iidsF y k = (1, beB y 8) := by
  unfold iidsF
  rw [if_neg h, if_neg h2]
theorem iids_2' {y : Int} {k : Adr} (h : iidF k ≠ (y, true)) (h2 : (shortF y).2 = true) : iidsF y k = (2, (shortF y).1) := by
  unfold shortF at h2 ⊢
  split at h2
  · rename_i g
    rw [if_pos g, iids_2 h g]
  · cases h2
theorem iids_1' {y : Int} {k : Adr} (h : iidF k ≠ (y, true)) (h2 : (shortF y).2 = false) : iidsF y k = (1, beB y 8) := by
  unfold shortF at h2
  split at h2
  · cases h2
  · rename_i g
    exact iids_1 h g
set_option maxHeartbeats 8000000 in
set_option maxRecDepth 20000 in
theorem uni_ok0 (a : Fin 16 → Int) (k : Adr) (source : Bool) (l : List Ctx) (now : Int) (ha : byteOk a) (hl : bytesL l) (Z : source = true ∧ ipEq a zeroA = true) : PureOk Tryd.prog 47 [(cE (eA .u8 16)).enc a, (cE eAdr).enc k, cB.enc source, (cSl eCtx eCtx_sz).enc l, (cI .i64).enc now] (encFm (uniF a k source l now)) := by
  rw [uni_0 Z]
  obtain ⟨Z1, Z2⟩ := Z
  have Z3 := (zero_from a).trans Z2
  refine pure_intro (wd := 64) (Q := mkQ LIh1) (by decide) tysOk (q_of LIh1_ok) mixed Tryd.func47 rfl _ (by show 5 ≤ _; decide) _ ?_
  repeat' (first | (apply And.intro <;> intro hc <;> (first | exact Bool.noConfusion hc | (exfalso; first | exact Bool.noConfusion (Z1.symm.trans hc) | exact Bool.noConfusion (Z3.symm.trans hc)) | (simp only [decide_eq_true_eq, decide_eq_false_iff_not, Bool.not_eq_true', Bool.not_eq_false', beq_iff_eq, beq_eq_false_iff_ne, bne_iff_ne, bne_eq_false_iff_eq, Bool.true_eq_false, Bool.false_eq_true, ne_eq, not_true_eq_false] at hc <;> first | exact absurd rfl hc | (exfalso; first | exact Bool.noConfusion (Z1.symm.trans hc) | exact Bool.noConfusion (Z3.symm.trans hc)) | skip) | skip)) | (refine And.intro (by first | exact trivial | decide | omega | (dsimp only; omega) | exact fun _ _ => rfl | exact ⟨by assumption, by first | exact trivial | decide | omega | (dsimp only; omega)⟩) ?_) | (apply And.intro) | (intro s hs; skip))
  refine Done.mk (leF_e (leE_tail rfl (fun j hj => ?_) (leC_nils_sl rfl)))
  iterate 3 (rcases j with _ | j; (first | exact leC_int rfl | exact leC_bool rfl))
  exact absurd hj (by show ¬ _ < 3; omega)
set_option maxHeartbeats 8000000 in
set_option maxRecDepth 20000 in
theorem uni_ok1 (a : Fin 16 → Int) (k : Adr) (source : Bool) (l : List Ctx) (now : Int) (ha : byteOk a) (hl : bytesL l) (Z : ¬ (source = true ∧ ipEq a zeroA = true)) : PureOk Tryd.prog 47 [(cE (eA .u8 16)).enc a, (cE eAdr).enc k, cB.enc source, (cSl eCtx eCtx_sz).enc l, (cI .i64).enc now] (encFm (uniF a k source l now)) := by
  have u1 := fun h => uni_1 (k := k) (l := l) (now := now) Z h
  have u2 := fun h g => uni_2 (k := k) (l := l) (now := now) Z h g
  have u3 := fun h g => uni_3 (k := k) (l := l) (now := now) Z h g
  have hB := within_ll ha
  have hK := within_cx (now := now) ha hl
  have i3 := fun h => iids_own (k := k) (y := loF a) h
  have i2 := fun h g => iids_2' (k := k) (y := loF a) h g
  have i1 := fun h g => iids_1' (k := k) (y := loF a) h g
  have hL := beB_hi ha
  have eS : splF a = (hiF a, loF a) := rfl
  have Z3 := zero_from a
  obtain ⟨W, eW⟩ : ∃ W, uniF a k source l now = W := ⟨_, rfl⟩
  rw [eW] at u1 u2 u3 ⊢
  obtain ⟨C, eC⟩ : ∃ C, forCom l a now = C := ⟨_, rfl⟩
  obtain ⟨Hi, eHi⟩ : ∃ x, hiF a = x := ⟨_, rfl⟩
  obtain ⟨Lo, eLo⟩ : ∃ x, loF a = x := ⟨_, rfl⟩
  obtain ⟨I, eI⟩ : ∃ x, iidF k = x := ⟨_, rfl⟩
  obtain ⟨V, eV⟩ : ∃ x, coverF a l now = x := ⟨_, rfl⟩
  obtain ⟨D, eD⟩ : ∃ x, iidsF (loF a) k = x := ⟨_, rfl⟩
  rw [eLo] at eD
  rw [eC, eLo, eV] at hK
  rw [eHi, eLo] at hB
  rw [eHi, eLo] at hL eS
  rw [eHi, eLo, eD] at u1
  rw [eHi, eLo, eD, eV, eC] at u2
  rw [eHi, eV] at u3
  rw [eI, eLo, eD] at i1 i2 i3
  obtain ⟨Sh, eSh⟩ : ∃ x, shortF Lo = x := ⟨_, rfl⟩
  rw [eSh] at i1 i2
  obtain ⟨B, eB'⟩ : ∃ x, withinF llP Lo a = x := ⟨_, rfl⟩
  obtain ⟨K, eK⟩ : ∃ x, withinF (pfxOf C.1) Lo a = x := ⟨_, rfl⟩
  rw [eB'] at hB
  rw [eK] at hK
  clear eW eV eD
  have g1 : True := trivial
  have g2 : True := trivial
  refine pure_intro (wd := 64) (Q := mkQ LIh1) (by decide) tysOk (q_of LIh1_ok) mixed Tryd.func47 rfl _ (by show 5 ≤ _; decide) _ ?_
  repeat' (first | (apply And.intro <;> intro hc <;> (first | exact Bool.noConfusion hc | (exfalso; first | exact Z ⟨(by assumption), (Z3.symm.trans hc)⟩ | exact Bool.noConfusion ((by assumption : B = true).symm.trans hc) | exact Bool.noConfusion ((by assumption : B = false).symm.trans hc)) | (simp only [decide_eq_true_eq, decide_eq_false_iff_not, Bool.not_eq_true', Bool.not_eq_false', beq_iff_eq, beq_eq_false_iff_ne, bne_iff_ne, bne_eq_false_iff_eq, Bool.true_eq_false, Bool.false_eq_true, ne_eq, not_true_eq_false] at hc <;> first | exact absurd rfl hc | (exfalso; first | exact Z ⟨(by assumption), (Z3.symm.trans hc)⟩ | exact Bool.noConfusion ((by assumption : B = true).symm.trans hc) | exact Bool.noConfusion ((by assumption : B = false).symm.trans hc)) | skip) | skip)) | (refine And.intro (by first | exact trivial | decide | omega | (dsimp only; omega) | exact fun _ _ => rfl | exact ⟨by assumption, by first | exact trivial | decide | omega | (dsimp only; omega)⟩) ?_) | (apply And.intro) | (intro s hs; (first | (have q : (Hi, Lo) = s := (hs.trans ((congrArg splF (rd_ip a)).trans eS)).symm; clear hs; subst q) | (have q : s = llP := hs; clear hs; subst q) | (clear g1; have q : B = s := (hs.trans ((congr (congrArg (fun p b => withinF p Lo b) (rd_pfx llP)) (eA_rd (k := .u8) a)).trans eB')).symm; clear hs; subst q) | (clear g2; have q : C = s := (hs.trans ((congr (congrArg (fun l b => forCom l b now) (toL_ctx l)) (rd_ip a)).trans eC)).symm; clear hs; subst q) | (have q : K = s := (hs.trans ((congr (congrArg (fun p b => withinF p Lo b) (pfx_rd (c := C.1) (fun q => congrArg (eCtx.cell C.1) (by omega)))) (eA_rd (k := .u8) a)).trans eK)).symm; clear hs; subst q) | (have q : Hi = s := (hs.trans ((congrArg hiF (rd_ip a)).trans eHi)).symm; clear hs; subst q) | (have q : s = beB Hi 8 := hs; clear hs; subst q) | (have q : s = beB Hi 8 ++ beB Lo 8 := hs.trans (congrArg (· ++ beB Lo 8) (toL_b0 (beB Hi 8))); clear hs; subst q) | (have q : I = s := (hs.trans ((congrArg iidF (rd_adr k)).trans eI)).symm; clear hs; subst q) | (have q : Sh = s := (hs.trans eSh).symm; clear hs; subst q) | (have q : s = beB Lo 8 := hs; clear hs; subst q) | skip)))
  all_goals first
    | exact rfl
    | exact absurd ((by assumption : B = true).symm.trans (by assumption : B = false)) (by decide)
    | exact Eq.mp (congrArg byteOk (rd_ip a).symm) ha
    | (show (toL eCtx l.length _).length ≤ _; rw [toL_len]; have := hl.n; omega)
    | exact Nat.zero_le _
    | (show (toL eB (beB Hi 8).length _).length ≤ _; rw [toL_len]; have := beB_len Hi 8; omega)
    | (have w := u3 (of_decide_eq_false (hB.symm.trans (by assumption))) (hK.trans (by rw [show C.2 = false by assumption, Bool.false_and]))
       rw [w, ← hL]
       refine Done.mk (leF_e (leE_tail rfl (fun j hj => ?_) (by first | exact leC_nils_sl rfl | exact leC_row_fin rfl rfl)))
       iterate 3 (rcases j with _ | j; (first | exact leC_int rfl | exact leC_bool rfl))
       exact absurd hj (by show ¬ _ < 3; omega))
    | (have w := u3 (of_decide_eq_false (hB.symm.trans (by assumption))) (hK.trans (by rw [show K = false by assumption, Bool.and_false]))
       rw [w, ← hL]
       refine Done.mk (leF_e (leE_tail rfl (fun j hj => ?_) (by first | exact leC_nils_sl rfl | exact leC_row_fin rfl rfl)))
       iterate 3 (rcases j with _ | j; (first | exact leC_int rfl | exact leC_bool rfl))
       exact absurd hj (by show ¬ _ < 3; omega))
    | (have d := i3 (Prod.ext (by assumption : I.1 = Lo) (by assumption : I.2 = true))
       have w := u1 (of_decide_eq_true (hB.symm.trans (by assumption)))
       rw [w, d]
       refine Done.mk (leF_e (leE_tail rfl (fun j hj => ?_) (by first | exact leC_nils_sl rfl | exact leC_row_fin rfl rfl)))
       iterate 3 (rcases j with _ | j; (first | exact leC_int rfl | exact leC_bool rfl))
       exact absurd hj (by show ¬ _ < 3; omega))
    | (have d := i3 (Prod.ext (by assumption : I.1 = Lo) (by assumption : I.2 = true))
       have w := u2 (of_decide_eq_false (hB.symm.trans (by assumption))) (hK.trans (by rw [show C.2 = true by assumption, show K = true by assumption]; rfl))
       rw [w, d]
       refine Done.mk (leF_e (leE_tail rfl (fun j hj => ?_) (by first | exact leC_nils_sl rfl | exact leC_row_fin rfl rfl)))
       iterate 3 (rcases j with _ | j; (first | exact leC_int rfl | exact leC_bool rfl))
       exact absurd hj (by show ¬ _ < 3; omega))
    | (have d := i2 (fun h => Bool.noConfusion ((congrArg Prod.snd h).symm.trans (by assumption : I.2 = false))) (by assumption)
       have w := u1 (of_decide_eq_true (hB.symm.trans (by assumption)))
       rw [w, d]
       refine Done.mk (leF_e (leE_tail rfl (fun j hj => ?_) (by first | exact leC_nils_sl rfl | exact leC_row_fin rfl rfl)))
       iterate 3 (rcases j with _ | j; (first | exact leC_int rfl | exact leC_bool rfl))
       exact absurd hj (by show ¬ _ < 3; omega))
    | (have d := i2 (fun h => Bool.noConfusion ((congrArg Prod.snd h).symm.trans (by assumption : I.2 = false))) (by assumption)
       have w := u2 (of_decide_eq_false (hB.symm.trans (by assumption))) (hK.trans (by rw [show C.2 = true by assumption, show K = true by assumption]; rfl))
       rw [w, d]
       refine Done.mk (leF_e (leE_tail rfl (fun j hj => ?_) (by first | exact leC_nils_sl rfl | exact leC_row_fin rfl rfl)))
       iterate 3 (rcases j with _ | j; (first | exact leC_int rfl | exact leC_bool rfl))
       exact absurd hj (by show ¬ _ < 3; omega))
    | (have d := i2 (fun h => (by assumption : ¬ I.1 = Lo) (congrArg Prod.fst h)) (by assumption)
       have w := u1 (of_decide_eq_true (hB.symm.trans (by assumption)))
       rw [w, d]
       refine Done.mk (leF_e (leE_tail rfl (fun j hj => ?_) (by first | exact leC_nils_sl rfl | exact leC_row_fin rfl rfl)))
       iterate 3 (rcases j with _ | j; (first | exact leC_int rfl | exact leC_bool rfl))
       exact absurd hj (by show ¬ _ < 3; omega))
    | (have d := i2 (fun h => (by assumption : ¬ I.1 = Lo) (congrArg Prod.fst h)) (by assumption)
       have w := u2 (of_decide_eq_false (hB.symm.trans (by assumption))) (hK.trans (by rw [show C.2 = true by assumption, show K = true by assumption]; rfl))
       rw [w, d]
       refine Done.mk (leF_e (leE_tail rfl (fun j hj => ?_) (by first | exact leC_nils_sl rfl | exact leC_row_fin rfl rfl)))
       iterate 3 (rcases j with _ | j; (first | exact leC_int rfl | exact leC_bool rfl))
       exact absurd hj (by show ¬ _ < 3; omega))
    | (have d := i1 (fun h => Bool.noConfusion ((congrArg Prod.snd h).symm.trans (by assumption : I.2 = false))) (by assumption)
       have w := u1 (of_decide_eq_true (hB.symm.trans (by assumption)))
       rw [w, d]
       refine Done.mk (leF_e (leE_tail rfl (fun j hj => ?_) (by first | exact leC_nils_sl rfl | exact leC_row_fin rfl rfl)))
       iterate 3 (rcases j with _ | j; (first | exact leC_int rfl | exact leC_bool rfl))
       exact absurd hj (by show ¬ _ < 3; omega))
    | (have d := i1 (fun h => Bool.noConfusion ((congrArg Prod.snd h).symm.trans (by assumption : I.2 = false))) (by assumption)
       have w := u2 (of_decide_eq_false (hB.symm.trans (by assumption))) (hK.trans (by rw [show C.2 = true by assumption, show K = true by assumption]; rfl))
       rw [w, d]
       refine Done.mk (leF_e (leE_tail rfl (fun j hj => ?_) (by first | exact leC_nils_sl rfl | exact leC_row_fin rfl rfl)))
       iterate 3 (rcases j with _ | j; (first | exact leC_int rfl | exact leC_bool rfl))
       exact absurd hj (by show ¬ _ < 3; omega))
    | (have d := i1 (fun h => (by assumption : ¬ I.1 = Lo) (congrArg Prod.fst h)) (by assumption)
       have w := u1 (of_decide_eq_true (hB.symm.trans (by assumption)))
       rw [w, d]
       refine Done.mk (leF_e (leE_tail rfl (fun j hj => ?_) (by first | exact leC_nils_sl rfl | exact leC_row_fin rfl rfl)))
       iterate 3 (rcases j with _ | j; (first | exact leC_int rfl | exact leC_bool rfl))
       exact absurd hj (by show ¬ _ < 3; omega))
    | (have d := i1 (fun h => (by assumption : ¬ I.1 = Lo) (congrArg Prod.fst h)) (by assumption)
       have w := u2 (of_decide_eq_false (hB.symm.trans (by assumption))) (hK.trans (by rw [show C.2 = true by assumption, show K = true by assumption]; rfl))
       rw [w, d]
       refine Done.mk (leF_e (leE_tail rfl (fun j hj => ?_) (by first | exact leC_nils_sl rfl | exact leC_row_fin rfl rfl)))
       iterate 3 (rcases j with _ | j; (first | exact leC_int rfl | exact leC_bool rfl))
       exact absurd hj (by show ¬ _ < 3; omega))
    | skip
end Go.Proofs.YtjknkfjhcapocaaDoor.AX

/- Layer 14 by AX2: group, fields, check of the program. -/
namespace Go.Proofs.YtjknkfjhcapocaaDoor.AX
open Go.RowKit
set_option linter.unusedVariables false
set_option linter.unusedSimpArgs false
theorem zr_at {a : Fin 16 → Int} {i j : Nat} (h : zr a i j = true) : ∀ k, i ≤ k → k < j → k < 16 → vget a k = 0 := by
  intro k h1 h2 h3
  unfold zr at h
  rw [List.all_eq_true] at h
  have := h (vget a k) (by
    rw [List.mem_iff_getElem?]
    refine ⟨k - i, ?_⟩
    rw [List.getElem?_take, if_pos (by omega), List.getElem?_drop, show i + (k - i) = k by omega]
    unfold ipL
    rw [List.getElem?_map, List.getElem?_range h3]; rfl)
  exact of_decide_eq_true this
abbrev encFmG (r : Form) : FV := .e (tailR eFm eB r)
def LIh00 : CsL := (50, some (pureE (AC.cons cB (AC.cons (cI .i64) AC.nil)) (fun _ => True) (fun a => bitV a.1 a.2.1) (cI .i64).enc)) :: LAd
theorem LIh00_ok : AllOk Tryd.prog LIh00 := ⟨pureE_ok ⟨_, Tryd.func50, rfl, by kernel_rfl⟩ fun a _ => flag_ok a.1 a.2.1, LAd_ok⟩
structure ZrS (z : List Int) where
  k : Nat
  hk : k ≤ z.length
  h : ∀ q, q < k → z.getD q default = 0
theorem all_zero {z : List Int} (h : ∀ q, q < z.length → z.getD q default = 0) : z.all (fun x => x == 0) = true := by
  rw [List.all_eq_true]
  intro x hx
  obtain ⟨q, hq, rfl⟩ := List.mem_iff_getElem.1 hx
  have := h q hq
  rw [List.getD_eq_getElem?_getD, List.getElem?_eq_getElem hq] at this
  exact decide_eq_true this
theorem not_zero {z : List Int} {q : Nat} (hq : q < z.length) (h : z.getD q default ≠ 0) : z.all (fun x => x == 0) = false := by
  cases hz : z.all (fun x => x == 0) with
  | false => rfl
  | true =>
    rw [List.all_eq_true] at hz
    have := hz z[q] (List.getElem_mem hq)
    rw [List.getD_eq_getElem?_getD, List.getElem?_eq_getElem hq] at h
    exact absurd (of_decide_eq_true this) h
set_option maxRecDepth 20000 in
theorem zero_ok (a : Fin 16 → Int) (i j : Nat) (hij : i ≤ j ∧ j ≤ 16) : PureOk Tryd.prog 79 [(cI .i64).enc (i : Int), (cI .i64).enc (j : Int), (cPv (eA .u8 16)).enc a] (cB.enc (zr a i j)) := by
  obtain ⟨z, hz⟩ : ∃ z, z = ((ipL a).drop i).take (j - i) := ⟨_, rfl⟩
  have hzl : z.length = j - i := by rw [hz, List.length_take, List.length_drop, ipL_len]; omega
  have hw : zr a i j = z.all (fun x => x == 0) := by rw [hz]; rfl
  rw [hw]
  obtain ⟨w, eW⟩ : ∃ w, z.all (fun x => x == 0) = w := ⟨_, rfl⟩
  rw [eW]
  refine pure_intro (wd := 1) (Q := mkQ LE0) (by decide) tysOk (q_of LE0_ok) mixed Tryd.func79 rfl _ (by show 3 ≤ _; decide) _ ?_
  repeat' (first | (apply And.intro <;> intro hc <;> (first | exact Bool.noConfusion hc | (simp only [decide_eq_true_eq, decide_eq_false_iff_not, Bool.not_eq_true', Bool.not_eq_false', beq_iff_eq, beq_eq_false_iff_ne, bne_iff_ne, bne_eq_false_iff_eq, Bool.true_eq_false, Bool.false_eq_true] at hc) | skip)) | (refine And.intro (by first | exact trivial | decide | omega | (dsimp only; omega) | exact fun _ _ => rfl) ?_) | (apply And.intro) | (intro s hs))
  · exact Nat.le_refl 16
  refine loop_intro (mono_of LE0_ok) (fun s : ZrS z => (⟨[(10, one (.sl false z.length eB.sz (rowF eB z))), (11, one (.int .i64 (z.length : Int))), (12, one (.int .i64 (s.k : Int)))], [], 0⟩ : Hd)) (fun s => z.length - s.k) (fun _ => rfl) ?_ ⟨0, by omega, fun q h => absurd h (by omega)⟩ [] ?_
  · rintro ⟨k, hk, h⟩
    dsimp only at hk h ⊢
    repeat' (first | (apply And.intro <;> intro hc <;> (first | exact Bool.noConfusion hc | (simp only [decide_eq_true_eq, decide_eq_false_iff_not, Bool.not_eq_true', Bool.not_eq_false', beq_iff_eq, beq_eq_false_iff_ne, bne_iff_ne, bne_eq_false_iff_eq, Bool.true_eq_false, Bool.false_eq_true] at hc) | skip)) | (refine And.intro (by first | exact trivial | decide | omega | (dsimp only; omega) | exact fun _ _ => rfl) ?_) | (apply And.intro) | (intro s hs))
    · have e : w = false := by rw [← eW]; exact not_zero (q := k) (by omega) hc
      rw [e]
      exact Done.mk (leF_bool rfl)
    · refine ⟨⟨k + 1, by omega, fun q hq => ?_⟩, [], by dsimp only <;> omega, rfl, ?_, ?_⟩
      · by_cases e : q = k
        · rw [e]; exact hc
        · exact h q (by omega)
      · repeat' (first | exact trivial | exact rfl | exact leF_ptr rfl | exact leF_int rfl | exact leF_bool rfl | exact leF_cl (cl_slB _ _) | exact leF_cl (cl_slR _ _) | exact leF_cl (cl_ll _ _) | exact leF_c (leC_os rfl rfl) | refine leF_int ?_ | refine leF_bool ?_ | exact leN_varA (fun _ _ => (Elem.flat _ _ _).le) | exact leN_varA (fun _ _ => leC_top) | apply And.intro)
        first | (dsimp only; rw [IntWalk.i64_in _ (by omega)]; omega) | (dsimp only; rw [IntWalk.i64_in _ (by omega)]; done) | (dsimp only; exact IntWalk.i64_in _ (by omega)) | exact IntWalk.i64_in _ (by omega) | (rw [IntWalk.i64_in _ (by omega)]; omega)
      · repeat' (first | exact trivial | exact rfl | exact leF_ptr rfl | exact leF_int rfl | exact leF_bool rfl | exact leF_cl (cl_slB _ _) | exact leF_cl (cl_slR _ _) | exact leF_cl (cl_ll _ _) | exact leF_c (leC_os rfl rfl) | refine leF_int ?_ | refine leF_bool ?_ | exact leN_varA (fun _ _ => (Elem.flat _ _ _).le) | exact leN_varA (fun _ _ => leC_top) | apply And.intro)
    · have e : w = true := by rw [← eW]; exact all_zero fun q hq => h q (by omega)
      rw [e]
      exact Done.mk (leF_bool rfl)
  · refine ⟨rfl, ?_, ?_⟩
    · repeat' (first | exact trivial | exact rfl | exact leF_ptr rfl | exact leF_int rfl | exact leF_bool rfl | exact leF_cl (cl_slB _ _) | exact leF_cl (cl_slR _ _) | exact leF_cl (cl_ll _ _) | exact leF_c (leC_os rfl rfl) | refine leF_int ?_ | refine leF_bool ?_ | exact leN_varA (fun _ _ => (Elem.flat _ _ _).le) | exact leN_varA (fun _ _ => leC_top) | apply And.intro)
      · refine leF_c (leC_sl (fun h => by cases h) ?_ rfl fun q hq c hc => ?_)
        · show (j : Int).toNat - (i : Int).toNat = z.length; omega
        · obtain rfl : c = 0 := by omega
          refine leC_int ?_
          show vget a _ = z.getD q default
          have hq' : q < z.length := by omega
          rw [hz, getD_dt _ _ _ _ (by omega) (by rw [ipL_len]; omega), ipL_get a (by omega)]
          exact congrArg (vget a) (by omega)
      · show (((j : Int).toNat - (i : Int).toNat : Nat) : Int) = z.length
        omega
    · repeat' (first | exact trivial | exact rfl | exact leF_ptr rfl | exact leF_int rfl | exact leF_bool rfl | exact leF_cl (cl_slB _ _) | exact leF_cl (cl_slR _ _) | exact leF_cl (cl_ll _ _) | exact leF_c (leC_os rfl rfl) | refine leF_int ?_ | refine leF_bool ?_ | exact leN_varA (fun _ _ => (Elem.flat _ _ _).le) | exact leN_varA (fun _ _ => leC_top) | apply And.intro)
abbrev zeroE : Entry := pureE (AC.cons (cI .i64) (AC.cons (cI .i64) (AC.cons (cPv (eA .u8 16)) AC.nil))) (fun a => 0 ≤ a.1 ∧ a.1 ≤ a.2.1 ∧ a.2.1 ≤ 16) (fun a => zr a.2.2.1 a.1.toNat a.2.1.toNat) cB.enc
theorem zero_okI (a : Fin 16 → Int) (i j : Int) (h : 0 ≤ i ∧ i ≤ j ∧ j ≤ 16) : PureOk Tryd.prog 79 [(cI .i64).enc i, (cI .i64).enc j, (cPv (eA .u8 16)).enc a] (cB.enc (zr a i.toNat j.toNat)) := by
  obtain ⟨m, rfl⟩ : ∃ m : Nat, i = m := ⟨i.toNat, by omega⟩
  obtain ⟨n, rfl⟩ : ∃ n : Nat, j = n := ⟨j.toNat, by omega⟩
  exact zero_ok a m n (by omega)
def LIh2 : CsL := (79, some zeroE) :: LIh00
theorem LIh2_ok : AllOk Tryd.prog LIh2 := ⟨pureE_ok ⟨_, Tryd.func79, rfl, by kernel_rfl⟩ fun a h => zero_okI a.2.2.1 a.1 a.2.1 h, LIh00_ok⟩
set_option maxHeartbeats 8000000 in
set_option maxRecDepth 20000 in
theorem grp_ok (a : Fin 16 → Int) : PureOk Tryd.prog 49 [(cE (eA .u8 16)).enc a] (encFmG (grpF a)) := by
  obtain ⟨z15, e15⟩ : ∃ x, zr a 2 15 = x := ⟨_, rfl⟩
  obtain ⟨z13, e13⟩ : ∃ x, zr a 2 13 = x := ⟨_, rfl⟩
  obtain ⟨z11, e11⟩ : ∃ x, zr a 2 11 = x := ⟨_, rfl⟩
  obtain ⟨W, eW⟩ : ∃ W, grpF a = W := ⟨_, rfl⟩
  rw [eW]
  unfold grpF at eW
  rw [e15, e13, e11] at eW
  have k1 : vget a (0 + Int.toNat 1 * 1 + 0) = 2 → z15 = true → W = (⟨false, 0, 3⟩, [vget a 15]) := fun h g => by rw [← eW]; exact if_pos ⟨h, g⟩
  have k0 : (¬ vget a (0 + Int.toNat 1 * 1 + 0) = 2 ∨ z15 = false) → ¬ (vget a 1 = 2 ∧ z15 = true) := fun h g => h.elim (fun h => h g.1) (fun h => Bool.noConfusion (h.symm.trans g.2))
  have k2 : (¬ vget a (0 + Int.toNat 1 * 1 + 0) = 2 ∨ z15 = false) → z13 = true → W = (⟨false, 0, 2⟩, [vget a 1, vget a 13, vget a 14, vget a 15]) := fun h g => by rw [← eW, if_neg (k0 h), if_pos g]
  have k3 : (¬ vget a (0 + Int.toNat 1 * 1 + 0) = 2 ∨ z15 = false) → z13 = false → z11 = true → W = (⟨false, 0, 1⟩, [vget a 1, vget a 11, vget a 12, vget a 13, vget a 14, vget a 15]) := fun h g g' => by rw [← eW, if_neg (k0 h), if_neg (fun f => Bool.noConfusion (g.symm.trans f)), if_pos g']
  have k4 : (¬ vget a (0 + Int.toNat 1 * 1 + 0) = 2 ∨ z15 = false) → z13 = false → z11 = false → W = (⟨false, 0, 0⟩, ipL a) := fun h g g' => by rw [← eW, if_neg (k0 h), if_neg (fun f => Bool.noConfusion (g.symm.trans f)), if_neg (fun f => Bool.noConfusion (g'.symm.trans f))]
  clear eW k0
  refine pure_intro (wd := 1) (Q := mkQ LIh2) (by decide) tysOk (q_of LIh2_ok) mixed Tryd.func49 rfl _ (by show 1 ≤ _; decide) _ ?_
  repeat' (first | (apply And.intro <;> intro hc <;> (first | exact Bool.noConfusion hc | (simp only [decide_eq_true_eq, decide_eq_false_iff_not, Bool.not_eq_true', Bool.not_eq_false', beq_iff_eq, beq_eq_false_iff_ne, bne_iff_ne, bne_eq_false_iff_eq, Bool.true_eq_false, Bool.false_eq_true, ne_eq, not_true_eq_false] at hc <;> first | exact absurd rfl hc | skip) | skip)) | (refine And.intro (by first | exact trivial | decide | omega | (dsimp only; omega) | exact fun _ _ => rfl | exact ⟨by assumption, by first | exact trivial | decide | omega | (dsimp only; omega)⟩) ?_) | (apply And.intro) | (intro s hs; (first | (have q : z15 = s := (hs.trans ((congrArg (fun b => zr b 2 15) (eA_rd (k := .u8) a)).trans e15)).symm; clear hs; subst q) | (have q : z13 = s := (hs.trans ((congrArg (fun b => zr b 2 13) (eA_rd (k := .u8) a)).trans e13)).symm; clear hs; subst q) | (have q : z11 = s := (hs.trans ((congrArg (fun b => zr b 2 11) (eA_rd (k := .u8) a)).trans e11)).symm; clear hs; subst q))))
  all_goals first
    | (rw [k1 (by assumption) (by assumption)]
       refine Done.mk (leF_e (leE_tail rfl (fun j hj => ?_) (leC_os_is (l := [vget a 15]) rfl rfl rfl rfl (Nat.le_of_eq rfl) ⟨fun k hk => ?_⟩)))
       · iterate 3 (rcases j with _ | j; (first | exact leC_int rfl | exact leC_bool rfl))
         exact absurd hj (by show ¬ _ < 3; omega)
       · iterate 1 (rcases k with _ | k; exact rfl)
         exact absurd hk (by show ¬ _ < 1; omega))
    | (rw [k2 (.inl (by assumption)) (by assumption)]
       refine Done.mk (leF_e (leE_tail rfl (fun j hj => ?_) (leC_os_is (l := [vget a 1, vget a 13, vget a 14, vget a 15]) rfl rfl rfl rfl (Nat.le_of_eq rfl) ⟨fun k hk => ?_⟩)))
       · iterate 3 (rcases j with _ | j; (first | exact leC_int rfl | exact leC_bool rfl))
         exact absurd hj (by show ¬ _ < 3; omega)
       · iterate 4 (rcases k with _ | k; exact rfl)
         exact absurd hk (by show ¬ _ < 4; omega))
    | (rw [k3 (.inl (by assumption)) (by assumption) (by assumption)]
       refine Done.mk (leF_e (leE_tail rfl (fun j hj => ?_) (leC_os_is (l := [vget a 1, vget a 11, vget a 12, vget a 13, vget a 14, vget a 15]) rfl rfl rfl rfl (Nat.le_of_eq rfl) ⟨fun k hk => ?_⟩)))
       · iterate 3 (rcases j with _ | j; (first | exact leC_int rfl | exact leC_bool rfl))
         exact absurd hj (by show ¬ _ < 3; omega)
       · iterate 6 (rcases k with _ | k; exact rfl)
         exact absurd hk (by show ¬ _ < 6; omega))
    | (rw [k4 (.inl (by assumption)) (by assumption) (by assumption)]
       refine Done.mk (leF_e (leE_tail rfl (fun j hj => ?_) (leC_os_is (l := ipL a) rfl rfl rfl rfl (Nat.le_of_eq rfl) ⟨fun k hk => ?_⟩)))
       · iterate 3 (rcases j with _ | j; (first | exact leC_int rfl | exact leC_bool rfl))
         exact absurd hj (by show ¬ _ < 3; omega)
       · iterate 16 (rcases k with _ | k; exact rfl)
         exact absurd hk (by show ¬ _ < 16; omega))
    | (rw [k2 (.inr (by assumption)) (by assumption)]
       refine Done.mk (leF_e (leE_tail rfl (fun j hj => ?_) (leC_os_is (l := [vget a 1, vget a 13, vget a 14, vget a 15]) rfl rfl rfl rfl (Nat.le_of_eq rfl) ⟨fun k hk => ?_⟩)))
       · iterate 3 (rcases j with _ | j; (first | exact leC_int rfl | exact leC_bool rfl))
         exact absurd hj (by show ¬ _ < 3; omega)
       · iterate 4 (rcases k with _ | k; exact rfl)
         exact absurd hk (by show ¬ _ < 4; omega))
    | (rw [k3 (.inr (by assumption)) (by assumption) (by assumption)]
       refine Done.mk (leF_e (leE_tail rfl (fun j hj => ?_) (leC_os_is (l := [vget a 1, vget a 11, vget a 12, vget a 13, vget a 14, vget a 15]) rfl rfl rfl rfl (Nat.le_of_eq rfl) ⟨fun k hk => ?_⟩)))
       · iterate 3 (rcases j with _ | j; (first | exact leC_int rfl | exact leC_bool rfl))
         exact absurd hj (by show ¬ _ < 3; omega)
       · iterate 6 (rcases k with _ | k; exact rfl)
         exact absurd hk (by show ¬ _ < 6; omega))
    | (rw [k4 (.inr (by assumption)) (by assumption) (by assumption)]
       refine Done.mk (leF_e (leE_tail rfl (fun j hj => ?_) (leC_os_is (l := ipL a) rfl rfl rfl rfl (Nat.le_of_eq rfl) ⟨fun k hk => ?_⟩)))
       · iterate 3 (rcases j with _ | j; (first | exact leC_int rfl | exact leC_bool rfl))
         exact absurd hj (by show ¬ _ < 3; omega)
       · iterate 16 (rcases k with _ | k; exact rfl)
         exact absurd hk (by show ¬ _ < 16; omega))
    | skip
theorem check_ok (f t : Adr) (l : List Ctx) (now : Int) (hl : l.length ≤ 9223372036854775807) : PureOk Tryd.prog 45 [(cE eAdr).enc f, (cE eAdr).enc t, (cSl eCtx eCtx_sz).enc l, (cI .i64).enc now] ((cI .i64).enc (checkF f t l now)) := by
  obtain ⟨x, ex⟩ : ∃ x, adrValid f = x := ⟨_, rfl⟩
  obtain ⟨y, ey⟩ : ∃ x, adrValid t = x := ⟨_, rfl⟩
  obtain ⟨z, ez⟩ : ∃ x, validT l = x := ⟨_, rfl⟩
  obtain ⟨W, eW⟩ : ∃ W, checkF f t l now = W := ⟨_, rfl⟩
  rw [eW]
  unfold checkF vt at eW
  rw [ex, ey, ez] at eW
  have g1 : True := trivial
  have g2 : True := trivial
  refine pure_intro (wd := 1) (Q := mkQ LIh2) (by decide) tysOk (q_of LIh2_ok) mixed Tryd.func45 rfl _ (by show 4 ≤ _; decide) _ ?_
  repeat' (first | (apply And.intro <;> intro hc <;> (first | exact Bool.noConfusion hc | (simp only [decide_eq_true_eq, decide_eq_false_iff_not, Bool.not_eq_true', Bool.not_eq_false', beq_iff_eq, beq_eq_false_iff_ne, bne_iff_ne, bne_eq_false_iff_eq, Bool.true_eq_false, Bool.false_eq_true, ne_eq, not_true_eq_false] at hc <;> first | exact absurd rfl hc | skip) | skip)) | (refine And.intro (by first | exact trivial | decide | omega | (dsimp only; omega) | exact fun _ _ => rfl | exact ⟨by assumption, by first | exact trivial | decide | omega | (dsimp only; omega)⟩) ?_) | (apply And.intro) | (intro s hs; (first | (clear g1; have q : x = s := (hs.trans ((congrArg adrValid (rd_adr f)).trans ex)).symm; clear hs; subst q) | (clear g2; have q : y = s := (hs.trans ((congrArg adrValid (rd_adr t)).trans ey)).symm; clear hs; subst q) | (have q : z = s := (hs.trans ((congrArg validT (toL_ctx l)).trans ez)).symm; clear hs; subst q))))
  all_goals first
    | (show (toL eCtx l.length _).length ≤ _; rw [toL_len]; exact hl)
    | (refine Done.mk (leF_int ?_)
       rw [← eW]
       simp [*]
       done)
    | (refine Done.mk (leF_int ?_)
       rw [← eW]
       simp [*]
       omega)
    | skip
abbrev encIS (r : Int × List Int) : FV := .tup [.c (.int .i64 r.1), .c (slR eB r.2)]
end Go.Proofs.YtjknkfjhcapocaaDoor.AX

/- Layer 14 by AX2: fields of the program. (Printed by gen/ihfields.py.) -/
namespace Go.Proofs.YtjknkfjhcapocaaDoor.AX
open Go.RowKit
set_option linter.unusedVariables false
set_option linter.unusedSimpArgs false
theorem len3 {l : List Int} (h : l.length = 3) : ∃ x y z, l = [x, y, z] := by
  rcases l with _ | ⟨x, _ | ⟨y, _ | ⟨z, _ | ⟨v, l⟩⟩⟩⟩
  all_goals first
    | exact ⟨_, _, _, rfl⟩
    | (simp at h; done)
    | (simp at h; omega)
set_option maxHeartbeats 8000000 in
set_option maxRecDepth 20000 in
theorem fields_17 (p : Pkt) (hf : 0 ≤ p.1.flow ∧ p.1.flow < 4294967296) (hn : p.1.nxt = 17) : PureOk Tryd.prog 46 [cPk.enc p] (encIS (firstF p, inlF p)) := by
  have w1 : IntKind.u64.wrap p.1.flow = p.1.flow := IntWalk.u64_in _ (by omega)
  obtain ⟨f1, f2, f3, e3⟩ := len3 (beB_n p.1.flow 3 (by decide))
  have e3' : beB p.1.flow 3 = [f1, f2, f3] := e3
  have eF : beB (IntKind.u64.wrap p.1.flow) 3 = [f1, f2, f3] := by rw [w1]; exact e3
  have c0 : ¬ p.1.cls = 0 → ¬ p.1.flow = 0 → flowF p = (0, [p.1.cls, f1, f2, f3]) := fun h g => by unfold flowF; rw [if_pos ⟨h, g⟩, e3']; rfl
  have c1 : p.1.cls = 0 → ¬ p.1.flow = 0 → flowF p = (1, [f1, f2, f3]) := fun h g => by unfold flowF; rw [if_neg (fun x => x.1 h), if_pos g, e3']; rfl
  have c2 : p.1.flow = 0 → ¬ p.1.cls = 0 → flowF p = (2, [p.1.cls]) := fun h g => by unfold flowF; rw [if_neg (fun x => x.2 h), if_neg (fun x => x h), if_pos g]
  have c3 : p.1.flow = 0 → p.1.cls = 0 → flowF p = (3, []) := fun h g => by unfold flowF; rw [if_neg (fun x => x.2 h), if_neg (fun x => x h), if_neg (fun x => x g)]
  have h1 : p.1.hops = 1 → hopF p.1.hops = 1 := fun h => by rw [h]; rfl
  have h2 : p.1.hops = 64 → hopF p.1.hops = 2 := fun h => by rw [h]; rfl
  have h3 : p.1.hops = 255 → hopF p.1.hops = 3 := fun h => by rw [h]; rfl
  have h0 : ¬ p.1.hops = 1 → ¬ p.1.hops = 64 → ¬ p.1.hops = 255 → hopF p.1.hops = 0 := fun a b c => by unfold hopF; rw [if_neg a, if_neg b, if_neg c]
  have eb : bitV (decide (p.1.nxt = 17)) 4 = 4 := by unfold bitV; rw [decide_eq_true hn]; rfl
  obtain ⟨W, eW⟩ : ∃ W, (firstF p, inlF p) = W := ⟨_, rfl⟩
  have hW : W = (96 + 8 * (flowF p).1 + 4 + hopF p.1.hops, (flowF p).2 ++ [] ++ (if hopF p.1.hops = 0 then [p.1.hops] else [])) := by
    rw [← eW]
    unfold firstF inlF
    rw [eb, if_pos hn]
  rw [eW]
  clear eW e3 e3' w1
  refine pure_intro (wd := 1) (Q := mkQ LIh2) (by decide) tysOk (q_of LIh2_ok) mixed Tryd.func46 rfl _ (by show 1 ≤ _; decide) _ ?_
  repeat' (first | (apply And.intro <;> intro hc <;> (first | exact Bool.noConfusion hc | (exfalso; first | exact absurd hn hc | exact absurd hc hn | exact absurd (by assumption : p.1.flow = 0) hc | exact absurd hc (by assumption : ¬ p.1.flow = 0) | exact absurd (by assumption : p.1.cls = 0) hc | exact absurd hc (by assumption : ¬ p.1.cls = 0)) | (simp only [decide_eq_true_eq, decide_eq_false_iff_not, Bool.not_eq_true', Bool.not_eq_false', beq_iff_eq, beq_eq_false_iff_ne, bne_iff_ne, bne_eq_false_iff_eq, Bool.true_eq_false, Bool.false_eq_true, ne_eq, not_true_eq_false] at hc <;> first | exact absurd rfl hc | (exfalso; first | exact absurd hn hc | exact absurd hc hn | exact absurd (by assumption : p.1.flow = 0) hc | exact absurd hc (by assumption : ¬ p.1.flow = 0) | exact absurd (by assumption : p.1.cls = 0) hc | exact absurd hc (by assumption : ¬ p.1.cls = 0)) | skip) | skip)) | (refine And.intro (by first | exact trivial | decide | omega | (dsimp only; omega) | exact fun _ _ => rfl | exact ⟨by assumption, by first | exact trivial | decide | omega | (dsimp only; omega)⟩) ?_) | (apply And.intro) | (intro s hs; (first | (have q : s = 4 := hs.trans eb; clear hs; subst q) | (have q : s = [p.1.cls, f1, f2, f3] := hs.trans (congrArg ([p.1.cls] ++ ·) eF); clear hs; subst q) | (have q : s = [f1, f2, f3] := hs.trans eF; clear hs; subst q) | skip)))
  all_goals try (first | exact Nat.le_refl _ | exact rfl | exact Nat.le_of_ble_eq_true rfl | exact Nat.zero_le _ | (show (toL eB _ _).length ≤ _; rw [toL_len]; decide))
  all_goals first
    | (have e := hW
       rw [c0 (by assumption) (by assumption), h1 (by assumption)] at e
       rw [e]
       refine Done.mk (leF_tup ⟨leC_int rfl, ?_, trivial⟩)
       first
         | exact leC_nils_sl rfl
         | (refine leC_os_is rfl rfl rfl rfl (Nat.le_of_eq rfl) ⟨fun k hk => ?_⟩
            rcases k with _ | _ | _ | _ | _ | _ | k
            all_goals first
              | exact rfl
              | exact Bool.noConfusion ((Nat.ble_eq_true_of_le hk).symm.trans (rfl : Nat.ble _ _ = false))
              | exact absurd hk (Nat.not_lt.2 (Nat.le_trans (Nat.le_of_ble_eq_true rfl : _ ≤ 6) (by omega)))))
    | (have e := hW
       rw [c0 (by assumption) (by assumption), h2 (by assumption)] at e
       rw [e]
       refine Done.mk (leF_tup ⟨leC_int rfl, ?_, trivial⟩)
       first
         | exact leC_nils_sl rfl
         | (refine leC_os_is rfl rfl rfl rfl (Nat.le_of_eq rfl) ⟨fun k hk => ?_⟩
            rcases k with _ | _ | _ | _ | _ | _ | k
            all_goals first
              | exact rfl
              | exact Bool.noConfusion ((Nat.ble_eq_true_of_le hk).symm.trans (rfl : Nat.ble _ _ = false))
              | exact absurd hk (Nat.not_lt.2 (Nat.le_trans (Nat.le_of_ble_eq_true rfl : _ ≤ 6) (by omega)))))
    | (have e := hW
       rw [c0 (by assumption) (by assumption), h3 (by assumption)] at e
       rw [e]
       refine Done.mk (leF_tup ⟨leC_int rfl, ?_, trivial⟩)
       first
         | exact leC_nils_sl rfl
         | (refine leC_os_is rfl rfl rfl rfl (Nat.le_of_eq rfl) ⟨fun k hk => ?_⟩
            rcases k with _ | _ | _ | _ | _ | _ | k
            all_goals first
              | exact rfl
              | exact Bool.noConfusion ((Nat.ble_eq_true_of_le hk).symm.trans (rfl : Nat.ble _ _ = false))
              | exact absurd hk (Nat.not_lt.2 (Nat.le_trans (Nat.le_of_ble_eq_true rfl : _ ≤ 6) (by omega)))))
    | (have e := hW
       rw [c0 (by assumption) (by assumption), h0 (by assumption) (by assumption) (by assumption)] at e
       rw [e]
       refine Done.mk (leF_tup ⟨leC_int rfl, ?_, trivial⟩)
       first
         | exact leC_nils_sl rfl
         | (refine leC_os_is rfl rfl rfl rfl (Nat.le_of_eq rfl) ⟨fun k hk => ?_⟩
            rcases k with _ | _ | _ | _ | _ | _ | k
            all_goals first
              | exact rfl
              | exact Bool.noConfusion ((Nat.ble_eq_true_of_le hk).symm.trans (rfl : Nat.ble _ _ = false))
              | exact absurd hk (Nat.not_lt.2 (Nat.le_trans (Nat.le_of_ble_eq_true rfl : _ ≤ 6) (by omega)))))
    | (have e := hW
       rw [c1 (by assumption) (by assumption), h1 (by assumption)] at e
       rw [e]
       refine Done.mk (leF_tup ⟨leC_int rfl, ?_, trivial⟩)
       first
         | exact leC_nils_sl rfl
         | (refine leC_os_is rfl rfl rfl rfl (Nat.le_of_eq rfl) ⟨fun k hk => ?_⟩
            rcases k with _ | _ | _ | _ | _ | _ | k
            all_goals first
              | exact rfl
              | exact Bool.noConfusion ((Nat.ble_eq_true_of_le hk).symm.trans (rfl : Nat.ble _ _ = false))
              | exact absurd hk (Nat.not_lt.2 (Nat.le_trans (Nat.le_of_ble_eq_true rfl : _ ≤ 6) (by omega)))))
    | (have e := hW
       rw [c1 (by assumption) (by assumption), h2 (by assumption)] at e
       rw [e]
       refine Done.mk (leF_tup ⟨leC_int rfl, ?_, trivial⟩)
       first
         | exact leC_nils_sl rfl
         | (refine leC_os_is rfl rfl rfl rfl (Nat.le_of_eq rfl) ⟨fun k hk => ?_⟩
            rcases k with _ | _ | _ | _ | _ | _ | k
            all_goals first
              | exact rfl
              | exact Bool.noConfusion ((Nat.ble_eq_true_of_le hk).symm.trans (rfl : Nat.ble _ _ = false))
              | exact absurd hk (Nat.not_lt.2 (Nat.le_trans (Nat.le_of_ble_eq_true rfl : _ ≤ 6) (by omega)))))
    | (have e := hW
       rw [c1 (by assumption) (by assumption), h3 (by assumption)] at e
       rw [e]
       refine Done.mk (leF_tup ⟨leC_int rfl, ?_, trivial⟩)
       first
         | exact leC_nils_sl rfl
         | (refine leC_os_is rfl rfl rfl rfl (Nat.le_of_eq rfl) ⟨fun k hk => ?_⟩
            rcases k with _ | _ | _ | _ | _ | _ | k
            all_goals first
              | exact rfl
              | exact Bool.noConfusion ((Nat.ble_eq_true_of_le hk).symm.trans (rfl : Nat.ble _ _ = false))
              | exact absurd hk (Nat.not_lt.2 (Nat.le_trans (Nat.le_of_ble_eq_true rfl : _ ≤ 6) (by omega)))))
    | (have e := hW
       rw [c1 (by assumption) (by assumption), h0 (by assumption) (by assumption) (by assumption)] at e
       rw [e]
       refine Done.mk (leF_tup ⟨leC_int rfl, ?_, trivial⟩)
       first
         | exact leC_nils_sl rfl
         | (refine leC_os_is rfl rfl rfl rfl (Nat.le_of_eq rfl) ⟨fun k hk => ?_⟩
            rcases k with _ | _ | _ | _ | _ | _ | k
            all_goals first
              | exact rfl
              | exact Bool.noConfusion ((Nat.ble_eq_true_of_le hk).symm.trans (rfl : Nat.ble _ _ = false))
              | exact absurd hk (Nat.not_lt.2 (Nat.le_trans (Nat.le_of_ble_eq_true rfl : _ ≤ 6) (by omega)))))
    | (have e := hW
       rw [c2 (by assumption) (by assumption), h1 (by assumption)] at e
       rw [e]
       refine Done.mk (leF_tup ⟨leC_int rfl, ?_, trivial⟩)
       first
         | exact leC_nils_sl rfl
         | (refine leC_os_is rfl rfl rfl rfl (Nat.le_of_eq rfl) ⟨fun k hk => ?_⟩
            rcases k with _ | _ | _ | _ | _ | _ | k
            all_goals first
              | exact rfl
              | exact Bool.noConfusion ((Nat.ble_eq_true_of_le hk).symm.trans (rfl : Nat.ble _ _ = false))
              | exact absurd hk (Nat.not_lt.2 (Nat.le_trans (Nat.le_of_ble_eq_true rfl : _ ≤ 6) (by omega)))))
    | (have e := hW
       rw [c2 (by assumption) (by assumption), h2 (by assumption)] at e
       rw [e]
       refine Done.mk (leF_tup ⟨leC_int rfl, ?_, trivial⟩)
       first
         | exact leC_nils_sl rfl
         | (refine leC_os_is rfl rfl rfl rfl (Nat.le_of_eq rfl) ⟨fun k hk => ?_⟩
            rcases k with _ | _ | _ | _ | _ | _ | k
            all_goals first
              | exact rfl
              | exact Bool.noConfusion ((Nat.ble_eq_true_of_le hk).symm.trans (rfl : Nat.ble _ _ = false))
              | exact absurd hk (Nat.not_lt.2 (Nat.le_trans (Nat.le_of_ble_eq_true rfl : _ ≤ 6) (by omega)))))
    | (have e := hW
       rw [c2 (by assumption) (by assumption), h3 (by assumption)] at e
       rw [e]
       refine Done.mk (leF_tup ⟨leC_int rfl, ?_, trivial⟩)
       first
         | exact leC_nils_sl rfl
         | (refine leC_os_is rfl rfl rfl rfl (Nat.le_of_eq rfl) ⟨fun k hk => ?_⟩
            rcases k with _ | _ | _ | _ | _ | _ | k
            all_goals first
              | exact rfl
              | exact Bool.noConfusion ((Nat.ble_eq_true_of_le hk).symm.trans (rfl : Nat.ble _ _ = false))
              | exact absurd hk (Nat.not_lt.2 (Nat.le_trans (Nat.le_of_ble_eq_true rfl : _ ≤ 6) (by omega)))))
    | (have e := hW
       rw [c2 (by assumption) (by assumption), h0 (by assumption) (by assumption) (by assumption)] at e
       rw [e]
       refine Done.mk (leF_tup ⟨leC_int rfl, ?_, trivial⟩)
       first
         | exact leC_nils_sl rfl
         | (refine leC_os_is rfl rfl rfl rfl (Nat.le_of_eq rfl) ⟨fun k hk => ?_⟩
            rcases k with _ | _ | _ | _ | _ | _ | k
            all_goals first
              | exact rfl
              | exact Bool.noConfusion ((Nat.ble_eq_true_of_le hk).symm.trans (rfl : Nat.ble _ _ = false))
              | exact absurd hk (Nat.not_lt.2 (Nat.le_trans (Nat.le_of_ble_eq_true rfl : _ ≤ 6) (by omega)))))
    | (have e := hW
       rw [c3 (by assumption) (by assumption), h1 (by assumption)] at e
       rw [e]
       refine Done.mk (leF_tup ⟨leC_int rfl, ?_, trivial⟩)
       first
         | exact leC_nils_sl rfl
         | (refine leC_os_is rfl rfl rfl rfl (Nat.le_of_eq rfl) ⟨fun k hk => ?_⟩
            rcases k with _ | _ | _ | _ | _ | _ | k
            all_goals first
              | exact rfl
              | exact Bool.noConfusion ((Nat.ble_eq_true_of_le hk).symm.trans (rfl : Nat.ble _ _ = false))
              | exact absurd hk (Nat.not_lt.2 (Nat.le_trans (Nat.le_of_ble_eq_true rfl : _ ≤ 6) (by omega)))))
    | (have e := hW
       rw [c3 (by assumption) (by assumption), h2 (by assumption)] at e
       rw [e]
       refine Done.mk (leF_tup ⟨leC_int rfl, ?_, trivial⟩)
       first
         | exact leC_nils_sl rfl
         | (refine leC_os_is rfl rfl rfl rfl (Nat.le_of_eq rfl) ⟨fun k hk => ?_⟩
            rcases k with _ | _ | _ | _ | _ | _ | k
            all_goals first
              | exact rfl
              | exact Bool.noConfusion ((Nat.ble_eq_true_of_le hk).symm.trans (rfl : Nat.ble _ _ = false))
              | exact absurd hk (Nat.not_lt.2 (Nat.le_trans (Nat.le_of_ble_eq_true rfl : _ ≤ 6) (by omega)))))
    | (have e := hW
       rw [c3 (by assumption) (by assumption), h3 (by assumption)] at e
       rw [e]
       refine Done.mk (leF_tup ⟨leC_int rfl, ?_, trivial⟩)
       first
         | exact leC_nils_sl rfl
         | (refine leC_os_is rfl rfl rfl rfl (Nat.le_of_eq rfl) ⟨fun k hk => ?_⟩
            rcases k with _ | _ | _ | _ | _ | _ | k
            all_goals first
              | exact rfl
              | exact Bool.noConfusion ((Nat.ble_eq_true_of_le hk).symm.trans (rfl : Nat.ble _ _ = false))
              | exact absurd hk (Nat.not_lt.2 (Nat.le_trans (Nat.le_of_ble_eq_true rfl : _ ≤ 6) (by omega)))))
    | (have e := hW
       rw [c3 (by assumption) (by assumption), h0 (by assumption) (by assumption) (by assumption)] at e
       rw [e]
       refine Done.mk (leF_tup ⟨leC_int rfl, ?_, trivial⟩)
       first
         | exact leC_nils_sl rfl
         | (refine leC_os_is rfl rfl rfl rfl (Nat.le_of_eq rfl) ⟨fun k hk => ?_⟩
            rcases k with _ | _ | _ | _ | _ | _ | k
            all_goals first
              | exact rfl
              | exact Bool.noConfusion ((Nat.ble_eq_true_of_le hk).symm.trans (rfl : Nat.ble _ _ = false))
              | exact absurd hk (Nat.not_lt.2 (Nat.le_trans (Nat.le_of_ble_eq_true rfl : _ ≤ 6) (by omega)))))
    | skip
set_option maxHeartbeats 8000000 in
set_option maxRecDepth 20000 in
theorem fields_no (p : Pkt) (hf : 0 ≤ p.1.flow ∧ p.1.flow < 4294967296) (hn : ¬ p.1.nxt = 17) : PureOk Tryd.prog 46 [cPk.enc p] (encIS (firstF p, inlF p)) := by
  have w1 : IntKind.u64.wrap p.1.flow = p.1.flow := IntWalk.u64_in _ (by omega)
  obtain ⟨f1, f2, f3, e3⟩ := len3 (beB_n p.1.flow 3 (by decide))
  have e3' : beB p.1.flow 3 = [f1, f2, f3] := e3
  have eF : beB (IntKind.u64.wrap p.1.flow) 3 = [f1, f2, f3] := by rw [w1]; exact e3
  have c0 : ¬ p.1.cls = 0 → ¬ p.1.flow = 0 → flowF p = (0, [p.1.cls, f1, f2, f3]) := fun h g => by unfold flowF; rw [if_pos ⟨h, g⟩, e3']; rfl
  have c1 : p.1.cls = 0 → ¬ p.1.flow = 0 → flowF p = (1, [f1, f2, f3]) := fun h g => by unfold flowF; rw [if_neg (fun x => x.1 h), if_pos g, e3']; rfl
  have c2 : p.1.flow = 0 → ¬ p.1.cls = 0 → flowF p = (2, [p.1.cls]) := fun h g => by unfold flowF; rw [if_neg (fun x => x.2 h), if_neg (fun x => x h), if_pos g]
  have c3 : p.1.flow = 0 → p.1.cls = 0 → flowF p = (3, []) := fun h g => by unfold flowF; rw [if_neg (fun x => x.2 h), if_neg (fun x => x h), if_neg (fun x => x g)]
  have h1 : p.1.hops = 1 → hopF p.1.hops = 1 := fun h => by rw [h]; rfl
  have h2 : p.1.hops = 64 → hopF p.1.hops = 2 := fun h => by rw [h]; rfl
  have h3 : p.1.hops = 255 → hopF p.1.hops = 3 := fun h => by rw [h]; rfl
  have h0 : ¬ p.1.hops = 1 → ¬ p.1.hops = 64 → ¬ p.1.hops = 255 → hopF p.1.hops = 0 := fun a b c => by unfold hopF; rw [if_neg a, if_neg b, if_neg c]
  have eb : bitV (decide (p.1.nxt = 17)) 4 = 0 := by unfold bitV; rw [decide_eq_false hn]; rfl
  obtain ⟨W, eW⟩ : ∃ W, (firstF p, inlF p) = W := ⟨_, rfl⟩
  have hW : W = (96 + 8 * (flowF p).1 + 0 + hopF p.1.hops, (flowF p).2 ++ [p.1.nxt] ++ (if hopF p.1.hops = 0 then [p.1.hops] else [])) := by
    rw [← eW]
    unfold firstF inlF
    rw [eb, if_neg hn]
  rw [eW]
  clear eW e3 e3' w1
  refine pure_intro (wd := 1) (Q := mkQ LIh2) (by decide) tysOk (q_of LIh2_ok) mixed Tryd.func46 rfl _ (by show 1 ≤ _; decide) _ ?_
  repeat' (first | (apply And.intro <;> intro hc <;> (first | exact Bool.noConfusion hc | (exfalso; first | exact absurd hn hc | exact absurd hc hn | exact absurd (by assumption : p.1.flow = 0) hc | exact absurd hc (by assumption : ¬ p.1.flow = 0) | exact absurd (by assumption : p.1.cls = 0) hc | exact absurd hc (by assumption : ¬ p.1.cls = 0)) | (simp only [decide_eq_true_eq, decide_eq_false_iff_not, Bool.not_eq_true', Bool.not_eq_false', beq_iff_eq, beq_eq_false_iff_ne, bne_iff_ne, bne_eq_false_iff_eq, Bool.true_eq_false, Bool.false_eq_true, ne_eq, not_true_eq_false] at hc <;> first | exact absurd rfl hc | (exfalso; first | exact absurd hn hc | exact absurd hc hn | exact absurd (by assumption : p.1.flow = 0) hc | exact absurd hc (by assumption : ¬ p.1.flow = 0) | exact absurd (by assumption : p.1.cls = 0) hc | exact absurd hc (by assumption : ¬ p.1.cls = 0)) | skip) | skip)) | (refine And.intro (by first | exact trivial | decide | omega | (dsimp only; omega) | exact fun _ _ => rfl | exact ⟨by assumption, by first | exact trivial | decide | omega | (dsimp only; omega)⟩) ?_) | (apply And.intro) | (intro s hs; (first | (have q : s = 0 := hs.trans eb; clear hs; subst q) | (have q : s = [p.1.cls, f1, f2, f3] := hs.trans (congrArg ([p.1.cls] ++ ·) eF); clear hs; subst q) | (have q : s = [f1, f2, f3] := hs.trans eF; clear hs; subst q) | skip)))
  all_goals try (first | exact Nat.le_refl _ | exact rfl | exact Nat.le_of_ble_eq_true rfl | exact Nat.zero_le _ | (show (toL eB _ _).length ≤ _; rw [toL_len]; decide))
  all_goals first
    | (have e := hW
       rw [c0 (by assumption) (by assumption), h1 (by assumption)] at e
       rw [e]
       refine Done.mk (leF_tup ⟨leC_int rfl, ?_, trivial⟩)
       first
         | exact leC_nils_sl rfl
         | (refine leC_os_is rfl rfl rfl rfl (Nat.le_of_eq rfl) ⟨fun k hk => ?_⟩
            rcases k with _ | _ | _ | _ | _ | _ | k
            all_goals first
              | exact rfl
              | exact Bool.noConfusion ((Nat.ble_eq_true_of_le hk).symm.trans (rfl : Nat.ble _ _ = false))
              | exact absurd hk (Nat.not_lt.2 (Nat.le_trans (Nat.le_of_ble_eq_true rfl : _ ≤ 6) (by omega)))))
    | (have e := hW
       rw [c0 (by assumption) (by assumption), h2 (by assumption)] at e
       rw [e]
       refine Done.mk (leF_tup ⟨leC_int rfl, ?_, trivial⟩)
       first
         | exact leC_nils_sl rfl
         | (refine leC_os_is rfl rfl rfl rfl (Nat.le_of_eq rfl) ⟨fun k hk => ?_⟩
            rcases k with _ | _ | _ | _ | _ | _ | k
            all_goals first
              | exact rfl
              | exact Bool.noConfusion ((Nat.ble_eq_true_of_le hk).symm.trans (rfl : Nat.ble _ _ = false))
              | exact absurd hk (Nat.not_lt.2 (Nat.le_trans (Nat.le_of_ble_eq_true rfl : _ ≤ 6) (by omega)))))
    | (have e := hW
       rw [c0 (by assumption) (by assumption), h3 (by assumption)] at e
       rw [e]
       refine Done.mk (leF_tup ⟨leC_int rfl, ?_, trivial⟩)
       first
         | exact leC_nils_sl rfl
         | (refine leC_os_is rfl rfl rfl rfl (Nat.le_of_eq rfl) ⟨fun k hk => ?_⟩
            rcases k with _ | _ | _ | _ | _ | _ | k
            all_goals first
              | exact rfl
              | exact Bool.noConfusion ((Nat.ble_eq_true_of_le hk).symm.trans (rfl : Nat.ble _ _ = false))
              | exact absurd hk (Nat.not_lt.2 (Nat.le_trans (Nat.le_of_ble_eq_true rfl : _ ≤ 6) (by omega)))))
    | (have e := hW
       rw [c0 (by assumption) (by assumption), h0 (by assumption) (by assumption) (by assumption)] at e
       rw [e]
       refine Done.mk (leF_tup ⟨leC_int rfl, ?_, trivial⟩)
       first
         | exact leC_nils_sl rfl
         | (refine leC_os_is rfl rfl rfl rfl (Nat.le_of_eq rfl) ⟨fun k hk => ?_⟩
            rcases k with _ | _ | _ | _ | _ | _ | k
            all_goals first
              | exact rfl
              | exact Bool.noConfusion ((Nat.ble_eq_true_of_le hk).symm.trans (rfl : Nat.ble _ _ = false))
              | exact absurd hk (Nat.not_lt.2 (Nat.le_trans (Nat.le_of_ble_eq_true rfl : _ ≤ 6) (by omega)))))
    | (have e := hW
       rw [c1 (by assumption) (by assumption), h1 (by assumption)] at e
       rw [e]
       refine Done.mk (leF_tup ⟨leC_int rfl, ?_, trivial⟩)
       first
         | exact leC_nils_sl rfl
         | (refine leC_os_is rfl rfl rfl rfl (Nat.le_of_eq rfl) ⟨fun k hk => ?_⟩
            rcases k with _ | _ | _ | _ | _ | _ | k
            all_goals first
              | exact rfl
              | exact Bool.noConfusion ((Nat.ble_eq_true_of_le hk).symm.trans (rfl : Nat.ble _ _ = false))
              | exact absurd hk (Nat.not_lt.2 (Nat.le_trans (Nat.le_of_ble_eq_true rfl : _ ≤ 6) (by omega)))))
    | (have e := hW
       rw [c1 (by assumption) (by assumption), h2 (by assumption)] at e
       rw [e]
       refine Done.mk (leF_tup ⟨leC_int rfl, ?_, trivial⟩)
       first
         | exact leC_nils_sl rfl
         | (refine leC_os_is rfl rfl rfl rfl (Nat.le_of_eq rfl) ⟨fun k hk => ?_⟩
            rcases k with _ | _ | _ | _ | _ | _ | k
            all_goals first
              | exact rfl
              | exact Bool.noConfusion ((Nat.ble_eq_true_of_le hk).symm.trans (rfl : Nat.ble _ _ = false))
              | exact absurd hk (Nat.not_lt.2 (Nat.le_trans (Nat.le_of_ble_eq_true rfl : _ ≤ 6) (by omega)))))
    | (have e := hW
       rw [c1 (by assumption) (by assumption), h3 (by assumption)] at e
       rw [e]
       refine Done.mk (leF_tup ⟨leC_int rfl, ?_, trivial⟩)
       first
         | exact leC_nils_sl rfl
         | (refine leC_os_is rfl rfl rfl rfl (Nat.le_of_eq rfl) ⟨fun k hk => ?_⟩
            rcases k with _ | _ | _ | _ | _ | _ | k
            all_goals first
              | exact rfl
              | exact Bool.noConfusion ((Nat.ble_eq_true_of_le hk).symm.trans (rfl : Nat.ble _ _ = false))
              | exact absurd hk (Nat.not_lt.2 (Nat.le_trans (Nat.le_of_ble_eq_true rfl : _ ≤ 6) (by omega)))))
    | (have e := hW
       rw [c1 (by assumption) (by assumption), h0 (by assumption) (by assumption) (by assumption)] at e
       rw [e]
       refine Done.mk (leF_tup ⟨leC_int rfl, ?_, trivial⟩)
       first
         | exact leC_nils_sl rfl
         | (refine leC_os_is rfl rfl rfl rfl (Nat.le_of_eq rfl) ⟨fun k hk => ?_⟩
            rcases k with _ | _ | _ | _ | _ | _ | k
            all_goals first
              | exact rfl
              | exact Bool.noConfusion ((Nat.ble_eq_true_of_le hk).symm.trans (rfl : Nat.ble _ _ = false))
              | exact absurd hk (Nat.not_lt.2 (Nat.le_trans (Nat.le_of_ble_eq_true rfl : _ ≤ 6) (by omega)))))
    | (have e := hW
       rw [c2 (by assumption) (by assumption), h1 (by assumption)] at e
       rw [e]
       refine Done.mk (leF_tup ⟨leC_int rfl, ?_, trivial⟩)
       first
         | exact leC_nils_sl rfl
         | (refine leC_os_is rfl rfl rfl rfl (Nat.le_of_eq rfl) ⟨fun k hk => ?_⟩
            rcases k with _ | _ | _ | _ | _ | _ | k
            all_goals first
              | exact rfl
              | exact Bool.noConfusion ((Nat.ble_eq_true_of_le hk).symm.trans (rfl : Nat.ble _ _ = false))
              | exact absurd hk (Nat.not_lt.2 (Nat.le_trans (Nat.le_of_ble_eq_true rfl : _ ≤ 6) (by omega)))))
    | (have e := hW
       rw [c2 (by assumption) (by assumption), h2 (by assumption)] at e
       rw [e]
       refine Done.mk (leF_tup ⟨leC_int rfl, ?_, trivial⟩)
       first
         | exact leC_nils_sl rfl
         | (refine leC_os_is rfl rfl rfl rfl (Nat.le_of_eq rfl) ⟨fun k hk => ?_⟩
            rcases k with _ | _ | _ | _ | _ | _ | k
            all_goals first
              | exact rfl
              | exact Bool.noConfusion ((Nat.ble_eq_true_of_le hk).symm.trans (rfl : Nat.ble _ _ = false))
              | exact absurd hk (Nat.not_lt.2 (Nat.le_trans (Nat.le_of_ble_eq_true rfl : _ ≤ 6) (by omega)))))
    | (have e := hW
       rw [c2 (by assumption) (by assumption), h3 (by assumption)] at e
       rw [e]
       refine Done.mk (leF_tup ⟨leC_int rfl, ?_, trivial⟩)
       first
         | exact leC_nils_sl rfl
         | (refine leC_os_is rfl rfl rfl rfl (Nat.le_of_eq rfl) ⟨fun k hk => ?_⟩
            rcases k with _ | _ | _ | _ | _ | _ | k
            all_goals first
              | exact rfl
              | exact Bool.noConfusion ((Nat.ble_eq_true_of_le hk).symm.trans (rfl : Nat.ble _ _ = false))
              | exact absurd hk (Nat.not_lt.2 (Nat.le_trans (Nat.le_of_ble_eq_true rfl : _ ≤ 6) (by omega)))))
    | (have e := hW
       rw [c2 (by assumption) (by assumption), h0 (by assumption) (by assumption) (by assumption)] at e
       rw [e]
       refine Done.mk (leF_tup ⟨leC_int rfl, ?_, trivial⟩)
       first
         | exact leC_nils_sl rfl
         | (refine leC_os_is rfl rfl rfl rfl (Nat.le_of_eq rfl) ⟨fun k hk => ?_⟩
            rcases k with _ | _ | _ | _ | _ | _ | k
            all_goals first
              | exact rfl
              | exact Bool.noConfusion ((Nat.ble_eq_true_of_le hk).symm.trans (rfl : Nat.ble _ _ = false))
              | exact absurd hk (Nat.not_lt.2 (Nat.le_trans (Nat.le_of_ble_eq_true rfl : _ ≤ 6) (by omega)))))
    | (have e := hW
       rw [c3 (by assumption) (by assumption), h1 (by assumption)] at e
       rw [e]
       refine Done.mk (leF_tup ⟨leC_int rfl, ?_, trivial⟩)
       first
         | exact leC_nils_sl rfl
         | (refine leC_os_is rfl rfl rfl rfl (Nat.le_of_eq rfl) ⟨fun k hk => ?_⟩
            rcases k with _ | _ | _ | _ | _ | _ | k
            all_goals first
              | exact rfl
              | exact Bool.noConfusion ((Nat.ble_eq_true_of_le hk).symm.trans (rfl : Nat.ble _ _ = false))
              | exact absurd hk (Nat.not_lt.2 (Nat.le_trans (Nat.le_of_ble_eq_true rfl : _ ≤ 6) (by omega)))))
    | (have e := hW
       rw [c3 (by assumption) (by assumption), h2 (by assumption)] at e
       rw [e]
       refine Done.mk (leF_tup ⟨leC_int rfl, ?_, trivial⟩)
       first
         | exact leC_nils_sl rfl
         | (refine leC_os_is rfl rfl rfl rfl (Nat.le_of_eq rfl) ⟨fun k hk => ?_⟩
            rcases k with _ | _ | _ | _ | _ | _ | k
            all_goals first
              | exact rfl
              | exact Bool.noConfusion ((Nat.ble_eq_true_of_le hk).symm.trans (rfl : Nat.ble _ _ = false))
              | exact absurd hk (Nat.not_lt.2 (Nat.le_trans (Nat.le_of_ble_eq_true rfl : _ ≤ 6) (by omega)))))
    | (have e := hW
       rw [c3 (by assumption) (by assumption), h3 (by assumption)] at e
       rw [e]
       refine Done.mk (leF_tup ⟨leC_int rfl, ?_, trivial⟩)
       first
         | exact leC_nils_sl rfl
         | (refine leC_os_is rfl rfl rfl rfl (Nat.le_of_eq rfl) ⟨fun k hk => ?_⟩
            rcases k with _ | _ | _ | _ | _ | _ | k
            all_goals first
              | exact rfl
              | exact Bool.noConfusion ((Nat.ble_eq_true_of_le hk).symm.trans (rfl : Nat.ble _ _ = false))
              | exact absurd hk (Nat.not_lt.2 (Nat.le_trans (Nat.le_of_ble_eq_true rfl : _ ≤ 6) (by omega)))))
    | (have e := hW
       rw [c3 (by assumption) (by assumption), h0 (by assumption) (by assumption) (by assumption)] at e
       rw [e]
       refine Done.mk (leF_tup ⟨leC_int rfl, ?_, trivial⟩)
       first
         | exact leC_nils_sl rfl
         | (refine leC_os_is rfl rfl rfl rfl (Nat.le_of_eq rfl) ⟨fun k hk => ?_⟩
            rcases k with _ | _ | _ | _ | _ | _ | k
            all_goals first
              | exact rfl
              | exact Bool.noConfusion ((Nat.ble_eq_true_of_le hk).symm.trans (rfl : Nat.ble _ _ = false))
              | exact absurd hk (Nat.not_lt.2 (Nat.le_trans (Nat.le_of_ble_eq_true rfl : _ ≤ 6) (by omega)))))
    | skip
end Go.Proofs.YtjknkfjhcapocaaDoor.AX

/- What the makers draw from a tape: packets. -/
namespace Go.Proofs.YtjknkfjhcapocaaDoor.AX
open Go.RowKit
set_option linter.unusedVariables false
set_option linter.unusedSimpArgs false
set_option maxRecDepth 10000 in
theorem ip_ok (n : Nat) (l : List Int) (q : Int) (a : Adr) (ht : TapeOk n (rI l) q) :
    ∃ (r : Fin 16 → Int) (q' : Int), byteOk r ∧ TapeOk n (rI l) q' ∧ MethOk Tryd.prog 23 [(cE eAdr).enc a] (tapeN n (rI l) q) ((cE (eA .u8 16)).enc r) (tapeN n (rI l) q') := by
  refine tape_intro (wd := 1) (Q := mkQ LT2) (by decide) tysOk (q_of LT2_ok) mixed Tryd.func23 rfl _ (by show 1 + 1 ≤ _; decide) (nff_elem (eA .u8 16)) ?_
  repeat' (first | (apply And.intro <;> intro hc <;> (first | exact Bool.noConfusion hc | (simp only [decide_eq_true_eq, decide_eq_false_iff_not, Bool.not_eq_true', Bool.not_eq_false', beq_iff_eq, beq_eq_false_iff_ne, bne_iff_ne, bne_eq_false_iff_eq, Bool.true_eq_false, Bool.false_eq_true] at hc) | skip)) | (refine And.intro (by first | exact trivial | decide | omega | (dsimp only; omega) | exact fun _ _ => rfl | exact ⟨by assumption, by first | exact trivial | decide | omega | (dsimp only; omega)⟩) ?_) | (apply And.intro) | (intro s hs))
  all_goals first
    | exact ⟨(s, _), ⟨by rw [hs]; exact of_byteOk _ _, by assumption⟩, ⟨leF_e (leE_all (by repeat' (first | exact trivial | exact rfl | exact leC_int rfl | exact leC_bool rfl | refine leE_all ?_ | exact leC_bool (by assumption) | apply And.intro))), tapeN_le⟩⟩
    | (rename_i r hr; exact ⟨(r, _), ⟨hr, by assumption⟩, ⟨leF_e (leE_all (by repeat' (first | exact trivial | exact rfl | exact leC_int rfl | exact leC_bool rfl | refine leE_all ?_ | exact leC_bool (by assumption) | apply And.intro))), tapeN_le⟩⟩)
    | exact ⟨(fun _ => 0, _), ⟨⟨fun q => show (0 : Int) ≤ 0 ∧ (0 : Int) < 256 from ⟨by decide, by decide⟩⟩, by assumption⟩, ⟨leF_e (leE_all (by repeat' (first | exact trivial | exact rfl | exact leC_int rfl | exact leC_bool rfl | refine leE_all ?_ | exact leC_bool (by assumption) | apply And.intro))), tapeN_le⟩⟩
theorem addr_ok (n : Nat) (l : List Int) (q : Int) (ht : TapeOk n (rI l) q) :
    ∃ (r : Adr) (q' : Int), True ∧ TapeOk n (rI l) q' ∧ MethOk Tryd.prog 8 [] (tapeN n (rI l) q) ((cE eAdr).enc r) (tapeN n (rI l) q') := by
  refine tape_intro (wd := 1) (Q := mkQ LT2) (by decide) tysOk (q_of LT2_ok) mixed Tryd.func8 rfl _ (by show 0 + 1 ≤ _; decide) (nff_elem eAdr) ?_
  repeat' (first | (apply And.intro <;> intro hc <;> (first | exact Bool.noConfusion hc | (simp only [decide_eq_true_eq, decide_eq_false_iff_not, Bool.not_eq_true', Bool.not_eq_false', beq_iff_eq, beq_eq_false_iff_ne, bne_iff_ne, bne_eq_false_iff_eq, Bool.true_eq_false, Bool.false_eq_true] at hc) | skip)) | (refine And.intro (by first | exact trivial | decide | omega | (dsimp only; omega) | exact fun _ _ => rfl | exact ⟨by assumption, by first | exact trivial | decide | omega | (dsimp only; omega)⟩) ?_) | (apply And.intro) | (intro s hs))
  · exact ⟨(⟨2, 65535, 0⟩, _), ⟨trivial, by assumption⟩, ⟨leF_e (leE_all ⟨⟨⟨trivial, leC_int rfl⟩, leC_int rfl⟩, leC_int rfl⟩), tapeN_le⟩⟩
  · exact ⟨(⟨0, 0, 0⟩, _), ⟨trivial, by assumption⟩, ⟨leF_e (leE_all ⟨⟨⟨trivial, leC_int rfl⟩, leC_int rfl⟩, leC_int rfl⟩), tapeN_le⟩⟩
  · exact ⟨(⟨_, _, _⟩, _), ⟨trivial, by assumption⟩, ⟨leF_e (leE_all ⟨⟨⟨trivial, leC_int rfl⟩, leC_int rfl⟩, leC_int rfl⟩), tapeN_le⟩⟩
theorem u16r' (z : Int) : 0 ≤ IntKind.u16.wrap z ∧ IntKind.u16.wrap z < 65536 := by
  simp only [IntKind.wrap, IntKind.signed, IntKind.bits]
  constructor
  · exact Int.emod_nonneg _ (by decide)
  · exact Int.emod_lt_of_pos _ (by decide)
theorem port_ok (n : Nat) (l : List Int) (q : Int) (ht : TapeOk n (rI l) q) :
    ∃ (r : Int) (q' : Int), (0 ≤ r ∧ r < 65536) ∧ TapeOk n (rI l) q' ∧ MethOk Tryd.prog 26 [] (tapeN n (rI l) q) ((cI .u16).enc r) (tapeN n (rI l) q') := by
  refine tape_intro (wd := 1) (Q := mkQ LT2) (by decide) tysOk (q_of LT2_ok) mixed Tryd.func26 rfl _ (by show 0 + 1 ≤ _; decide) (fun _ => nff_int) ?_
  repeat' (first | (apply And.intro <;> intro hc <;> (first | exact Bool.noConfusion hc | (simp only [decide_eq_true_eq, decide_eq_false_iff_not, Bool.not_eq_true', Bool.not_eq_false', beq_iff_eq, beq_eq_false_iff_ne, bne_iff_ne, bne_eq_false_iff_eq, Bool.true_eq_false, Bool.false_eq_true] at hc) | skip)) | (refine And.intro (by first | exact trivial | decide | omega | (dsimp only; omega) | exact fun _ _ => rfl | exact ⟨by assumption, by first | exact trivial | decide | omega | (dsimp only; omega)⟩) ?_) | (apply And.intro) | (intro s hs))
  all_goals exact ⟨(_, _), ⟨u16r' _, by assumption⟩, ⟨leF_int rfl, tapeN_le⟩⟩
theorem nff_slB {L : List Int} : NFF (.e (.c (slR eB L))) := nff_c (nf_sl fun i _ j _ => (eB.flat _ _).nf)
structure BytS (n : Nat) (l : List Int) (K : Nat) where
  i : Nat
  L : List Int
  q : Int
  hi : i ≤ K
  hL : L.length = K
  hb : BL L
  ht : TapeOk n (rI l) q
theorem bl_set {L : List Int} {i : Nat} {v : Int} (h : BL L) (hv : 0 ≤ v ∧ v < 256) : BL (L.set i v) := ⟨fun x hx => by
  rcases List.mem_or_eq_of_mem_set hx with h1 | h1
  · exact h.m x h1
  · rw [h1]; exact hv⟩
theorem bl_rep (n : Nat) : BL (List.replicate n 0) := ⟨fun x hx => by rw [(List.mem_replicate.1 hx).2]; omega⟩
theorem isRow_rep (n : Nat) : IsRow (fun _ => nth [CV.int .u8 0]) (List.replicate n 0) := ⟨fun k hk => by show CV.int .u8 0 = _; rw [List.getD_eq_getElem?_getD, List.getElem?_eq_getElem hk, List.getElem_replicate]; rfl⟩
theorem leN_setI {c : Wc} {t : TypeId} {L : List Int} {idx i n : Nat} {x : Int} {g : Nat → CV} (e : idx = i) (hn : n = L.length) (hi : i < L.length) (hg : g 0 = .int .u8 x) : LeN c ⟨t, n, eB.sz, false, updE false (rowF eB L) idx g⟩ (ents eB t (L.set i x)) := by
  subst e
  refine leN_set hn hi (fun i _ j _ => (eB.flat _ _).le) fun j hj => ?_
  have hj : j < 1 := hj
  obtain rfl : j = 0 := by omega
  rw [hg]
  exact leC_int rfl
set_option maxHeartbeats 4000000 in
set_option maxRecDepth 10000 in
theorem bytes_ok (n : Nat) (l : List Int) (q m : Int) (ht : TapeOk n (rI l) q) (h1 : 0 ≤ m) (h2 : m ≤ 2000) :
    ∃ (r : List Int) (q' : Int), (BL r ∧ (r.length : Int) ≤ m) ∧ TapeOk n (rI l) q' ∧ MethOk Tryd.prog 24 [(cI .i64).enc m] (tapeN n (rI l) q) (.e (.c (slR eB r))) (tapeN n (rI l) q') := by
  have w1 : IntKind.i64.wrap (m + 1) = m + 1 := IntWalk.i64_in _ (by omega)
  refine tape_intro (S := fun r => BL r ∧ (r.length : Int) ≤ m) (enc := fun r => .e (.c (slR eB r))) (wd := 1) (Q := mkQ LT2) (by decide) tysOk (q_of LT2_ok) mixed Tryd.func24 rfl _ (by show 1 + 1 ≤ _; decide) (fun _ => nff_slB) ?_
  repeat' (first | (apply And.intro <;> intro hc <;> (first | exact Bool.noConfusion hc | (simp only [decide_eq_true_eq, decide_eq_false_iff_not, Bool.not_eq_true', Bool.not_eq_false', beq_iff_eq, beq_eq_false_iff_ne, bne_iff_ne, bne_eq_false_iff_eq, Bool.true_eq_false, Bool.false_eq_true] at hc) | skip)) | (refine And.intro (by first | exact trivial | decide | omega | (dsimp only; omega) | exact fun _ _ => rfl | exact ⟨by assumption, by first | exact trivial | decide | omega | (dsimp only; omega)⟩) ?_) | (apply And.intro) | (intro s hs))
  rename_i s1 hs1
  have hs1' : 0 ≤ s1 ∧ s1 < IntKind.i64.wrap (m + 1) := hs1
  rw [w1] at hs1'
  refine loop_intro (mono_of LT2_ok) (fun s : BytS n l s1.toNat => (⟨[(0, one (.ptr 0 0 0 false)), (5, one (.os 6 0 s.L.length)), (6, one (.int .i64 (s.i : Int)))],
    [(0, some (tapeN n (rI l) s.q)), (6, some (ents eB 5 s.L))], 7⟩ : Hd)) (fun s => s1.toNat - s.i) (fun _ => rfl) ?_ ⟨0, List.replicate s1.toNat 0, _, by omega, by simp, bl_rep _, hs⟩ [] ?_
  · rintro ⟨i, L, q2, hi, hL, hb, ht2⟩
    dsimp only at hi hL hb ht2 ⊢
    repeat' (first | (apply And.intro <;> intro hc <;> (first | exact Bool.noConfusion hc | (simp only [decide_eq_true_eq, decide_eq_false_iff_not, Bool.not_eq_true', Bool.not_eq_false', beq_iff_eq, beq_eq_false_iff_ne, bne_iff_ne, bne_eq_false_iff_eq, Bool.true_eq_false, Bool.false_eq_true] at hc) | skip)) | (refine And.intro (by first | exact trivial | decide | omega | (dsimp only; omega) | exact fun _ _ => rfl | exact ⟨by assumption, by first | exact trivial | decide | omega | (dsimp only; omega)⟩) ?_) | (apply And.intro) | (intro s hs))
    · rename_i s2 hs2
      refine ⟨⟨i + 1, L.set i (IntKind.u8.wrap s2), _, by omega, by rw [List.length_set]; exact hL, bl_set hb (u8r _), hs⟩, [], by dsimp only; omega, rfl, ?_, ?_⟩
      · repeat' (first | exact trivial | exact rfl | exact leF_ptr rfl | exact leF_int rfl | exact leF_bool rfl | exact leF_cl (cl_slB _ _) | exact leF_cl (cl_slR _ _) | exact leF_cl (cl_ll _ _) | exact leF_c (leC_os rfl rfl) | refine leF_int ?_ | refine leF_bool ?_ | exact leN_varA (fun _ _ => (Elem.flat _ _ _).le) | exact leN_varA (fun _ _ => leC_top) | apply And.intro)
        · exact leF_c (leC_os rfl (by dsimp only; rw [List.length_set]))
        · refine (IntWalk.i64_in _ ?_).trans ?_
          · constructor <;> omega
          · dsimp only
            omega
      · repeat' (first | exact trivial | exact rfl | exact leF_ptr rfl | exact leF_int rfl | exact leF_bool rfl | exact leF_cl (cl_slB _ _) | exact leF_cl (cl_slR _ _) | exact leF_cl (cl_ll _ _) | exact leF_c (leC_os rfl rfl) | refine leF_int ?_ | refine leF_bool ?_ | exact leN_varA (fun _ _ => (Elem.flat _ _ _).le) | exact leN_varA (fun _ _ => leC_top) | apply And.intro)
        · exact tapeN_le
        · exact leN_setI (by omega) rfl (by omega) rfl
    · exact ⟨(L, q2), ⟨⟨hb, (show (L.length : Int) ≤ m by omega)⟩, ht2⟩, ⟨leF_c (leC_row_fin rfl rfl), tapeN_le⟩⟩
  · refine ⟨rfl, ?_, ?_⟩
    · repeat' (first | exact trivial | exact rfl | exact leF_ptr rfl | exact leF_int rfl | exact leF_bool rfl | exact leF_cl (cl_slB _ _) | exact leF_cl (cl_slR _ _) | exact leF_cl (cl_ll _ _) | exact leF_c (leC_os rfl rfl) | refine leF_int ?_ | refine leF_bool ?_ | exact leN_varA (fun _ _ => (Elem.flat _ _ _).le) | exact leN_varA (fun _ _ => leC_top) | apply And.intro)
      exact leF_c (leC_os rfl (by simp))
    · repeat' (first | exact trivial | exact rfl | exact leF_ptr rfl | exact leF_int rfl | exact leF_bool rfl | exact leF_cl (cl_slB _ _) | exact leF_cl (cl_slR _ _) | exact leF_cl (cl_ll _ _) | exact leF_c (leC_os rfl rfl) | refine leF_int ?_ | refine leF_bool ?_ | exact leN_varA (fun _ _ => (Elem.flat _ _ _).le) | exact leN_varA (fun _ _ => leC_top) | apply And.intro)
      · exact tapeN_le
      · exact leN_is (by simp) (isRow_rep _)
abbrev bytesE : Entry := tapeE (AC.cons (cI .i64) AC.nil) (fun a => 0 ≤ a.1 ∧ a.1 ≤ 2000) (fun a (r : List Int) => BL r ∧ (r.length : Int) ≤ a.1) (fun r => .e (.c (slR eB r)))
structure FilS (K : Nat) where
  i : Nat
  L : List Int
  hi : i ≤ K
  hL : L.length = K
  hb : BL L
def arr5 (a b c d e : Int) : Fin 5 → Int := fun q => if q.1 = 0 then a else if q.1 = 1 then b else if q.1 = 2 then c else if q.1 = 3 then d else e
set_option maxHeartbeats 4000000 in
set_option maxRecDepth 10000 in
theorem pfill_ok (n : Nat) (l : List Int) (q m : Int) (ht : TapeOk n (rI l) q) (h1 : 0 ≤ m) (h2 : m ≤ 2000) :
    ∃ (r : List Int) (q' : Int), (BL r ∧ (r.length : Int) = m) ∧ TapeOk n (rI l) q' ∧ MethOk Tryd.prog 27 [(cI .i64).enc m] (tapeN n (rI l) q) (.e (.c (slR eB r))) (tapeN n (rI l) q') := by
  refine tape_intro (S := fun r => BL r ∧ (r.length : Int) = m) (enc := fun r => .e (.c (slR eB r))) (wd := 1) (Q := mkQ LT2) (by decide) tysOk (q_of LT2_ok) mixed Tryd.func27 rfl _ (by show 1 + 1 ≤ _; decide) (fun _ => nff_slB) ?_
  repeat' (first | (apply And.intro <;> intro hc <;> (first | exact Bool.noConfusion hc | (simp only [decide_eq_true_eq, decide_eq_false_iff_not, Bool.not_eq_true', Bool.not_eq_false', beq_iff_eq, beq_eq_false_iff_ne, bne_iff_ne, bne_eq_false_iff_eq, Bool.true_eq_false, Bool.false_eq_true] at hc) | skip)) | (refine And.intro (by first | exact trivial | decide | omega | (dsimp only; omega) | exact fun _ _ => rfl | exact ⟨by assumption, by first | exact trivial | decide | omega | (dsimp only; omega)⟩) ?_) | (apply And.intro) | (intro s hs))
  rename_i s4 hs4 q4 hq4 s2 hs2 q2 hq2 s0 hs0
  refine loop_intro (mono_of LT2_ok) (fun z : FilS m.toNat => (⟨[(0, one (.ptr 0 0 0 false)), (1, one (.int .i64 m)), (5, one (.ptr 12 0 0 false)), (6, one (.os 15 0 z.L.length)), (7, one (.int .i64 (z.i : Int)))],
    [(0, some (tapeN n (rI l) s)), (12, some ⟨87, 1, 5, true, fun _ => (eA .u8 5).cell (arr5 (IntKind.u8.wrap s4) (IntKind.u8.wrap s2) 0 (IntKind.u8.wrap s0) 7)⟩), (15, some (ents eB 5 z.L))], 16⟩ : Hd)) (fun z => m.toNat - z.i) (fun _ => rfl) ?_ ⟨0, List.replicate m.toNat 0, by omega, by simp, bl_rep _⟩ [] ?_
  · rintro ⟨i, L, hi, hL, hb⟩
    dsimp only at hi hL hb ⊢
    have a1 : 0 ≤ (i : Int).tmod 5 := Int.tmod_nonneg 5 (by omega)
    have a2 : (i : Int).tmod 5 < 5 := Int.tmod_lt_of_pos (i : Int) (by decide)
    repeat' (first | (apply And.intro <;> intro hc <;> (first | exact Bool.noConfusion hc | (simp only [decide_eq_true_eq, decide_eq_false_iff_not, Bool.not_eq_true', Bool.not_eq_false', beq_iff_eq, beq_eq_false_iff_ne, bne_iff_ne, bne_eq_false_iff_eq, Bool.true_eq_false, Bool.false_eq_true] at hc) | skip)) | (refine And.intro (by first | exact trivial | decide | omega | (dsimp only; omega) | exact fun _ _ => rfl | exact ⟨by assumption, by first | exact trivial | decide | omega | (dsimp only; omega)⟩) ?_) | (apply And.intro) | (intro s hs))
    · refine ⟨⟨i + 1, L.set i (IntKind.u8.wrap (vget (arr5 (IntKind.u8.wrap s4) (IntKind.u8.wrap s2) 0 (IntKind.u8.wrap s0) 7) (0 + ((i : Int).tmod 5).toNat * 1 + 0) + IntKind.u8.wrap (IntKind.i64.wrap ((i : Int).tdiv 5)))), by omega, by rw [List.length_set]; exact hL, bl_set hb (u8r _)⟩, [], by dsimp only; omega, rfl, ?_, ?_⟩
      · repeat' (first | exact trivial | exact rfl | exact leF_ptr rfl | exact leF_int rfl | exact leF_bool rfl | exact leF_cl (cl_slB _ _) | exact leF_cl (cl_slR _ _) | exact leF_cl (cl_ll _ _) | exact leF_c (leC_os rfl rfl) | refine leF_int ?_ | refine leF_bool ?_ | exact leN_varA (fun _ _ => (Elem.flat _ _ _).le) | exact leN_varA (fun _ _ => leC_top) | apply And.intro)
        · exact leF_c (leC_os rfl (by dsimp only; rw [List.length_set]))
        · refine (IntWalk.i64_in _ ?_).trans ?_
          · constructor <;> omega
          · dsimp only
            omega
      · repeat' (first | exact trivial | exact rfl | exact leF_ptr rfl | exact leF_int rfl | exact leF_bool rfl | exact leF_cl (cl_slB _ _) | exact leF_cl (cl_slR _ _) | exact leF_cl (cl_ll _ _) | exact leF_c (leC_os rfl rfl) | refine leF_int ?_ | refine leF_bool ?_ | exact leN_varA (fun _ _ => (Elem.flat _ _ _).le) | exact leN_varA (fun _ _ => leC_top) | apply And.intro)
        · exact tapeN_le
        · exact leN_setI (by omega) rfl (by omega) rfl
    · exact ⟨(L, s), ⟨⟨hb, (show (L.length : Int) = m by omega)⟩, hs⟩, ⟨leF_c (leC_row_fin rfl rfl), tapeN_le⟩⟩
  · refine ⟨rfl, ?_, ?_⟩
    · repeat' (first | exact trivial | exact rfl | exact leF_ptr rfl | exact leF_int rfl | exact leF_bool rfl | exact leF_cl (cl_slB _ _) | exact leF_cl (cl_slR _ _) | exact leF_cl (cl_ll _ _) | exact leF_c (leC_os rfl rfl) | refine leF_int ?_ | refine leF_bool ?_ | exact leN_varA (fun _ _ => (Elem.flat _ _ _).le) | exact leN_varA (fun _ _ => leC_top) | apply And.intro)
      exact leF_c (leC_os rfl (by simp))
    · repeat' (first | exact trivial | exact rfl | exact leF_ptr rfl | exact leF_int rfl | exact leF_bool rfl | exact leF_cl (cl_slB _ _) | exact leF_cl (cl_slR _ _) | exact leF_cl (cl_ll _ _) | exact leF_c (leC_os rfl rfl) | refine leF_int ?_ | refine leF_bool ?_ | exact leN_varA (fun _ _ => (Elem.flat _ _ _).le) | exact leN_varA (fun _ _ => leC_top) | apply And.intro)
      · exact tapeN_le
      · refine leN_var ?_
        repeat' (first | exact trivial | exact leC_int rfl | apply And.intro)
      · exact leN_is (by simp) (isRow_rep _)
abbrev pfillE : Entry := tapeE (AC.cons (cI .i64) AC.nil) (fun a => 0 ≤ a.1 ∧ a.1 ≤ 2000) (fun a (r : List Int) => BL r ∧ (r.length : Int) = a.1) (fun r => .e (.c (slR eB r)))
abbrev ipE : Entry := tapeE (AC.cons (cE eAdr) AC.nil) (fun _ => True) (fun a r => byteOk r) (cE (eA .u8 16)).enc
abbrev addrE : Entry := tapeE AC.nil (fun _ => True) (fun a (r : Adr) => True) (cE eAdr).enc
abbrev portE : Entry := tapeE AC.nil (fun _ => True) (fun a (r : Int) => 0 ≤ r ∧ r < 65536) (cI .u16).enc
def LM0 : CsL := (24, some bytesE) :: (27, some pfillE) :: (23, some ipE) :: (8, some addrE) :: (26, some portE) :: (7, some newTapeE) :: []
theorem LM0_ok : AllOk Tryd.prog LM0 := ⟨tapeE_ok ⟨_, Tryd.func24, rfl, by kernel_rfl⟩ fun n l q a ht hp => bytes_ok n l q a.1 ht hp.1 hp.2, tapeE_ok ⟨_, Tryd.func27, rfl, by kernel_rfl⟩ fun n l q a ht hp => pfill_ok n l q a.1 ht hp.1 hp.2, tapeE_ok ⟨_, Tryd.func23, rfl, by kernel_rfl⟩ fun n l q a ht hp => ip_ok n l q a.1 ht, tapeE_ok ⟨_, Tryd.func8, rfl, by kernel_rfl⟩ fun n l q a ht hp => addr_ok n l q ht, tapeE_ok ⟨_, Tryd.func26, rfl, by kernel_rfl⟩ fun n l q a ht hp => port_ok n l q ht, newTapeE_ok, trivial⟩
def LM : CsL := LM0 ++ (LT1 ++ LPi)
theorem LM_ok : AllOk Tryd.prog LM := append_ok LM0_ok (append_ok LT1_ok LPi_ok)
end Go.Proofs.YtjknkfjhcapocaaDoor.AX

/- When a drawn packet is valid (plain law for the maker Packet). -/
namespace Go.Proofs.YtjknkfjhcapocaaDoor.AX
open Go.RowKit
set_option linter.unusedVariables false
structure PkM (p : Pkt) : Prop where
  v : validP p = true
  w : PkW p
theorem vget_in {a : Fin 16 → Int} (h : byteOk a) (i : Nat) : 0 ≤ vget a i ∧ vget a i < 256 := by
  unfold vget
  split
  · exact h.q _
  · exact ⟨by decide, by decide⟩
theorem pkM_mk {cls flow nxt hops sp dp : Int} {src dst : Fin 16 → Int} {pay : List Int} (h1 : 0 ≤ cls ∧ cls < 256) (h2 : 0 ≤ flow ∧ flow < 1048576) (h3 : 0 ≤ nxt ∧ nxt < 256) (h4 : 0 ≤ hops ∧ hops < 256)
    (h5 : byteOk src) (h6 : byteOk dst) (h7 : 0 ≤ sp ∧ sp < 65536) (h8 : 0 ≤ dp ∧ dp < 65536) (h9 : BL pay) (h10 : vget src 0 ≠ 255) (h11 : (if nxt = 17 then (48 : Int) else 40) + pay.length ≤ 1280) (h12 : nxt = 17 ∨ sp = 0 ∧ dp = 0) :
    PkM (⟨cls, flow, nxt, hops, src, dst, sp, dp⟩, pay) := by
  refine ⟨?_, ⟨h1, ⟨h2.1, ?_⟩, h3, h4, vget_in h5, vget_in h6, h7, h8, h9⟩⟩
  · unfold validP mcast sizeP
    simp only [Bool.and_eq_true, Bool.or_eq_true, decide_eq_true_eq, Bool.not_eq_true', decide_eq_false_iff_not]
    exact ⟨⟨⟨by omega, h10⟩, h11⟩, h12⟩
  · show flow < 4294967296
    omega
/-- The choices of the next header and of the hops, as the walk leaves them. -/
theorem pick5 (s a b c d e : Int) (h : ∀ x, (x = a ∨ x = b ∨ x = c ∨ x = d ∨ x = e ∨ x = 0) → 0 ≤ x ∧ x < 256) (t : Nat) :
    0 ≤ (bif t.beq 4 then a else bif t.beq 3 then b else bif t.beq 2 then c else bif t.beq 1 then d else bif t.beq 0 then e else 0) ∧ (bif t.beq 4 then a else bif t.beq 3 then b else bif t.beq 2 then c else bif t.beq 1 then d else bif t.beq 0 then e else 0) < 256 := by
  apply h
  cases t.beq 4 <;> cases t.beq 3 <;> cases t.beq 2 <;> cases t.beq 1 <;> cases t.beq 0 <;> simp
end Go.Proofs.YtjknkfjhcapocaaDoor.AX


/- Layer 13 by AX2: upper, Pseudo, Sum, encode, Encode of the reference. -/
namespace Go.Proofs.YtjknkfjhcapocaaDoor.AX
open Go.RowKit
set_option linter.unusedVariables false
set_option linter.unusedSimpArgs false
def LRp0 : CsL := LPi
theorem LRp0_ok : AllOk Tryd.prog LRp0 := LPi_ok
def LRp1 : CsL := LRp0
theorem LRp1_ok : AllOk Tryd.prog LRp1 := LRp0_ok
theorem dst_eq (h : Hdr) (last : CV) : ((eA .u8 16).rd fun q => tailC eHd h last (0 + 20 + q)) = h.dst := by
  funext q
  show valI (tailC eHd h last (0 + 20 + q.1)) = h.dst q
  rw [show 0 + 20 + q.1 = 20 + q.1 by omega, tailC_lt (show 20 + q.1 < 38 by omega), eHd_dst_at _ _ q.2]
  exact vget_lt _ q.2
def LRp2 : CsL := LRp1
theorem LRp2_ok : AllOk Tryd.prog LRp2 := LRp1_ok
end Go.Proofs.YtjknkfjhcapocaaDoor.AX

/- Layer 14 by AX2: Encode of the program. -/
namespace Go.Proofs.YtjknkfjhcapocaaDoor.AX
open Go.RowKit
set_option linter.unusedVariables false
set_option linter.unusedSimpArgs false
theorem fields_ok (p : Pkt) (hf : 0 ≤ p.1.flow ∧ p.1.flow < 4294967296) : PureOk Tryd.prog 46 [cPk.enc p] (encIS (firstF p, inlF p)) := by
  by_cases h : p.1.nxt = 17
  · exact fields_17 p hf h
  · exact fields_no p hf h
theorem uni_ok (a : Fin 16 → Int) (k : Adr) (source : Bool) (l : List Ctx) (now : Int) (ha : byteOk a) (hl : bytesL l) : PureOk Tryd.prog 47 [(cE (eA .u8 16)).enc a, (cE eAdr).enc k, cB.enc source, (cSl eCtx eCtx_sz).enc l, (cI .i64).enc now] (encFm (uniF a k source l now)) := by
  by_cases Z : source = true ∧ ipEq a zeroA = true
  · exact uni_ok0 a k source l now ha hl Z
  · exact uni_ok1 a k source l now ha hl Z
abbrev uniA : AC ((Fin 16 → Int) × Adr × Bool × List Ctx × Int × Unit) := AC.cons (cE (eA .u8 16)) (AC.cons (cE eAdr) (AC.cons cB (AC.cons (cSl eCtx eCtx_sz) (AC.cons (cI .i64) AC.nil))))
abbrev uniE : Entry := pureE uniA (fun a => byteOk a.1 ∧ bytesL a.2.2.2.1) (fun a => uniF a.1 a.2.1 a.2.2.1 a.2.2.2.1 a.2.2.2.2.1) encFm
abbrev grpFE : Entry := pureE aIp (fun _ => True) (fun a => grpF a.1) encFm
abbrev chkA : AC (Adr × Adr × List Ctx × Int × Unit) := AC.cons (cE eAdr) (AC.cons (cE eAdr) (AC.cons (cSl eCtx eCtx_sz) (AC.cons (cI .i64) AC.nil)))
abbrev chkE : Entry := pureE chkA (fun a => a.2.2.1.length ≤ 9223372036854775807) (fun a => checkF a.1 a.2.1 a.2.2.1 a.2.2.2.1) (cI .i64).enc
abbrev fldE : Entry := pureE PA (fun a => 0 ≤ a.1.1.flow ∧ a.1.1.flow < 4294967296) (fun a => (firstF a.1, inlF a.1)) encIS
def LIh5 : CsL := (47, some uniE) :: (49, some grpFE) :: (45, some chkE) :: (46, some fldE) :: LIh2
theorem LIh5_ok : AllOk Tryd.prog LIh5 := ⟨pureE_ok ⟨_, Tryd.func47, rfl, by kernel_rfl⟩ fun a h => uni_ok a.1 a.2.1 a.2.2.1 a.2.2.2.1 a.2.2.2.2.1 h.1 h.2, pureE_ok ⟨_, Tryd.func49, rfl, by kernel_rfl⟩ fun a _ => grp_ok a.1, pureE_ok ⟨_, Tryd.func45, rfl, by kernel_rfl⟩ fun a h => check_ok a.1 a.2.1 a.2.2.1 a.2.2.2.1 h, pureE_ok ⟨_, Tryd.func46, rfl, by kernel_rfl⟩ fun a h => fields_ok a.1 h, LIh2_ok⟩
/-! ### Ranges -/
structure FmW (f : Fm) : Prop where
  id : 0 ≤ f.id ∧ f.id < 16
  mode : 0 ≤ f.mode ∧ f.mode ≤ 3
theorem iids_m (y : Int) (k : Adr) : 0 ≤ (iidsF y k).1 ∧ (iidsF y k).1 ≤ 3 := by
  unfold iidsF
  split
  · exact ⟨(by decide : (0 : Int) ≤ 3), (by decide : (3 : Int) ≤ 3)⟩
  · split
    · exact ⟨(by decide : (0 : Int) ≤ 2), (by decide : (2 : Int) ≤ 3)⟩
    · exact ⟨(by decide : (0 : Int) ≤ 1), (by decide : (1 : Int) ≤ 3)⟩
theorem uni_w (a : Fin 16 → Int) (k : Adr) (s : Bool) (l : List Ctx) (now : Int) : FmW (uniF a k s l now).1 := by
  refine ⟨uni_id a k s l now, ?_⟩
  have := iids_m (loF a) k
  unfold uniF
  split
  · exact ⟨(by decide : (0 : Int) ≤ 0), (by decide : (0 : Int) ≤ 3)⟩
  · split
    · exact this
    · split
      · exact this
      · exact ⟨(by decide : (0 : Int) ≤ 0), (by decide : (0 : Int) ≤ 3)⟩
theorem grp_w (a : Fin 16 → Int) : FmW (grpF a).1 := by
  unfold grpF
  split
  · exact ⟨⟨(by decide : (0 : Int) ≤ 0), (by decide : (0 : Int) < 16)⟩, (by decide : (0 : Int) ≤ 3), (by decide : (3 : Int) ≤ 3)⟩
  · split
    · exact ⟨⟨(by decide : (0 : Int) ≤ 0), (by decide : (0 : Int) < 16)⟩, (by decide : (0 : Int) ≤ 2), (by decide : (2 : Int) ≤ 3)⟩
    · split
      · exact ⟨⟨(by decide : (0 : Int) ≤ 0), (by decide : (0 : Int) < 16)⟩, (by decide : (0 : Int) ≤ 1), (by decide : (1 : Int) ≤ 3)⟩
      · exact ⟨⟨(by decide : (0 : Int) ≤ 0), (by decide : (0 : Int) < 16)⟩, (by decide : (0 : Int) ≤ 0), (by decide : (0 : Int) ≤ 3)⟩
theorem bitV_r (b : Bool) (v : Int) (h : 0 ≤ v) : 0 ≤ bitV b v ∧ bitV b v ≤ v := by
  unfold bitV
  split <;> omega
theorem first_r (p : Pkt) : 96 ≤ firstF p ∧ firstF p < 128 := by
  have h1 : 0 ≤ (flowF p).1 ∧ (flowF p).1 ≤ 3 := by
    unfold flowF
    split
    · exact ⟨(by decide : (0 : Int) ≤ 0), (by decide : (0 : Int) ≤ 3)⟩
    · split
      · exact ⟨(by decide : (0 : Int) ≤ 1), (by decide : (1 : Int) ≤ 3)⟩
      · split
        · exact ⟨(by decide : (0 : Int) ≤ 2), (by decide : (2 : Int) ≤ 3)⟩
        · exact ⟨(by decide : (0 : Int) ≤ 3), (by decide : (3 : Int) ≤ 3)⟩
  have h2 : 0 ≤ hopF p.1.hops ∧ hopF p.1.hops ≤ 3 := by unfold hopF; split <;> (try split) <;> (try split) <;> omega
  have h3 := bitV_r (decide (p.1.nxt = 17)) 4 (by decide)
  unfold firstF
  omega
theorem isRow_2 {G : Nat → Nat → CV} {x y : Int} (h0 : G 0 0 = .int .u8 x) (h1 : G 1 0 = .int .u8 y) : IsRow G [x, y] := ⟨fun k hk => by
  rcases k with _ | _ | k
  · exact h0
  · exact h1
  · exact absurd hk (by show ¬ _ < 2; omega)⟩
theorem rowF_at {l : List Int} {i k : Nat} (h : i = k) : rowF eB l i 0 = .int .u8 (l.getD k default) := by subst h; rfl
theorem ids_eq {s d : Fm} (hs : FmW s) (hd : FmW d) : IntKind.i64.wrap (IntKind.i64.wrap (16 * s.id) + d.id) = 16 * s.id + d.id := by
  have h1 := hs.id
  have h2 := hd.id
  rw [IntWalk.i64_in (16 * s.id) (by omega)]
  exact IntWalk.i64_in _ (by omega)
theorem sec_eq {s d : Fm} (hs : FmW s) (hd : FmW d) (m : Bool) : IntKind.u8.wrap (IntKind.i64.wrap (IntKind.i64.wrap (IntKind.i64.wrap (bitV (IntKind.i64.wrap (IntKind.i64.wrap (16 * s.id) + d.id) != 0) 128 + bitV s.ctx 64) + IntKind.i64.wrap (16 * s.mode)) + IntKind.i64.wrap (IntKind.i64.wrap (bitV m 8 + bitV d.ctx 4) + d.mode))) = secF s d m := by
  rw [ids_eq hs hd]
  have h1 := hs.mode
  have h2 := hd.mode
  unfold secF
  have e : (16 * s.id + d.id != 0) = decide (16 * s.id + d.id ≠ 0) := by
    by_cases h : 16 * s.id + d.id = 0
    · rw [h]; rfl
    · rw [decide_eq_true h]; simp [h]
  rw [e]
  have b1 := bitV_r (decide (16 * s.id + d.id ≠ 0)) 128 (by decide)
  have b2 := bitV_r s.ctx 64 (by decide)
  have b3 := bitV_r m 8 (by decide)
  have b4 := bitV_r d.ctx 4 (by decide)
  rw [IntWalk.i64_in (16 * s.mode) (by omega), IntWalk.i64_in (bitV m 8 + bitV d.ctx 4) (by omega), IntWalk.i64_in (bitV m 8 + bitV d.ctx 4 + d.mode) (by omega), IntWalk.i64_in (bitV (decide (16 * s.id + d.id ≠ 0)) 128 + bitV s.ctx 64) (by omega),
    IntWalk.i64_in (bitV (decide (16 * s.id + d.id ≠ 0)) 128 + bitV s.ctx 64 + 16 * s.mode) (by omega), IntWalk.i64_in _ (by omega), IntWalk.u8_in _ (by omega)]
  omega
theorem u8_id {x : Int} (h : 0 ≤ x ∧ x < 256) : IntKind.u8.wrap x = x := IntWalk.u8_in _ (by omega)
set_option maxHeartbeats 8000000 in
set_option maxRecDepth 20000 in
theorem enc_true (p : Pkt) (f t : Adr) (l : List Ctx) (now : Int) (hp : PkW p) (hpl : p.2.length ≤ 140737488355328) (hl : bytesL l) (hm : mcast p.1.dst = true) : NewOk Tryd.prog 28 [cPk.enc p, (cE eAdr).enc f, (cE eAdr).enc t, (cSl eCtx eCtx_sz).enc l, (cI .i64).enc now] (some (encI p f t l now).1.length) (some [i64V (encI p f t l now).2]) (ents eB 5 (encI p f t l now).1) := by
  obtain ⟨W, eW⟩ : ∃ W, encI p f t l now = W := ⟨_, rfl⟩
  rw [eW]
  unfold encI joinH at eW
  have wU := uni_w p.1.src f true l now
  have hF := first_r p
  have sl1 := uni_len p.1.src f true l now
  have sl4 := inl_len p
  have wX := grp_w p.1.dst
  have sl2 := (grp_len p.1.dst).1
  have eDst : dstF p t l now = grpF p.1.dst := by unfold dstF; rw [if_pos hm]
  obtain ⟨G, eG⟩ : ∃ x, grpF p.1.dst = x := ⟨_, rfl⟩
  obtain ⟨V, eV⟩ : ∃ x, validP p = x := ⟨_, rfl⟩
  obtain ⟨Ck, eC⟩ : ∃ x, checkF f t l now = x := ⟨_, rfl⟩
  obtain ⟨F, eF⟩ : ∃ x, firstF p = x := ⟨_, rfl⟩
  obtain ⟨IL, eI⟩ : ∃ x, inlF p = x := ⟨_, rfl⟩
  obtain ⟨U, eU⟩ : ∃ x, uniF p.1.src f true l now = x := ⟨_, rfl⟩
  rw [eG] at eDst wX sl2
  rw [eV, eC, eF, eI, eU, eDst, hm] at eW
  rw [eU] at wU sl1
  rw [eF] at hF
  rw [eI] at sl4
  have eFI : (firstF p, inlF p) = (F, IL) := by rw [eF, eI]
  have hb1 : byteOk p.1.src := ⟨fun q => by have := hp.src q.1; rw [vget_lt _ q.2] at this; exact this⟩
  have hb2 : byteOk p.1.dst := ⟨fun q => by have := hp.dst q.1; rw [vget_lt _ q.2] at this; exact this⟩
  have e1 : V = false → W = ([], 1) := fun h => by rw [← eW, if_pos h]
  have e2 : V = true → ¬ Ck = 0 → W = ([], Ck) := fun h g => by rw [← eW, if_neg (by rw [h]; decide), if_pos g]
  have e3 : V = true → Ck = 0 → W = ([F, secF U.1 G.1 true] ++ (if 16 * U.1.id + G.1.id ≠ 0 then [16 * U.1.id + G.1.id] else []) ++ IL ++ U.2 ++ G.2, 0) := fun h g => by rw [← eW, if_neg (by rw [h]; decide), if_neg (fun x => x g)]
  have eI' := ids_eq wU wX
  have eS := sec_eq wU wX true
  have eF8 : IntKind.u8.wrap F = F := u8_id (by omega)
  have eI8 : IntKind.u8.wrap (IntKind.i64.wrap (IntKind.i64.wrap (16 * U.1.id) + G.1.id)) = 16 * U.1.id + G.1.id := by
    have h1 := wU.id
    have h2 := wX.id
    rw [eI']
    exact u8_id (by omega)
  clear eW eDst eF eI
  have g1 : True := trivial
  refine new_intro (wd := 1) (Q := mkQ LIh5) (by decide) tysOk (q_of LIh5_ok) mixed Tryd.func28 rfl _ (by show 5 ≤ _; decide) (fun i _ j _ => row_nf eB _ i j) ?_
  repeat' (first | (apply And.intro <;> intro hc <;> (first | exact Bool.noConfusion hc | (exfalso; first | exact Bool.noConfusion hc) | (simp only [decide_eq_true_eq, decide_eq_false_iff_not, Bool.not_eq_true', Bool.not_eq_false', beq_iff_eq, beq_eq_false_iff_ne, bne_iff_ne, bne_eq_false_iff_eq, Bool.true_eq_false, Bool.false_eq_true, ne_eq, not_true_eq_false] at hc <;> first | exact absurd rfl hc | (exfalso; first | exact Bool.noConfusion hc) | skip) | skip)) | (refine And.intro (by first | exact trivial | decide | omega | (dsimp only; omega) | exact fun _ _ => rfl | exact ⟨by assumption, by first | exact trivial | decide | omega | (dsimp only; omega)⟩) ?_) | (apply And.intro) | (intro s hs; (first | (have q : V = s := (hs.trans ((congrArg validP (pk_eq p _)).trans eV)).symm; clear hs; subst q) | (have q : Ck = s := (hs.trans ((congr (congr (congrArg (fun a b c => checkF a b c now) (rd_adr f)) (rd_adr t)) (toL_ctx l)).trans eC)).symm; clear hs; subst q) | (have q : s = (F, IL) := hs.trans ((congrArg (fun p => (firstF p, inlF p)) (pk_eq p _)).trans eFI); clear hs; subst q) | (clear g1; have q : U = s := (hs.trans ((congr (congr (congrArg (fun a b c => uniF a b true c now) (src_eq p.1 _)) (rd_adr f)) (toL_ctx l)).trans eU)).symm; clear hs; subst q) | (have q : s = true := hs.trans ((congrArg mcast (dst_eq p.1 _)).trans hm); clear hs; subst q) | (have q : G = s := (hs.trans ((congrArg grpF (dst_eq p.1 _)).trans eG)).symm; clear hs; subst q) | (have q := hs; dsimp only at q; clear hs; subst q) | skip)))
  all_goals first
    | (show (toL eB p.2.length _).length ≤ _; rw [toL_len]; exact hpl)
    | (show (toL eCtx l.length _).length ≤ _; rw [toL_len]; have := hl.n; omega)
    | (rw [e1 (by assumption)]
       exact ⟨⟨none, leF_tup ⟨leC_nils_os rfl, leC_int rfl, trivial⟩, rfl, rfl, (by show 0 < 1; omega)⟩⟩)
    | (rw [e2 (by assumption) (by assumption)]
       exact ⟨⟨none, leF_tup ⟨leC_nils_os rfl, leC_int rfl, trivial⟩, rfl, rfl, (by show 0 < 1; omega)⟩⟩)
    | exact Eq.mp (congrArg (fun p : Pkt => 0 ≤ p.1.flow) (pk_eq p _).symm) hp.flow.1
    | exact Eq.mp (congrArg (fun p : Pkt => p.1.flow < 4294967296) (pk_eq p _).symm) hp.flow.2
    | exact Eq.mp (congrArg byteOk (src_eq p.1 _).symm) hb1
    | exact Eq.mp (congrArg byteOk (dst_eq p.1 _).symm) hb2
    | exact Eq.mp (congrArg bytesL (toL_ctx l).symm) hl
    | omega
    | (dsimp only; omega)
    | skip
  · have hne : 16 * U.1.id + G.1.id ≠ 0 := by rw [← eI']; exact hc
    have e := e3 (by assumption) (by assumption)
    rw [if_pos hne] at e
    rw [e]
    refine ⟨⟨some _, leF_tup ⟨leC_os rfl ?_, leC_int rfl, trivial⟩, leN_is ?_ (isRow_sel ?_ (isRow_sel ?_ (isRow_sel ?_ (isRow_sel rfl (isRow_2 (congrArg (CV.int .u8) eF8) (congrArg (CV.int .u8) eS)) (fun k hk => ?_)) (fun k hk => rowF_at (by omega))) (fun k hk => rowF_at (by omega))) (fun k hk => rowF_at (by omega)))⟩⟩
    all_goals first
      | (obtain rfl : k = 0 := (by have hk' : k < 1 := hk; omega)
         exact congrArg (CV.int .u8) eI8)
      | (simp only [List.length_append, List.length_cons, List.length_nil]; done)
      | rfl
  · have hne : ¬ 16 * U.1.id + G.1.id ≠ 0 := fun h => h (by rw [← eI']; exact hc)
    have e := e3 (by assumption) (by assumption)
    rw [if_neg hne] at e
    rw [List.append_nil] at e
    rw [e]
    refine ⟨⟨some _, leF_tup ⟨leC_os rfl ?_, leC_int rfl, trivial⟩, leN_is ?_ (isRow_sel ?_ (isRow_sel ?_ (isRow_sel rfl (isRow_2 (congrArg (CV.int .u8) eF8) (congrArg (CV.int .u8) eS)) (fun k hk => rowF_at (by omega))) (fun k hk => rowF_at (by omega))) (fun k hk => rowF_at (by omega)))⟩⟩
    all_goals first
      | (simp only [List.length_append, List.length_cons, List.length_nil]; done)
      | rfl
set_option maxHeartbeats 8000000 in
set_option maxRecDepth 20000 in
theorem enc_false (p : Pkt) (f t : Adr) (l : List Ctx) (now : Int) (hp : PkW p) (hpl : p.2.length ≤ 140737488355328) (hl : bytesL l) (hm : mcast p.1.dst = false) : NewOk Tryd.prog 28 [cPk.enc p, (cE eAdr).enc f, (cE eAdr).enc t, (cSl eCtx eCtx_sz).enc l, (cI .i64).enc now] (some (encI p f t l now).1.length) (some [i64V (encI p f t l now).2]) (ents eB 5 (encI p f t l now).1) := by
  obtain ⟨W, eW⟩ : ∃ W, encI p f t l now = W := ⟨_, rfl⟩
  rw [eW]
  unfold encI joinH at eW
  have wU := uni_w p.1.src f true l now
  have hF := first_r p
  have sl1 := uni_len p.1.src f true l now
  have sl4 := inl_len p
  have wX := uni_w p.1.dst t false l now
  have sl2 := uni_len p.1.dst t false l now
  have eDst : dstF p t l now = uniF p.1.dst t false l now := by unfold dstF; rw [if_neg (by rw [hm]; decide)]
  obtain ⟨D, eG⟩ : ∃ x, uniF p.1.dst t false l now = x := ⟨_, rfl⟩
  obtain ⟨V, eV⟩ : ∃ x, validP p = x := ⟨_, rfl⟩
  obtain ⟨Ck, eC⟩ : ∃ x, checkF f t l now = x := ⟨_, rfl⟩
  obtain ⟨F, eF⟩ : ∃ x, firstF p = x := ⟨_, rfl⟩
  obtain ⟨IL, eI⟩ : ∃ x, inlF p = x := ⟨_, rfl⟩
  obtain ⟨U, eU⟩ : ∃ x, uniF p.1.src f true l now = x := ⟨_, rfl⟩
  rw [eG] at eDst wX sl2
  rw [eV, eC, eF, eI, eU, eDst, hm] at eW
  rw [eU] at wU sl1
  rw [eF] at hF
  rw [eI] at sl4
  have eFI : (firstF p, inlF p) = (F, IL) := by rw [eF, eI]
  have hb1 : byteOk p.1.src := ⟨fun q => by have := hp.src q.1; rw [vget_lt _ q.2] at this; exact this⟩
  have hb2 : byteOk p.1.dst := ⟨fun q => by have := hp.dst q.1; rw [vget_lt _ q.2] at this; exact this⟩
  have e1 : V = false → W = ([], 1) := fun h => by rw [← eW, if_pos h]
  have e2 : V = true → ¬ Ck = 0 → W = ([], Ck) := fun h g => by rw [← eW, if_neg (by rw [h]; decide), if_pos g]
  have e3 : V = true → Ck = 0 → W = ([F, secF U.1 D.1 false] ++ (if 16 * U.1.id + D.1.id ≠ 0 then [16 * U.1.id + D.1.id] else []) ++ IL ++ U.2 ++ D.2, 0) := fun h g => by rw [← eW, if_neg (by rw [h]; decide), if_neg (fun x => x g)]
  have eI' := ids_eq wU wX
  have eS := sec_eq wU wX false
  have eF8 : IntKind.u8.wrap F = F := u8_id (by omega)
  have eI8 : IntKind.u8.wrap (IntKind.i64.wrap (IntKind.i64.wrap (16 * U.1.id) + D.1.id)) = 16 * U.1.id + D.1.id := by
    have h1 := wU.id
    have h2 := wX.id
    rw [eI']
    exact u8_id (by omega)
  clear eW eDst eF eI
  have g1 : True := trivial
  refine new_intro (wd := 1) (Q := mkQ LIh5) (by decide) tysOk (q_of LIh5_ok) mixed Tryd.func28 rfl _ (by show 5 ≤ _; decide) (fun i _ j _ => row_nf eB _ i j) ?_
  repeat' (first | (apply And.intro <;> intro hc <;> (first | exact Bool.noConfusion hc | (exfalso; first | exact Bool.noConfusion hc) | (simp only [decide_eq_true_eq, decide_eq_false_iff_not, Bool.not_eq_true', Bool.not_eq_false', beq_iff_eq, beq_eq_false_iff_ne, bne_iff_ne, bne_eq_false_iff_eq, Bool.true_eq_false, Bool.false_eq_true, ne_eq, not_true_eq_false] at hc <;> first | exact absurd rfl hc | (exfalso; first | exact Bool.noConfusion hc) | skip) | skip)) | (refine And.intro (by first | exact trivial | decide | omega | (dsimp only; omega) | exact fun _ _ => rfl | exact ⟨by assumption, by first | exact trivial | decide | omega | (dsimp only; omega)⟩) ?_) | (apply And.intro) | (intro s hs; (first | (have q : V = s := (hs.trans ((congrArg validP (pk_eq p _)).trans eV)).symm; clear hs; subst q) | (have q : Ck = s := (hs.trans ((congr (congr (congrArg (fun a b c => checkF a b c now) (rd_adr f)) (rd_adr t)) (toL_ctx l)).trans eC)).symm; clear hs; subst q) | (have q : s = (F, IL) := hs.trans ((congrArg (fun p => (firstF p, inlF p)) (pk_eq p _)).trans eFI); clear hs; subst q) | (clear g1; have q : U = s := (hs.trans ((congr (congr (congrArg (fun a b c => uniF a b true c now) (src_eq p.1 _)) (rd_adr f)) (toL_ctx l)).trans eU)).symm; clear hs; subst q) | (have q : s = false := hs.trans ((congrArg mcast (dst_eq p.1 _)).trans hm); clear hs; subst q) | (have q : D = s := (hs.trans ((congr (congr (congrArg (fun a b c => uniF a b false c now) (dst_eq p.1 _)) (rd_adr t)) (toL_ctx l)).trans eG)).symm; clear hs; subst q) | (have q := hs; dsimp only at q; clear hs; subst q) | skip)))
  all_goals first
    | (show (toL eB p.2.length _).length ≤ _; rw [toL_len]; exact hpl)
    | (show (toL eCtx l.length _).length ≤ _; rw [toL_len]; have := hl.n; omega)
    | (rw [e1 (by assumption)]
       exact ⟨⟨none, leF_tup ⟨leC_nils_os rfl, leC_int rfl, trivial⟩, rfl, rfl, (by show 0 < 1; omega)⟩⟩)
    | (rw [e2 (by assumption) (by assumption)]
       exact ⟨⟨none, leF_tup ⟨leC_nils_os rfl, leC_int rfl, trivial⟩, rfl, rfl, (by show 0 < 1; omega)⟩⟩)
    | exact Eq.mp (congrArg (fun p : Pkt => 0 ≤ p.1.flow) (pk_eq p _).symm) hp.flow.1
    | exact Eq.mp (congrArg (fun p : Pkt => p.1.flow < 4294967296) (pk_eq p _).symm) hp.flow.2
    | exact Eq.mp (congrArg byteOk (src_eq p.1 _).symm) hb1
    | exact Eq.mp (congrArg byteOk (dst_eq p.1 _).symm) hb2
    | exact Eq.mp (congrArg bytesL (toL_ctx l).symm) hl
    | omega
    | (dsimp only; omega)
    | skip
  · have hne : 16 * U.1.id + D.1.id ≠ 0 := by rw [← eI']; exact hc
    have e := e3 (by assumption) (by assumption)
    rw [if_pos hne] at e
    rw [e]
    refine ⟨⟨some _, leF_tup ⟨leC_os rfl ?_, leC_int rfl, trivial⟩, leN_is ?_ (isRow_sel ?_ (isRow_sel ?_ (isRow_sel ?_ (isRow_sel rfl (isRow_2 (congrArg (CV.int .u8) eF8) (congrArg (CV.int .u8) eS)) (fun k hk => ?_)) (fun k hk => rowF_at (by omega))) (fun k hk => rowF_at (by omega))) (fun k hk => rowF_at (by omega)))⟩⟩
    all_goals first
      | (obtain rfl : k = 0 := (by have hk' : k < 1 := hk; omega)
         exact congrArg (CV.int .u8) eI8)
      | (simp only [List.length_append, List.length_cons, List.length_nil]; done)
      | rfl
  · have hne : ¬ 16 * U.1.id + D.1.id ≠ 0 := fun h => h (by rw [← eI']; exact hc)
    have e := e3 (by assumption) (by assumption)
    rw [if_neg hne] at e
    rw [List.append_nil] at e
    rw [e]
    refine ⟨⟨some _, leF_tup ⟨leC_os rfl ?_, leC_int rfl, trivial⟩, leN_is ?_ (isRow_sel ?_ (isRow_sel ?_ (isRow_sel rfl (isRow_2 (congrArg (CV.int .u8) eF8) (congrArg (CV.int .u8) eS)) (fun k hk => rowF_at (by omega))) (fun k hk => rowF_at (by omega))) (fun k hk => rowF_at (by omega)))⟩⟩
    all_goals first
      | (simp only [List.length_append, List.length_cons, List.length_nil]; done)
      | rfl
theorem encode_ok (p : Pkt) (f t : Adr) (l : List Ctx) (now : Int) (hp : PkW p) (hpl : p.2.length ≤ 140737488355328) (hl : bytesL l) : NewOk Tryd.prog 28 [cPk.enc p, (cE eAdr).enc f, (cE eAdr).enc t, (cSl eCtx eCtx_sz).enc l, (cI .i64).enc now] (some (encI p f t l now).1.length) (some [i64V (encI p f t l now).2]) (ents eB 5 (encI p f t l now).1) := by
  cases hm : mcast p.1.dst with
  | true => exact enc_true p f t l now hp hpl hl hm
  | false => exact enc_false p f t l now hp hpl hl hm
abbrev enIE : Entry := newE (AC.cons cPk (AC.cons (cE eAdr) (AC.cons (cE eAdr) (AC.cons (cSl eCtx eCtx_sz) (AC.cons (cI .i64) AC.nil))))) (fun a => PkW a.1 ∧ a.1.2.length ≤ 140737488355328 ∧ bytesL a.2.2.2.1) (fun a => encI a.1 a.2.1 a.2.2.1 a.2.2.2.1 a.2.2.2.2.1) (fun s => some s.1.length) (fun s => some [i64V s.2]) (fun s => ents eB 5 s.1)
theorem enIE_ok : EntOk Tryd.prog 28 enIE := newE_ok ⟨_, Tryd.func28, rfl, by kernel_rfl⟩ (fun s l h x hx => by injection h with h; subst h; obtain rfl := List.mem_singleton.1 hx; exact nfE_c nf_int) fun a h => encode_ok a.1 a.2.1 a.2.2.1 a.2.2.2.1 a.2.2.2.2.1 h.1 h.2.1 h.2.2
end Go.Proofs.YtjknkfjhcapocaaDoor.AX

/- Uint of the program for long rows of bytes. -/
namespace Go.Proofs.YtjknkfjhcapocaaDoor.AX
open Go.RowKit
set_option linter.unusedVariables false
set_option linter.unusedSimpArgs false
set_option maxHeartbeats 4000000 in
set_option maxRecDepth 20000 in
theorem ouint2_ok (b : List Int) (a n : Int) (hb : BL b) (hl : b.length ≤ 140737488355328) :
    PureOk Tryd.prog 56 [(cSl eB eB_sz).enc b, (cI .i64).enc a, (cI .i64).enc n] (encUB (uintF b a n)) := by
  by_cases hr : 1 ≤ n ∧ n ≤ 8 ∧ 0 ≤ a ∧ a ≤ b.length - n
  · obtain ⟨m, rfl⟩ : ∃ m : Nat, n = m := ⟨n.toNat, by omega⟩
    obtain ⟨p, rfl⟩ : ∃ p : Nat, a = p := ⟨a.toNat, by omega⟩
    obtain ⟨w, hw⟩ : ∃ w, w = (b.drop p).take m := ⟨_, rfl⟩
    have hwl : w.length = m := by rw [hw]; simp; omega
    have hwB : BL w := by rw [hw]; exact (hb.drop p).take m
    have hsp : uintF b p m = (beVal w, true) := by unfold uintF; rw [if_pos hr, hw]; rfl
    rw [hsp]
    have e1 : IntKind.i64.wrap ((b.length : Int) - m) = b.length - m := IntWalk.i64_in _ (by omega)
    have e2 : IntKind.i64.wrap ((p : Int) + m) = p + m := IntWalk.i64_in _ (by omega)
    have e3 : (IntKind.i64.wrap ((p : Int) + m)).toNat - (p : Int).toNat = m := by omega
    refine pure_intro (wd := 1) (Q := mkQ LE0) (by decide) tysOk (q_of LE0_ok) mixed Tryd.func56 rfl _ (by show 3 ≤ _; decide) _ ?_
    repeat' (first | (apply And.intro <;> intro hc <;> (first | exact Bool.noConfusion hc | (simp only [decide_eq_true_eq, decide_eq_false_iff_not, Bool.not_eq_true', Bool.not_eq_false', beq_iff_eq, beq_eq_false_iff_ne, bne_iff_ne, bne_eq_false_iff_eq, Bool.true_eq_false, Bool.false_eq_true] at hc) | skip)) | (refine And.intro (by first | exact trivial | decide | omega | (dsimp only; omega) | exact fun _ _ => rfl) ?_) | (apply And.intro) | (intro s hs))
    all_goals first
      | (exfalso; omega)
      | omega
      | skip
    refine loop_intro (mono_of LE0_ok) (fun s : {k : Nat // k ≤ m} => (⟨[(8, one (.int .u64 (beVal (w.take s.1)))), (34, one (.sl false w.length eB.sz (rowF eB w))), (35, one (.int .i64 m)), (36, one (.int .i64 (s.1 : Int)))], [], 0⟩ : Hd)) (fun s => m - s.1) (fun _ => rfl) ?_ ⟨0, by omega⟩ [] ?_
    · rintro ⟨k, hk⟩
      dsimp only at hk ⊢
      have hv := beVal_lt (w.take k) (hwB.take k)
      repeat' (first | (apply And.intro <;> intro hc <;> (first | exact Bool.noConfusion hc | (simp only [decide_eq_true_eq, decide_eq_false_iff_not, Bool.not_eq_true', Bool.not_eq_false', beq_iff_eq, beq_eq_false_iff_ne, bne_iff_ne, bne_eq_false_iff_eq, Bool.true_eq_false, Bool.false_eq_true] at hc) | skip)) | (refine And.intro (by first | exact trivial | decide | omega | (dsimp only; omega) | exact fun _ _ => rfl) ?_) | (apply And.intro) | (intro s hs))
      all_goals first
        | omega
        | skip
      · have hc' : k < m := by omega
        have hx := hwB.get k
        refine ⟨⟨k + 1, by omega⟩, [], by dsimp only <;> omega, rfl, ?_, ?_⟩
        · repeat' (first | exact trivial | exact rfl | exact leF_ptr rfl | exact leF_int rfl | exact leF_bool rfl | exact leF_cl (cl_slB _ _) | exact leF_cl (cl_slR _ _) | exact leF_cl (cl_ll _ _) | exact leF_c (leC_os rfl rfl) | refine leF_int ?_ | refine leF_bool ?_ | exact leN_varA (fun _ _ => (Elem.flat _ _ _).le) | exact leN_varA (fun _ _ => leC_top) | apply And.intro)
          · have hp := pow256_le (show (w.take k).length ≤ 7 by simp; omega)
            refine (or8 _ _ ⟨hv.1, by omega⟩ hx).trans ?_
            show _ = beVal (w.take (k + 1))
            rw [take_snocI (by omega), beVal_snoc]
            try rfl
          · first | (dsimp only; rw [IntWalk.i64_in _ (by omega)]; omega) | (dsimp only; rw [IntWalk.i64_in _ (by omega)]; done) | (dsimp only; exact IntWalk.i64_in _ (by omega)) | exact IntWalk.i64_in _ (by omega) | (rw [IntWalk.i64_in _ (by omega)]; omega)
        · repeat' (first | exact trivial | exact rfl | exact leF_ptr rfl | exact leF_int rfl | exact leF_bool rfl | exact leF_cl (cl_slB _ _) | exact leF_cl (cl_slR _ _) | exact leF_cl (cl_ll _ _) | exact leF_c (leC_os rfl rfl) | refine leF_int ?_ | refine leF_bool ?_ | exact leN_varA (fun _ _ => (Elem.flat _ _ _).le) | exact leN_varA (fun _ _ => leC_top) | apply And.intro)
      · refine Done.mk (leF_tup ?_)
        have hkm : k = m := by omega
        refine ⟨leE_c (leC_int ?_), leE_c (leC_bool rfl), trivial⟩
        show beVal (w.take k) = beVal w
        rw [List.take_of_length_le (by omega)]
    · refine ⟨rfl, ?_, ?_⟩
      · repeat' (first | exact trivial | exact rfl | exact leF_ptr rfl | exact leF_int rfl | exact leF_bool rfl | exact leF_cl (cl_slB _ _) | exact leF_cl (cl_slR _ _) | exact leF_cl (cl_ll _ _) | exact leF_c (leC_os rfl rfl) | refine leF_int ?_ | refine leF_bool ?_ | exact leN_varA (fun _ _ => (Elem.flat _ _ _).le) | exact leN_varA (fun _ _ => leC_top) | apply And.intro)
        · refine leF_c (leC_sl (fun h => by cases h) ?_ rfl fun i hi j hj => ?_)
          · rw [hwl]; exact e3
          · refine leC_cell (E := eB) ?_
            rw [hw, getD_dt _ _ _ _ (by omega) (by omega)]; rfl
        · show ((_ : Nat) : Int) = m
          rw [e3]
      · repeat' (first | exact trivial | exact rfl | exact leF_ptr rfl | exact leF_int rfl | exact leF_bool rfl | exact leF_cl (cl_slB _ _) | exact leF_cl (cl_slR _ _) | exact leF_cl (cl_ll _ _) | exact leF_c (leC_os rfl rfl) | refine leF_int ?_ | refine leF_bool ?_ | exact leN_varA (fun _ _ => (Elem.flat _ _ _).le) | exact leN_varA (fun _ _ => leC_top) | apply And.intro)
  · have hsp : uintF b a n = (0, false) := by unfold uintF; rw [if_neg hr]
    rw [hsp]
    have e1 : 1 ≤ n → n ≤ 8 → IntKind.i64.wrap ((b.length : Int) - n) = b.length - n := fun _ _ => IntWalk.i64_in _ (by omega)
    refine pure_intro (wd := 1) (Q := mkQ LE0) (by decide) tysOk (q_of LE0_ok) mixed Tryd.func56 rfl _ (by show 3 ≤ _; decide) _ ?_
    repeat' (first | (apply And.intro <;> intro hc <;> (first | exact Bool.noConfusion hc | (simp only [decide_eq_true_eq, decide_eq_false_iff_not, Bool.not_eq_true', Bool.not_eq_false', beq_iff_eq, beq_eq_false_iff_ne, bne_iff_ne, bne_eq_false_iff_eq, Bool.true_eq_false, Bool.false_eq_true] at hc) | skip)) | (refine And.intro (by first | exact trivial | decide | omega | (dsimp only; omega) | exact fun _ _ => rfl) ?_) | (apply And.intro) | (intro s hs))
    all_goals first
      | exact Done.mk (leF_tup ⟨leE_c (leC_int rfl), leE_c (leC_bool rfl), trivial⟩)
      | (exfalso; have := e1 (by omega) (by omega); omega)
abbrev uint2E : Entry := pureE uintA (fun a => BL a.1 ∧ a.1.length ≤ 140737488355328) (fun a => uintF a.1 a.2.1 a.2.2.1) encUB
def LOc2 : CsL := (56, some uint2E) :: LIh5
theorem LOc2_ok : AllOk Tryd.prog LOc2 := ⟨pureE_ok ⟨_, Tryd.func56, rfl, by kernel_rfl⟩ fun a h => ouint2_ok a.1 a.2.1 a.2.2.1 h.1 h.2, LIh5_ok⟩
end Go.Proofs.YtjknkfjhcapocaaDoor.AX

/- The program's reader: number, ip, start. -/
namespace Go.Proofs.YtjknkfjhcapocaaDoor.AX
open Go.RowKit
set_option linter.unusedVariables false
set_option linter.unusedSimpArgs false
structure RdOk (b : List Int) (q : Int) : Prop where
  bl : BL b
  len : b.length ≤ 140737488355328
  lo : 0 ≤ q
  hi : q ≤ b.length
abbrev encRN (r : Int × Int) : FV := .tup [.c (.int .u64 r.1), .c (.int .i64 r.2)]
theorem encRN_flat (r : Int × Int) : FlatF (encRN r) := flatF_tup fun x hx => by
  rcases List.mem_cons.1 hx with rfl | hx
  · exact flatE_c flat_int
  · rcases List.mem_cons.1 hx with rfl | hx
    · exact flatE_c flat_int
    · cases hx
theorem uint_true {b : List Int} {q n : Int} (h : (uintF b q n).2 = true) : 1 ≤ n ∧ n ≤ 8 ∧ 0 ≤ q ∧ q ≤ b.length - n := by
  unfold uintF at h
  split at h
  · assumption
  · cases h
theorem number_ok (b : List Int) (q n : Int) (hr : RdOk b q) (hn : 1 ≤ n ∧ n ≤ 16) : MethOk Tryd.prog 82 [(cI .i64).enc n] (rdN true b q) (encRN (numF b q n).1) (rdN true b (numF b q n).2) := by
  have h1 := hr.lo
  have h2 := hr.hi
  have h3 := hr.len
  have hU := uint_true (b := b) (q := q) (n := n)
  obtain ⟨U, eU⟩ : ∃ U, uintF b q n = U := ⟨_, rfl⟩
  obtain ⟨W, eW⟩ : ∃ W, numF b q n = W := ⟨_, rfl⟩
  rw [eW]
  unfold numF at eW
  rw [eU] at eW hU
  have e1 : U.2 = false → W = ((0, 4), q) := fun h => by rw [← eW, if_neg (by rw [h]; decide)]
  have e2 : U.2 = true → W = ((U.1, 0), q + n) := fun h => by rw [← eW, if_pos h]
  clear eW
  refine meth_intro (wd := 1) (Q := mkQ LOc2) (by decide) tysOk (q_of LOc2_ok) mixed Tryd.func82 rfl _ (by show 1 + 1 ≤ _; decide) (flatF_nff (encRN_flat _)) (rdN_nf) ?_
  repeat' (first | (apply And.intro <;> intro hc <;> (first | exact Bool.noConfusion hc | (simp only [decide_eq_true_eq, decide_eq_false_iff_not, Bool.not_eq_true', Bool.not_eq_false', beq_iff_eq, beq_eq_false_iff_ne, bne_iff_ne, bne_eq_false_iff_eq, Bool.true_eq_false, Bool.false_eq_true, ne_eq, not_true_eq_false] at hc <;> first | exact absurd rfl hc | skip) | skip)) | (refine And.intro (by first | exact trivial | decide | omega | (dsimp only; omega) | exact fun _ _ => rfl | exact ⟨by assumption, by first | exact trivial | decide | omega | (dsimp only; omega)⟩) ?_) | (apply And.intro) | (intro s hs; (first | (have q : U = s := (hs.trans ((congrArg (fun b => uintF b q n) (toL_b b)).trans eU)).symm; clear hs; subst q) | skip)))
  all_goals first
    | exact Eq.mp (congrArg BL (toL_b b).symm) hr.bl
    | (show (toL eB b.length _).length ≤ _; rw [toL_len]; exact h3)
    | (rw [e1 (by assumption)]
       exact ⟨leF_tup ⟨leC_int rfl, leC_int rfl, trivial⟩, rdN_le rfl⟩)
    | (rw [e2 (by assumption)]
       have := hU (by assumption)
       refine ⟨leF_tup ⟨leC_int rfl, leC_int rfl, trivial⟩, leN_var ⟨⟨trivial, leC_sl (fun _ => rfl) rfl rfl fun i _ j _ => leC_cell rfl⟩, leC_int ?_⟩⟩
       exact IntWalk.i64_in _ (by omega))
theorem uint_r {b : List Int} {q n : Int} (hb : BL b) : 0 ≤ (uintF b q n).1 ∧ (uintF b q n).1 < 256 ^ n.toNat := by
  have h0 : (0 : Int) < 256 ^ n.toNat := Int.pow_pos (by decide)
  unfold uintF
  split
  · have hv := beVal_lt _ ((hb.drop q.toNat).take n.toNat)
    refine ⟨hv.1, Int.lt_of_lt_of_le hv.2 (pow256_le ?_)⟩
    rw [List.length_take]
    exact Nat.min_le_left _ _
  · exact ⟨Int.le_refl 0, h0⟩
theorem num_v {b : List Int} {q n : Int} (hb : BL b) : 0 ≤ (numF b q n).1.1 ∧ (numF b q n).1.1 < 256 ^ n.toNat := by
  unfold numF
  split
  · exact uint_r hb
  · exact ⟨Int.le_refl 0, Int.pow_pos (by decide)⟩
theorem num_ok {b : List Int} {q n : Int} (h : RdOk b q) : RdOk b (numF b q n).2 := by
  have h1 := h.lo
  have h2 := h.hi
  have hU := uint_true (b := b) (q := q) (n := n)
  unfold numF
  split
  · rename_i g
    have := hU g
    exact ⟨h.bl, h.len, by dsimp only; omega, by dsimp only; omega⟩
  · exact h
abbrev encRA (r : (Fin 16 → Int) × Int) : FV := .tup [.agg 16 ((eA .u8 16).cell r.1), .c (.int .i64 r.2)]
theorem encRA_flat (r : (Fin 16 → Int) × Int) : FlatF (encRA r) := flatF_tup fun x hx => by
  rcases List.mem_cons.1 hx with rfl | hx
  · exact flatE_agg fun i => (eA .u8 16).flat _ _
  · rcases List.mem_cons.1 hx with rfl | hx
    · exact flatE_c flat_int
    · cases hx
theorem rip_ok (b : List Int) (q : Int) (hr : RdOk b q) : MethOk Tryd.prog 86 [] (rdN true b q) (encRA (ipRF b q).1) (rdN true b (ipRF b q).2) := by
  have h1 := hr.lo
  have h2 := hr.hi
  have h3 := hr.len
  have w0 : IntKind.i64.wrap ((b.length : Int) - q) = b.length - q := IntWalk.i64_in _ (by omega)
  obtain ⟨W, eW⟩ : ∃ W, ipRF b q = W := ⟨_, rfl⟩
  rw [eW]
  unfold ipRF at eW
  have e1 : IntKind.i64.wrap ((b.length : Int) - q) < 16 → W = ((zeroA, 4), q) := fun h => by rw [← eW, if_pos (by rw [← w0]; exact h)]
  have e2 : ¬ IntKind.i64.wrap ((b.length : Int) - q) < 16 → W = ((ipAt b q, 0), q + 16) := fun h => by rw [← eW, if_neg (by rw [← w0]; exact h)]
  clear eW
  refine meth_intro (wd := 1) (Q := mkQ LAd) (by decide) tysOk (q_of LAd_ok) mixed Tryd.func86 rfl _ (by show 0 + 1 ≤ _; decide) (flatF_nff (encRA_flat _)) (rdN_nf) ?_
  repeat' (first | (apply And.intro <;> intro hc <;> (first | exact Bool.noConfusion hc | (simp only [decide_eq_true_eq, decide_eq_false_iff_not, Bool.not_eq_true', Bool.not_eq_false', beq_iff_eq, beq_eq_false_iff_ne, bne_iff_ne, bne_eq_false_iff_eq, Bool.true_eq_false, Bool.false_eq_true, ne_eq, not_true_eq_false] at hc <;> first | exact absurd rfl hc | skip) | skip)) | (refine And.intro (by first | exact trivial | decide | omega | (dsimp only; omega) | exact fun _ _ => rfl | exact ⟨by assumption, by first | exact trivial | decide | omega | (dsimp only; omega)⟩) ?_) | (apply And.intro) | (intro s hs; skip))
  · rw [e1 (by assumption)]
    exact ⟨leF_tup ⟨leE_all (by repeat' (first | exact trivial | exact rfl | exact leC_int rfl | exact leC_bool rfl | refine leE_all ?_ | exact leC_bool (by assumption) | apply And.intro)), leC_int rfl, trivial⟩, rdN_le rfl⟩
  · rw [e2 (by assumption)]
    refine ⟨leF_tup ⟨leE_agg rfl fun i hi => ?_, leC_int rfl, trivial⟩, leN_var ⟨⟨trivial, leC_sl (fun _ => rfl) rfl rfl fun i _ j _ => leC_cell rfl⟩, leC_int ?_⟩⟩
    · have hm : Nat.min (b.length - q.toNat) (16 - 0) = 16 := by
        show min (b.length - q.toNat) 16 = 16
        omega
      iterate 16 (rcases i with _ | i; · exact leC_int (by rw [hm]; rfl))
      exact absurd hi (by omega)
    · exact IntWalk.i64_in _ (by omega)
/-! ### start -/
theorem and_bits : ∀ y : Fin 256, (bits .and .i64 (y.1 : Int) 8 ≠ 0 ↔ bitAt y.1 8 = true) ∧ (bits .and .i64 (y.1 : Int) 4 ≠ 0 ↔ bitAt y.1 4 = true) ∧ (bits .and .i64 (y.1 : Int) 64 ≠ 0 ↔ bitAt y.1 64 = true) ∧ (bits .and .i64 (y.1 : Int) 3 = y.1 % 4) ∧ (bits .and .i64 (y.1 : Int) 128 ≠ 0 ↔ 128 ≤ (y.1 : Int)) ∧ bits .and .i64 (y.1 / 16 : Int) 3 = y.1 / 16 % 4 ∧ bits .and .i64 (y.1 / 8 : Int) 3 = y.1 / 8 % 4 ∧ bits .and .i64 (y.1 : Int) 15 = y.1 % 16 := by decide +kernel
end Go.Proofs.YtjknkfjhcapocaaDoor.AX

/- The reference of layer 12: ForCompression (by AX2). -/
namespace Go.Proofs.YtjknkfjhcapocaaDoor.AX
open Go.RowKit
set_option linter.unusedVariables false
set_option linter.unusedSimpArgs false
structure FcS (l : List Ctx) (a : Fin 16 → Int) (now : Int) where
  i : Nat
  best : Ctx
  found : Bool
  hi : i ≤ l.length
  h1 : validT l = true ∧ vt now = true → foldC a now (default, false) l = foldC a now (best, found) (l.drop i)
  h2 : ¬ (validT l = true ∧ vt now = true) → (best, found) = (default, false)
end Go.Proofs.YtjknkfjhcapocaaDoor.AX

/- Addresses of the reference by AX2: Split, Join, LinkLocal. -/
namespace Go.Proofs.YtjknkfjhcapocaaDoor.AX
open Go.RowKit
set_option linter.unusedVariables false
set_option linter.unusedSimpArgs false
def LRa0 : CsL := LT2
theorem LRa0_ok : AllOk Tryd.prog LRa0 := LT2_ok
def linkF (a : Adr) : (Fin 16 → Int) × Bool := if (iidF a).2 = true then (jn llP.ip (iidF a).1, true) else (zeroA, false)
set_option maxRecDepth 20000 in
set_option maxHeartbeats 4000000 in
theorem rlink_ok (a : Adr) : PureOk Tryd.prog 32 [(cE eAdr).enc a] (encIpB (linkF a)) := by
  obtain ⟨J, eJ⟩ : ∃ J, linkF a = J := ⟨_, rfl⟩
  rw [eJ]
  unfold linkF at eJ
  obtain ⟨I, eI⟩ : ∃ x, iidF a = x := ⟨_, rfl⟩
  rw [eI] at eJ
  have hO := llP_of I.1
  obtain ⟨K, eK⟩ : ∃ K, jn llP.ip I.1 = K := ⟨_, rfl⟩
  rw [eK] at eJ hO
  refine pure_intro (wd := 1) (Q := mkQ LRa0) (by decide) tysOk (q_of LRa0_ok) mixed Tryd.func32 rfl _ (by show 1 ≤ _; decide) _ ?_
  repeat' (first | (apply And.intro <;> intro hc <;> (first | exact Bool.noConfusion hc | (simp only [decide_eq_true_eq, decide_eq_false_iff_not, Bool.not_eq_true', Bool.not_eq_false', beq_iff_eq, beq_eq_false_iff_ne, bne_iff_ne, bne_eq_false_iff_eq, Bool.true_eq_false, Bool.false_eq_true, ne_eq, not_true_eq_false] at hc <;> first | exact absurd rfl hc | skip) | skip)) | (refine And.intro (by first | exact trivial | decide | omega | (dsimp only; omega) | exact fun _ _ => rfl | exact ⟨by assumption, by first | exact trivial | decide | omega | (dsimp only; omega)⟩) ?_) | (apply And.intro) | (intro s hs; (first | (have q : I = s := (hs.trans ((congrArg iidF (rd_adr a)).trans eI)).symm; clear hs; subst q) | (have q : K = s := (hs.trans hO).symm; clear hs; subst q))))
  all_goals first
    | (have e : J = (zeroA, false) := by rw [← eJ]; exact if_neg (fun h => Bool.noConfusion (h.symm.trans (by assumption : I.2 = false)))
       rw [e]
       exact Done.mk (leF_tup ⟨leE_all (by repeat' (first | exact trivial | exact rfl | exact leC_int rfl | exact leC_bool rfl | refine leE_all ?_ | exact leC_bool (by assumption) | apply And.intro)), leC_bool rfl, trivial⟩))
    | (have e : J = (K, true) := by rw [← eJ]; exact if_pos (by assumption)
       rw [e]
       exact Done.mk (leF_tup ⟨leE_all (by repeat' (first | exact trivial | exact rfl | exact leC_int rfl | exact leC_bool rfl | refine leE_all ?_ | exact leC_bool (by assumption) | apply And.intro)), leC_bool rfl, trivial⟩))
    | skip
def LRa : CsL := (32, some (pureE (AC.cons (cE eAdr) AC.nil) (fun _ => True) (fun a => linkF a.1) encIpB)) :: LRa0
theorem LRa_ok : AllOk Tryd.prog LRa := ⟨pureE_ok ⟨_, Tryd.func32, rfl, by kernel_rfl⟩ fun a _ => rlink_ok a.1, LRa0_ok⟩
end Go.Proofs.YtjknkfjhcapocaaDoor.AX


/- The reference of layer 14 by AX2: zeros, multicast, unicast. -/
namespace Go.Proofs.YtjknkfjhcapocaaDoor.AX
open Go.RowKit
set_option linter.unusedVariables false
set_option linter.unusedSimpArgs false
structure RzS (a : Fin 16 → Int) (i j : Nat) where
  k : Nat
  hk : i ≤ k ∧ k ≤ j
  h : ∀ q, i ≤ q → q < k → vget a q = 0
end Go.Proofs.YtjknkfjhcapocaaDoor.AX

/- Structs that are read back out of cells. -/
namespace Go.Proofs.YtjknkfjhcapocaaDoor.AX
open Go.RowKit
set_option linter.unusedVariables false
set_option linter.unusedSimpArgs false
theorem ip_is {G : Nat → CV} {a : Fin 16 → Int} (h : ∀ j, j < 16 → G j = (eA .u8 16).cell a j) : (eA .u8 16).rd G = a := by
  funext q
  show valI (G q.1) = a q
  rw [h q.1 q.2]
  show vget a q.1 = a q
  exact vget_lt _ q.2
theorem pfx_is {G : Nat → CV} {p : Pfx} (h : ∀ j, j < 17 → G j = ePfx.cell p j) : ePfx.rd G = p := by
  have e : ePfx.rd G = ePfx.rd (ePfx.cell p) := by
    show Pfx.mk (fun q : Fin 16 => valI (G (0 + q.1))) (valI (G 16)) = Pfx.mk (fun q : Fin 16 => valI (ePfx.cell p (0 + q.1))) (valI (ePfx.cell p 16))
    rw [h 16 (by decide), show (fun q : Fin 16 => valI (G (0 + q.1))) = (fun q : Fin 16 => valI (ePfx.cell p (0 + q.1))) from funext fun q => congrArg valI (h (0 + q.1) (by omega))]
  exact e.trans (ePfx_rd p)
end Go.Proofs.YtjknkfjhcapocaaDoor.AX


/- The reference's reader of layer 14: entries; fail, take, uint. -/
namespace Go.Proofs.YtjknkfjhcapocaaDoor.AX
open Go.RowKit
set_option linter.unusedVariables false
set_option linter.unusedSimpArgs false
/-! ### fail, take, uint -/
def failS (e : Int) (bad : Bool) (c : Int) : Int := if bad = true ∧ e = 0 then c else e
end Go.Proofs.YtjknkfjhcapocaaDoor.AX


/- The program's reader: start. -/
namespace Go.Proofs.YtjknkfjhcapocaaDoor.AX
open Go.RowKit
set_option linter.unusedVariables false
set_option linter.unusedSimpArgs false
abbrev numE : Entry := rdE (AC.cons (cI .i64) AC.nil) (fun b q a => RdOk b q ∧ 1 ≤ a.1 ∧ a.1 ≤ 16) (fun b q a => numF b q a.1) encRN
abbrev ripE : Entry := rdE AC.nil (fun b q _ => RdOk b q) (fun b q _ => ipRF b q) encRA
def LRd0 : CsL := (82, some numE) :: (86, some ripE) :: (73, some (pureE AC.nil (fun _ => True) (fun _ => llP) (cE ePfx).enc)) :: LOc2
theorem LRd0_ok : AllOk Tryd.prog LRd0 := ⟨rdE_ok ⟨_, Tryd.func82, rfl, by kernel_rfl⟩ (fun r => encRN_flat r) fun b q a h => number_ok b q a.1 h.1 h.2, rdE_ok ⟨_, Tryd.func86, rfl, by kernel_rfl⟩ (fun r => encRA_flat r) fun b q a h => rip_ok b q h, pureE_ok ⟨_, Tryd.func73, rfl, by kernel_rfl⟩ fun _ _ => llp_ok, LOc2_ok⟩
abbrev encR3 (r : I3 × Int) : FV := .tup [.c (.int .i64 r.1.1), .c (.int .i64 r.1.2.1), .c (.int .i64 r.1.2.2), .c (.int .i64 r.2)]
theorem encR3_flat (r : I3 × Int) : FlatF (encR3 r) := flatF_tup fun x hx => by
  rcases List.mem_cons.1 hx with rfl | hx
  · exact flatE_c flat_int
  rcases List.mem_cons.1 hx with rfl | hx
  · exact flatE_c flat_int
  rcases List.mem_cons.1 hx with rfl | hx
  · exact flatE_c flat_int
  rcases List.mem_cons.1 hx with rfl | hx
  · exact flatE_c flat_int
  · cases hx
theorem num1_v {b : List Int} {q : Int} (hb : BL b) : 0 ≤ (numF b q 1).1.1 ∧ (numF b q 1).1.1 < 256 := by
  have := num_v (q := q) (n := 1) hb
  exact this
theorem bad_iff {y : Int} (h : 0 ≤ y ∧ y < 256) : badY y = true ↔ ¬ bits .and .i64 y 4 = 0 ∧ (¬ bits .and .i64 y 8 = 0 ∨ bits .and .i64 y 3 = 0) := by
  obtain ⟨m, rfl⟩ : ∃ m : Nat, y = m := ⟨y.toNat, by omega⟩
  obtain ⟨a1, a2, _, a3, _⟩ := and_bits ⟨m, by omega⟩
  unfold badY
  rw [Bool.and_eq_true, Bool.or_eq_true, decide_eq_true_eq]
  show _ ↔ bits .and .i64 (m : Int) 4 ≠ 0 ∧ (bits .and .i64 (m : Int) 8 ≠ 0 ∨ bits .and .i64 (m : Int) 3 = 0)
  rw [a1, a2, show bits .and .i64 (m : Int) 3 = m % 4 from a3]
theorem b128_iff {y : Int} (h : 0 ≤ y ∧ y < 256) : 128 ≤ y ↔ ¬ bits .and .i64 y 128 = 0 := by
  obtain ⟨m, rfl⟩ : ∃ m : Nat, y = m := ⟨y.toNat, by omega⟩
  obtain ⟨_, _, _, _, a, _⟩ := and_bits ⟨m, by omega⟩
  exact a.symm
set_option maxHeartbeats 4000000 in
set_option maxRecDepth 20000 in
theorem start_ok (b : List Int) (q : Int) (hr : RdOk b q) : MethOk Tryd.prog 58 [] (rdN true b q) (encR3 (startF b q).1) (rdN true b (startF b q).2) := by
  have v1 := num1_v (q := q) hr.bl
  have r1 := num_ok (n := 1) hr
  have v2 := num1_v (q := (numF b q 1).2) hr.bl
  have r2 := num_ok (n := 1) r1
  have v3 := num1_v (q := (numF b (numF b q 1).2 1).2) hr.bl
  have r3 := num_ok (n := 1) r2
  have eW : startF b q = startF b q := rfl
  conv at eW => rhs; unfold startF thenD
  obtain ⟨W, hW⟩ : ∃ W, startF b q = W := ⟨_, rfl⟩
  rw [hW] at eW ⊢
  dsimp only at eW
  obtain ⟨N1, e1⟩ : ∃ x, numF b q 1 = x := ⟨_, rfl⟩
  rw [e1] at v1 r1 v2 r2 v3 r3 eW
  obtain ⟨N2, e2⟩ : ∃ x, numF b N1.2 1 = x := ⟨_, rfl⟩
  rw [e2] at v2 r2 v3 r3 eW
  obtain ⟨N3, e3⟩ : ∃ x, numF b N2.2 1 = x := ⟨_, rfl⟩
  rw [e3] at v3 r3 eW
  have w1 : IntKind.i64.wrap N1.1.1 = N1.1.1 := IntWalk.i64_in _ (by omega)
  have w2 : IntKind.i64.wrap N2.1.1 = N2.1.1 := IntWalk.i64_in _ (by omega)
  have w3 : IntKind.i64.wrap N3.1.1 = N3.1.1 := IntWalk.i64_in _ (by omega)
  have hbad : badY N2.1.1 = true ↔ ¬ bits .and .i64 (IntKind.i64.wrap N2.1.1) 4 = 0 ∧ (¬ bits .and .i64 (IntKind.i64.wrap N2.1.1) 8 = 0 ∨ bits .and .i64 (IntKind.i64.wrap N2.1.1) 3 = 0) := by rw [w2]; exact bad_iff v2
  have h128 : 128 ≤ N2.1.1 ↔ ¬ bits .and .i64 (IntKind.i64.wrap N2.1.1) 128 = 0 := by rw [w2]; exact b128_iff v2
  have f1 : ¬ N1.1.2 = 0 → W = ((z3, N1.1.2), N1.2) := fun h => by rw [eW, if_neg h]
  have f2 : N1.1.2 = 0 → N1.1.1 < 96 ∨ 127 < N1.1.1 → W = ((z3, 5), N1.2) := fun h g => by rw [eW, if_pos h, if_pos g]
  have f3 : N1.1.2 = 0 → ¬ (N1.1.1 < 96 ∨ 127 < N1.1.1) → ¬ N2.1.2 = 0 → W = ((z3, N2.1.2), N2.2) := fun h g i => by rw [eW, if_pos h, if_neg g, if_neg i]
  have f4 : N1.1.2 = 0 → ¬ (N1.1.1 < 96 ∨ 127 < N1.1.1) → N2.1.2 = 0 → badY N2.1.1 = true → W = ((z3, 5), N2.2) := fun h g i j => by rw [eW, if_pos h, if_neg g, if_pos i, if_pos j]
  have f5 : N1.1.2 = 0 → ¬ (N1.1.1 < 96 ∨ 127 < N1.1.1) → N2.1.2 = 0 → ¬ badY N2.1.1 = true → ¬ 128 ≤ N2.1.1 → W = (((N1.1.1, N2.1.1, 0), 0), N2.2) := fun h g i j k => by rw [eW, if_pos h, if_neg g, if_pos i, if_neg j, if_neg k]
  have f6 : N1.1.2 = 0 → ¬ (N1.1.1 < 96 ∨ 127 < N1.1.1) → N2.1.2 = 0 → ¬ badY N2.1.1 = true → 128 ≤ N2.1.1 → ¬ N3.1.2 = 0 → W = ((z3, N3.1.2), N3.2) := fun h g i j k l => by rw [eW, if_pos h, if_neg g, if_pos i, if_neg j, if_pos k, if_neg l]
  have f7 : N1.1.2 = 0 → ¬ (N1.1.1 < 96 ∨ 127 < N1.1.1) → N2.1.2 = 0 → ¬ badY N2.1.1 = true → 128 ≤ N2.1.1 → N3.1.2 = 0 → W = (((N1.1.1, N2.1.1, N3.1.1), 0), N3.2) := fun h g i j k l => by rw [eW, if_pos h, if_neg g, if_pos i, if_neg j, if_pos k, if_pos l]
  clear eW
  clear hW
  have g1 : True := trivial
  have g2 : True := trivial
  have g3 : True := trivial
  refine meth_intro (wd := 1) (Q := mkQ LRd0) (by decide) tysOk (q_of LRd0_ok) mixed Tryd.func58 rfl _ (by show 0 + 1 ≤ _; decide) (flatF_nff (encR3_flat _)) (rdN_nf) ?_
  repeat' (first | (apply And.intro <;> intro hc <;> (first | exact Bool.noConfusion hc | (exfalso; first | exact absurd rfl hc) | (simp only [decide_eq_true_eq, decide_eq_false_iff_not, Bool.not_eq_true', Bool.not_eq_false', beq_iff_eq, beq_eq_false_iff_ne, bne_iff_ne, bne_eq_false_iff_eq, Bool.true_eq_false, Bool.false_eq_true, ne_eq, not_true_eq_false] at hc <;> first | exact absurd rfl hc | (exfalso; first | exact absurd rfl hc) | skip) | skip)) | (refine And.intro (by first | exact trivial | decide | omega | (dsimp only; omega) | exact fun _ _ => rfl | exact ⟨by assumption, by first | exact trivial | decide | omega | (dsimp only; omega)⟩) ?_) | (apply And.intro) | (refine Exists.intro b (And.intro ⟨rfl, rfl, by first | exact ⟨by assumption, by decide, by decide⟩⟩ ?_)) | (intro s hs; (first | (clear g1; have q : N1 = s := (hs.trans e1).symm; clear hs; subst q) | (clear g2; have q : N2 = s := (hs.trans e2).symm; clear hs; subst q) | (clear g3; have q : N3 = s := (hs.trans e3).symm; clear hs; subst q) | skip)))
  all_goals first
    | (rw [f1 (by assumption)]
       exact ⟨leF_tup ⟨leC_int rfl, leC_int rfl, leC_int rfl, leC_int rfl, trivial⟩, rdN_le rfl⟩)
    | (rw [f2 (by assumption) (by omega)]
       exact ⟨leF_tup ⟨leC_int rfl, leC_int rfl, leC_int rfl, leC_int rfl, trivial⟩, rdN_le rfl⟩)
    | (rw [f3 (by assumption) (by omega) (by assumption)]
       exact ⟨leF_tup ⟨leC_int rfl, leC_int rfl, leC_int rfl, leC_int rfl, trivial⟩, rdN_le rfl⟩)
    | (rw [f4 (by assumption) (by omega) (by assumption) (hbad.2 ⟨by assumption, .inl (by assumption)⟩)]
       exact ⟨leF_tup ⟨leC_int rfl, leC_int rfl, leC_int rfl, leC_int rfl, trivial⟩, rdN_le rfl⟩)
    | (rw [f4 (by assumption) (by omega) (by assumption) (hbad.2 ⟨by assumption, .inr (by assumption)⟩)]
       exact ⟨leF_tup ⟨leC_int rfl, leC_int rfl, leC_int rfl, leC_int rfl, trivial⟩, rdN_le rfl⟩)
    | (rw [f5 (by assumption) (by omega) (by assumption) (fun h => (hbad.1 h).1 (by assumption)) (fun h => absurd (by assumption) (h128.1 h))]
       exact ⟨leF_tup ⟨leC_int w1, leC_int w2, leC_int rfl, leC_int rfl, trivial⟩, rdN_le rfl⟩)
    | (rw [f6 (by assumption) (by omega) (by assumption) (fun h => (hbad.1 h).1 (by assumption)) (h128.2 (by assumption)) (by assumption)]
       exact ⟨leF_tup ⟨leC_int rfl, leC_int rfl, leC_int rfl, leC_int rfl, trivial⟩, rdN_le rfl⟩)
    | (rw [f7 (by assumption) (by omega) (by assumption) (fun h => (hbad.1 h).1 (by assumption)) (h128.2 (by assumption)) (by assumption)]
       exact ⟨leF_tup ⟨leC_int w1, leC_int w2, leC_int w3, leC_int rfl, trivial⟩, rdN_le rfl⟩)
    | (rw [f5 (by assumption) (by omega) (by assumption) (fun h => (hbad.1 h).2.elim (fun g => g (by assumption)) (fun g => absurd g (by assumption))) (fun h => absurd (by assumption) (h128.1 h))]
       exact ⟨leF_tup ⟨leC_int w1, leC_int w2, leC_int rfl, leC_int rfl, trivial⟩, rdN_le rfl⟩)
    | (rw [f6 (by assumption) (by omega) (by assumption) (fun h => (hbad.1 h).2.elim (fun g => g (by assumption)) (fun g => absurd g (by assumption))) (h128.2 (by assumption)) (by assumption)]
       exact ⟨leF_tup ⟨leC_int rfl, leC_int rfl, leC_int rfl, leC_int rfl, trivial⟩, rdN_le rfl⟩)
    | (rw [f7 (by assumption) (by omega) (by assumption) (fun h => (hbad.1 h).2.elim (fun g => g (by assumption)) (fun g => absurd g (by assumption))) (h128.2 (by assumption)) (by assumption)]
       exact ⟨leF_tup ⟨leC_int w1, leC_int w2, leC_int w3, leC_int rfl, trivial⟩, rdN_le rfl⟩)
    | skip
end Go.Proofs.YtjknkfjhcapocaaDoor.AX

/- The program's reader: fields. (Printed by gen/rdfields.py.) -/
namespace Go.Proofs.YtjknkfjhcapocaaDoor.AX
open Go.RowKit
set_option linter.unusedVariables false
set_option linter.unusedSimpArgs false
def tkE : Entry := inlE T (mkQ LRd0) 1 Tryd.f83.ntmps Tryd.f83.results.toList (Tryd.f83.body.getD Code.ret)
theorem tkE_ok : EntOk Tryd.prog 83 tkE := inlE_ok (by decide) tysOk (q_of LRd0_ok) (mono_of LRd0_ok) mixed Tryd.func83 rfl rfl
def LRd1 : CsL := (83, some tkE) :: LRd0
theorem LRd1_ok : AllOk Tryd.prog LRd1 := ⟨tkE_ok, LRd0_ok⟩
abbrev encRH (r : Hdr × Int) : FV := .tup [.agg 39 (tailC eHd r.1 .nils), .c (.int .i64 r.2)]
theorem flat_nils : FlatC .nils := fun _ _ _ _ _ _ _ _ _ h => h
theorem encRH_flat (r : Hdr × Int) : FlatF (encRH r) := flatF_tup fun x hx => by
  rcases List.mem_cons.1 hx with rfl | hx
  · refine flatE_agg fun i => ?_
    unfold tailC
    cases Nat.blt i eHd.sz with
    | true => exact eHd.flat _ _
    | false => exact flat_nils
  rcases List.mem_cons.1 hx with rfl | hx
  · exact flatE_c flat_int
  · cases hx
theorem num3_v {b : List Int} {q : Int} (hb : BL b) : 0 ≤ (numF b q 3).1.1 ∧ (numF b q 3).1.1 < 16777216 := by
  have := num_v (q := q) (n := 3) hb
  exact this
theorem leE_tl {c : Wc} {g : Nat → CV} {h : Hdr} (hc : ∀ j, j < 38 → LeC c (g j) (eHd.cell h j)) (hl : LeC c (g 38) .nils) : LeE c (.agg 39 g) (.agg 39 (tailC eHd h .nils)) := leE_tail (E := eHd) (last := .nils) rfl hc hl
end Go.Proofs.YtjknkfjhcapocaaDoor.AX

/- fields of the program's reader, part. (Printed by gen/rdfields.py.) -/
namespace Go.Proofs.YtjknkfjhcapocaaDoor.AX
open Go.RowKit
set_option linter.unusedVariables false
set_option linter.unusedSimpArgs false
set_option maxHeartbeats 4000000 in
set_option maxRecDepth 20000 in
theorem fields_96 (b : List Int) (q : Int) (hr : RdOk b q) : MethOk Tryd.prog 59 [(cI .i64).enc 96] (rdN true b q) (encRH (fieldsD b 96 q).1) (rdN true b (fieldsD b 96 q).2) := by
  obtain ⟨W, hW⟩ : ∃ W, fieldsD b 96 q = W := ⟨_, rfl⟩
  have eW : W = (if (numF b q 1).1.2 = 0 then (if (numF b (numF b q 1).2 3).1.2 = 0 then (if 1048575 < (numF b (numF b q 1).2 3).1.1 then ((zeroH, 5), (numF b (numF b q 1).2 3).2) else (if (numF b (numF b (numF b q 1).2 3).2 1).1.2 = 0 then (if (numF b (numF b (numF b q 1).2 3).2 1).1.1 = 17 then ((zeroH, 5), (numF b (numF b (numF b q 1).2 3).2 1).2) else (if (numF b (numF b (numF b (numF b q 1).2 3).2 1).2 1).1.2 = 0 then ((⟨(numF b q 1).1.1, (numF b (numF b q 1).2 3).1.1, (numF b (numF b (numF b q 1).2 3).2 1).1.1, (numF b (numF b (numF b (numF b q 1).2 3).2 1).2 1).1.1, zeroA, zeroA, 0, 0⟩, 0), (numF b (numF b (numF b (numF b q 1).2 3).2 1).2 1).2) else ((zeroH, (numF b (numF b (numF b (numF b q 1).2 3).2 1).2 1).1.2), (numF b (numF b (numF b (numF b q 1).2 3).2 1).2 1).2))) else ((zeroH, (numF b (numF b (numF b q 1).2 3).2 1).1.2), (numF b (numF b (numF b q 1).2 3).2 1).2))) else ((zeroH, (numF b (numF b q 1).2 3).1.2), (numF b (numF b q 1).2 3).2)) else ((zeroH, (numF b q 1).1.2), (numF b q 1).2)) := by
    rw [← hW]
    simp (decide := true) only [fieldsD, thenD, hopV, if_true, if_false, true_and, and_true, false_and]
  rw [hW]
  clear hW
  have v1 := num1_v (q := q) hr.bl
  have r1 := num_ok (n := 1) hr
  obtain ⟨N1, e1⟩ : ∃ x, numF b q 1 = x := ⟨_, rfl⟩
  rw [e1] at v1 r1 eW
  have v2 := num3_v (q := N1.2) hr.bl
  have r2 := num_ok (n := 3) r1
  obtain ⟨N2, e2⟩ : ∃ x, numF b N1.2 3 = x := ⟨_, rfl⟩
  rw [e2] at v2 r2 eW
  have v3 := num1_v (q := N2.2) hr.bl
  have r3 := num_ok (n := 1) r2
  obtain ⟨N3, e3⟩ : ∃ x, numF b N2.2 1 = x := ⟨_, rfl⟩
  rw [e3] at v3 r3 eW
  have v4 := num1_v (q := N3.2) hr.bl
  have r4 := num_ok (n := 1) r3
  obtain ⟨N4, e4⟩ : ∃ x, numF b N3.2 1 = x := ⟨_, rfl⟩
  rw [e4] at v4 r4 eW
  have wc : IntKind.u8.wrap N1.1.1 = N1.1.1 := IntWalk.u8_in _ (by omega)
  have wf : IntKind.u32.wrap N2.1.1 = N2.1.1 := IntWalk.u32_in _ (by omega)
  have wn : IntKind.u8.wrap N3.1.1 = N3.1.1 := IntWalk.u8_in _ (by omega)
  have wh : IntKind.u8.wrap N4.1.1 = N4.1.1 := IntWalk.u8_in _ (by omega)
  have f0 : (¬ N1.1.2 = 0) → W = ((zeroH, N1.1.2), N1.2) := fun h0 => by rw [eW, if_neg h0]
  have f1 : (N1.1.2 = 0) → (¬ N2.1.2 = 0) → W = ((zeroH, N2.1.2), N2.2) := fun h0 h1 => by rw [eW, if_pos h0, if_neg h1]
  have f2 : (N1.1.2 = 0) → (N2.1.2 = 0) → (1048575 < N2.1.1) → W = ((zeroH, 5), N2.2) := fun h0 h1 h2 => by rw [eW, if_pos h0, if_pos h1, if_pos h2]
  have f3 : (N1.1.2 = 0) → (N2.1.2 = 0) → (¬ 1048575 < N2.1.1) → (¬ N3.1.2 = 0) → W = ((zeroH, N3.1.2), N3.2) := fun h0 h1 h2 h3 => by rw [eW, if_pos h0, if_pos h1, if_neg h2, if_neg h3]
  have f4 : (N1.1.2 = 0) → (N2.1.2 = 0) → (¬ 1048575 < N2.1.1) → (N3.1.2 = 0) → (N3.1.1 = 17) → W = ((zeroH, 5), N3.2) := fun h0 h1 h2 h3 h4 => by rw [eW, if_pos h0, if_pos h1, if_neg h2, if_pos h3, if_pos h4]
  have f5 : (N1.1.2 = 0) → (N2.1.2 = 0) → (¬ 1048575 < N2.1.1) → (N3.1.2 = 0) → (¬ N3.1.1 = 17) → (¬ N4.1.2 = 0) → W = ((zeroH, N4.1.2), N4.2) := fun h0 h1 h2 h3 h4 h5 => by rw [eW, if_pos h0, if_pos h1, if_neg h2, if_pos h3, if_neg h4, if_neg h5]
  have f6 : (N1.1.2 = 0) → (N2.1.2 = 0) → (¬ 1048575 < N2.1.1) → (N3.1.2 = 0) → (¬ N3.1.1 = 17) → (N4.1.2 = 0) → W = ((⟨N1.1.1, N2.1.1, N3.1.1, N4.1.1, zeroA, zeroA, 0, 0⟩, 0), N4.2) := fun h0 h1 h2 h3 h4 h5 => by rw [eW, if_pos h0, if_pos h1, if_neg h2, if_pos h3, if_neg h4, if_pos h5]
  clear eW
  have g1 : True := trivial
  have g2 : True := trivial
  have g3 : True := trivial
  have g4 : True := trivial
  refine meth_intro (wd := 64) (Q := mkQ LRd1) (by decide) tysOk (q_of LRd1_ok) mixed Tryd.func59 rfl _ (by show 1 + 1 ≤ _; decide) (flatF_nff (encRH_flat _)) (rdN_nf) ?_
  repeat' (first | (apply And.intro <;> intro hc <;> (first | exact Bool.noConfusion hc | (exfalso; first | exact absurd hc (by decide) | exact absurd rfl hc | exact absurd hc (by assumption) | exact absurd (by assumption) hc) | (simp only [decide_eq_true_eq, decide_eq_false_iff_not, Bool.not_eq_true', Bool.not_eq_false', beq_iff_eq, beq_eq_false_iff_ne, bne_iff_ne, bne_eq_false_iff_eq, Bool.true_eq_false, Bool.false_eq_true, ne_eq, not_true_eq_false] at hc <;> first | exact absurd rfl hc | (exfalso; first | exact absurd hc (by decide) | exact absurd rfl hc | exact absurd hc (by assumption) | exact absurd (by assumption) hc) | skip) | skip)) | (refine And.intro (by first | exact trivial | decide | omega | (dsimp only; omega) | exact fun _ _ => rfl | exact ⟨by assumption, by first | exact trivial | decide | omega | (dsimp only; omega)⟩) ?_) | (apply And.intro) | (refine Exists.intro b (And.intro ⟨rfl, rfl, by first | exact ⟨by assumption, by decide, by decide⟩⟩ ?_)) | (intro s hs; (first | (clear g1; have q : N1 = s := (hs.trans e1).symm; clear hs; subst q) | (clear g2; have q : N2 = s := (hs.trans e2).symm; clear hs; subst q) | (clear g3; have q : N3 = s := (hs.trans e3).symm; clear hs; subst q) | (clear g4; have q : N4 = s := (hs.trans e4).symm; clear hs; subst q) | skip)))
  all_goals try (first | exact rfl | exact Nat.le_of_ble_eq_true rfl)
  all_goals first
    | (rw [f0 (by assumption)]
       exact ⟨leF_tup ⟨leE_tl (fun j hj => by (iterate 38 (rcases j with _ | j; exact leC_int rfl)); exact absurd hj (by omega)) leC_nils, leC_int rfl, trivial⟩, rdN_le rfl⟩)
    | (rw [f1 (by assumption) (by assumption)]
       exact ⟨leF_tup ⟨leE_tl (fun j hj => by (iterate 38 (rcases j with _ | j; exact leC_int rfl)); exact absurd hj (by omega)) leC_nils, leC_int rfl, trivial⟩, rdN_le rfl⟩)
    | (rw [f2 (by assumption) (by assumption) (by rw [← wf]; assumption)]
       exact ⟨leF_tup ⟨leE_tl (fun j hj => by (iterate 38 (rcases j with _ | j; exact leC_int rfl)); exact absurd hj (by omega)) leC_nils, leC_int rfl, trivial⟩, rdN_le rfl⟩)
    | (rw [f3 (by assumption) (by assumption) (by rw [← wf]; assumption) (by assumption)]
       exact ⟨leF_tup ⟨leE_tl (fun j hj => by (iterate 38 (rcases j with _ | j; exact leC_int rfl)); exact absurd hj (by omega)) leC_nils, leC_int rfl, trivial⟩, rdN_le rfl⟩)
    | (rw [f4 (by assumption) (by assumption) (by rw [← wf]; assumption) (by assumption) (by rw [← wn]; assumption)]
       exact ⟨leF_tup ⟨leE_tl (fun j hj => by (iterate 38 (rcases j with _ | j; exact leC_int rfl)); exact absurd hj (by omega)) leC_nils, leC_int rfl, trivial⟩, rdN_le rfl⟩)
    | (rw [f5 (by assumption) (by assumption) (by rw [← wf]; assumption) (by assumption) (by rw [← wn]; assumption) (by assumption)]
       exact ⟨leF_tup ⟨leE_tl (fun j hj => by (iterate 38 (rcases j with _ | j; exact leC_int rfl)); exact absurd hj (by omega)) leC_nils, leC_int rfl, trivial⟩, rdN_le rfl⟩)
    | (rw [f6 (by assumption) (by assumption) (by rw [← wf]; assumption) (by assumption) (by rw [← wn]; assumption) (by assumption)]
       exact ⟨leF_tup ⟨leE_tl (fun j hj => by (rcases j with _ | j; exact leC_int wc); (rcases j with _ | j; exact leC_int wf); (rcases j with _ | j; exact leC_int wn); (rcases j with _ | j; exact leC_int wh); (iterate 34 (rcases j with _ | j; exact leC_int rfl)); exact absurd hj (by omega)) leC_nils, leC_int rfl, trivial⟩, rdN_le rfl⟩)
    | skip
set_option maxHeartbeats 4000000 in
set_option maxRecDepth 20000 in
theorem fields_100 (b : List Int) (q : Int) (hr : RdOk b q) : MethOk Tryd.prog 59 [(cI .i64).enc 100] (rdN true b q) (encRH (fieldsD b 100 q).1) (rdN true b (fieldsD b 100 q).2) := by
  obtain ⟨W, hW⟩ : ∃ W, fieldsD b 100 q = W := ⟨_, rfl⟩
  have eW : W = (if (numF b q 1).1.2 = 0 then (if (numF b (numF b q 1).2 3).1.2 = 0 then (if 1048575 < (numF b (numF b q 1).2 3).1.1 then ((zeroH, 5), (numF b (numF b q 1).2 3).2) else (if (numF b (numF b (numF b q 1).2 3).2 1).1.2 = 0 then ((⟨(numF b q 1).1.1, (numF b (numF b q 1).2 3).1.1, 17, (numF b (numF b (numF b q 1).2 3).2 1).1.1, zeroA, zeroA, 0, 0⟩, 0), (numF b (numF b (numF b q 1).2 3).2 1).2) else ((zeroH, (numF b (numF b (numF b q 1).2 3).2 1).1.2), (numF b (numF b (numF b q 1).2 3).2 1).2))) else ((zeroH, (numF b (numF b q 1).2 3).1.2), (numF b (numF b q 1).2 3).2)) else ((zeroH, (numF b q 1).1.2), (numF b q 1).2)) := by
    rw [← hW]
    simp (decide := true) only [fieldsD, thenD, hopV, if_true, if_false, true_and, and_true, false_and]
  rw [hW]
  clear hW
  have v1 := num1_v (q := q) hr.bl
  have r1 := num_ok (n := 1) hr
  obtain ⟨N1, e1⟩ : ∃ x, numF b q 1 = x := ⟨_, rfl⟩
  rw [e1] at v1 r1 eW
  have v2 := num3_v (q := N1.2) hr.bl
  have r2 := num_ok (n := 3) r1
  obtain ⟨N2, e2⟩ : ∃ x, numF b N1.2 3 = x := ⟨_, rfl⟩
  rw [e2] at v2 r2 eW
  have v3 := num1_v (q := N2.2) hr.bl
  have r3 := num_ok (n := 1) r2
  obtain ⟨N3, e3⟩ : ∃ x, numF b N2.2 1 = x := ⟨_, rfl⟩
  rw [e3] at v3 r3 eW
  have wc : IntKind.u8.wrap N1.1.1 = N1.1.1 := IntWalk.u8_in _ (by omega)
  have wf : IntKind.u32.wrap N2.1.1 = N2.1.1 := IntWalk.u32_in _ (by omega)
  have wh : IntKind.u8.wrap N3.1.1 = N3.1.1 := IntWalk.u8_in _ (by omega)
  have f0 : (¬ N1.1.2 = 0) → W = ((zeroH, N1.1.2), N1.2) := fun h0 => by rw [eW, if_neg h0]
  have f1 : (N1.1.2 = 0) → (¬ N2.1.2 = 0) → W = ((zeroH, N2.1.2), N2.2) := fun h0 h1 => by rw [eW, if_pos h0, if_neg h1]
  have f2 : (N1.1.2 = 0) → (N2.1.2 = 0) → (1048575 < N2.1.1) → W = ((zeroH, 5), N2.2) := fun h0 h1 h2 => by rw [eW, if_pos h0, if_pos h1, if_pos h2]
  have f3 : (N1.1.2 = 0) → (N2.1.2 = 0) → (¬ 1048575 < N2.1.1) → (¬ N3.1.2 = 0) → W = ((zeroH, N3.1.2), N3.2) := fun h0 h1 h2 h3 => by rw [eW, if_pos h0, if_pos h1, if_neg h2, if_neg h3]
  have f4 : (N1.1.2 = 0) → (N2.1.2 = 0) → (¬ 1048575 < N2.1.1) → (N3.1.2 = 0) → W = ((⟨N1.1.1, N2.1.1, 17, N3.1.1, zeroA, zeroA, 0, 0⟩, 0), N3.2) := fun h0 h1 h2 h3 => by rw [eW, if_pos h0, if_pos h1, if_neg h2, if_pos h3]
  clear eW
  have g1 : True := trivial
  have g2 : True := trivial
  have g3 : True := trivial
  refine meth_intro (wd := 64) (Q := mkQ LRd1) (by decide) tysOk (q_of LRd1_ok) mixed Tryd.func59 rfl _ (by show 1 + 1 ≤ _; decide) (flatF_nff (encRH_flat _)) (rdN_nf) ?_
  repeat' (first | (apply And.intro <;> intro hc <;> (first | exact Bool.noConfusion hc | (exfalso; first | exact absurd hc (by decide) | exact absurd rfl hc | exact absurd hc (by assumption) | exact absurd (by assumption) hc) | (simp only [decide_eq_true_eq, decide_eq_false_iff_not, Bool.not_eq_true', Bool.not_eq_false', beq_iff_eq, beq_eq_false_iff_ne, bne_iff_ne, bne_eq_false_iff_eq, Bool.true_eq_false, Bool.false_eq_true, ne_eq, not_true_eq_false] at hc <;> first | exact absurd rfl hc | (exfalso; first | exact absurd hc (by decide) | exact absurd rfl hc | exact absurd hc (by assumption) | exact absurd (by assumption) hc) | skip) | skip)) | (refine And.intro (by first | exact trivial | decide | omega | (dsimp only; omega) | exact fun _ _ => rfl | exact ⟨by assumption, by first | exact trivial | decide | omega | (dsimp only; omega)⟩) ?_) | (apply And.intro) | (refine Exists.intro b (And.intro ⟨rfl, rfl, by first | exact ⟨by assumption, by decide, by decide⟩⟩ ?_)) | (intro s hs; (first | (clear g1; have q : N1 = s := (hs.trans e1).symm; clear hs; subst q) | (clear g2; have q : N2 = s := (hs.trans e2).symm; clear hs; subst q) | (clear g3; have q : N3 = s := (hs.trans e3).symm; clear hs; subst q) | skip)))
  all_goals try (first | exact rfl | exact Nat.le_of_ble_eq_true rfl)
  all_goals first
    | (rw [f0 (by assumption)]
       exact ⟨leF_tup ⟨leE_tl (fun j hj => by (iterate 38 (rcases j with _ | j; exact leC_int rfl)); exact absurd hj (by omega)) leC_nils, leC_int rfl, trivial⟩, rdN_le rfl⟩)
    | (rw [f1 (by assumption) (by assumption)]
       exact ⟨leF_tup ⟨leE_tl (fun j hj => by (iterate 38 (rcases j with _ | j; exact leC_int rfl)); exact absurd hj (by omega)) leC_nils, leC_int rfl, trivial⟩, rdN_le rfl⟩)
    | (rw [f2 (by assumption) (by assumption) (by rw [← wf]; assumption)]
       exact ⟨leF_tup ⟨leE_tl (fun j hj => by (iterate 38 (rcases j with _ | j; exact leC_int rfl)); exact absurd hj (by omega)) leC_nils, leC_int rfl, trivial⟩, rdN_le rfl⟩)
    | (rw [f3 (by assumption) (by assumption) (by rw [← wf]; assumption) (by assumption)]
       exact ⟨leF_tup ⟨leE_tl (fun j hj => by (iterate 38 (rcases j with _ | j; exact leC_int rfl)); exact absurd hj (by omega)) leC_nils, leC_int rfl, trivial⟩, rdN_le rfl⟩)
    | (rw [f4 (by assumption) (by assumption) (by rw [← wf]; assumption) (by assumption)]
       exact ⟨leF_tup ⟨leE_tl (fun j hj => by (rcases j with _ | j; exact leC_int wc); (rcases j with _ | j; exact leC_int wf); (rcases j with _ | j; exact leC_int rfl); (rcases j with _ | j; exact leC_int wh); (iterate 34 (rcases j with _ | j; exact leC_int rfl)); exact absurd hj (by omega)) leC_nils, leC_int rfl, trivial⟩, rdN_le rfl⟩)
    | skip
set_option maxHeartbeats 4000000 in
set_option maxRecDepth 20000 in
theorem fields_104 (b : List Int) (q : Int) (hr : RdOk b q) : MethOk Tryd.prog 59 [(cI .i64).enc 104] (rdN true b q) (encRH (fieldsD b 104 q).1) (rdN true b (fieldsD b 104 q).2) := by
  obtain ⟨W, hW⟩ : ∃ W, fieldsD b 104 q = W := ⟨_, rfl⟩
  have eW : W = (if (numF b q 3).1.2 = 0 then (if 1048575 < (numF b q 3).1.1 then ((zeroH, 5), (numF b q 3).2) else (if (numF b (numF b q 3).2 1).1.2 = 0 then (if (numF b (numF b q 3).2 1).1.1 = 17 then ((zeroH, 5), (numF b (numF b q 3).2 1).2) else (if (numF b (numF b (numF b q 3).2 1).2 1).1.2 = 0 then ((⟨0, (numF b q 3).1.1, (numF b (numF b q 3).2 1).1.1, (numF b (numF b (numF b q 3).2 1).2 1).1.1, zeroA, zeroA, 0, 0⟩, 0), (numF b (numF b (numF b q 3).2 1).2 1).2) else ((zeroH, (numF b (numF b (numF b q 3).2 1).2 1).1.2), (numF b (numF b (numF b q 3).2 1).2 1).2))) else ((zeroH, (numF b (numF b q 3).2 1).1.2), (numF b (numF b q 3).2 1).2))) else ((zeroH, (numF b q 3).1.2), (numF b q 3).2)) := by
    rw [← hW]
    simp (decide := true) only [fieldsD, thenD, hopV, if_true, if_false, true_and, and_true, false_and]
  rw [hW]
  clear hW
  have v1 := num3_v (q := q) hr.bl
  have r1 := num_ok (n := 3) hr
  obtain ⟨N1, e1⟩ : ∃ x, numF b q 3 = x := ⟨_, rfl⟩
  rw [e1] at v1 r1 eW
  have v2 := num1_v (q := N1.2) hr.bl
  have r2 := num_ok (n := 1) r1
  obtain ⟨N2, e2⟩ : ∃ x, numF b N1.2 1 = x := ⟨_, rfl⟩
  rw [e2] at v2 r2 eW
  have v3 := num1_v (q := N2.2) hr.bl
  have r3 := num_ok (n := 1) r2
  obtain ⟨N3, e3⟩ : ∃ x, numF b N2.2 1 = x := ⟨_, rfl⟩
  rw [e3] at v3 r3 eW
  have wf : IntKind.u32.wrap N1.1.1 = N1.1.1 := IntWalk.u32_in _ (by omega)
  have wn : IntKind.u8.wrap N2.1.1 = N2.1.1 := IntWalk.u8_in _ (by omega)
  have wh : IntKind.u8.wrap N3.1.1 = N3.1.1 := IntWalk.u8_in _ (by omega)
  have f0 : (¬ N1.1.2 = 0) → W = ((zeroH, N1.1.2), N1.2) := fun h0 => by rw [eW, if_neg h0]
  have f1 : (N1.1.2 = 0) → (1048575 < N1.1.1) → W = ((zeroH, 5), N1.2) := fun h0 h1 => by rw [eW, if_pos h0, if_pos h1]
  have f2 : (N1.1.2 = 0) → (¬ 1048575 < N1.1.1) → (¬ N2.1.2 = 0) → W = ((zeroH, N2.1.2), N2.2) := fun h0 h1 h2 => by rw [eW, if_pos h0, if_neg h1, if_neg h2]
  have f3 : (N1.1.2 = 0) → (¬ 1048575 < N1.1.1) → (N2.1.2 = 0) → (N2.1.1 = 17) → W = ((zeroH, 5), N2.2) := fun h0 h1 h2 h3 => by rw [eW, if_pos h0, if_neg h1, if_pos h2, if_pos h3]
  have f4 : (N1.1.2 = 0) → (¬ 1048575 < N1.1.1) → (N2.1.2 = 0) → (¬ N2.1.1 = 17) → (¬ N3.1.2 = 0) → W = ((zeroH, N3.1.2), N3.2) := fun h0 h1 h2 h3 h4 => by rw [eW, if_pos h0, if_neg h1, if_pos h2, if_neg h3, if_neg h4]
  have f5 : (N1.1.2 = 0) → (¬ 1048575 < N1.1.1) → (N2.1.2 = 0) → (¬ N2.1.1 = 17) → (N3.1.2 = 0) → W = ((⟨0, N1.1.1, N2.1.1, N3.1.1, zeroA, zeroA, 0, 0⟩, 0), N3.2) := fun h0 h1 h2 h3 h4 => by rw [eW, if_pos h0, if_neg h1, if_pos h2, if_neg h3, if_pos h4]
  clear eW
  have g1 : True := trivial
  have g2 : True := trivial
  have g3 : True := trivial
  refine meth_intro (wd := 64) (Q := mkQ LRd1) (by decide) tysOk (q_of LRd1_ok) mixed Tryd.func59 rfl _ (by show 1 + 1 ≤ _; decide) (flatF_nff (encRH_flat _)) (rdN_nf) ?_
  repeat' (first | (apply And.intro <;> intro hc <;> (first | exact Bool.noConfusion hc | (exfalso; first | exact absurd hc (by decide) | exact absurd rfl hc | exact absurd hc (by assumption) | exact absurd (by assumption) hc) | (simp only [decide_eq_true_eq, decide_eq_false_iff_not, Bool.not_eq_true', Bool.not_eq_false', beq_iff_eq, beq_eq_false_iff_ne, bne_iff_ne, bne_eq_false_iff_eq, Bool.true_eq_false, Bool.false_eq_true, ne_eq, not_true_eq_false] at hc <;> first | exact absurd rfl hc | (exfalso; first | exact absurd hc (by decide) | exact absurd rfl hc | exact absurd hc (by assumption) | exact absurd (by assumption) hc) | skip) | skip)) | (refine And.intro (by first | exact trivial | decide | omega | (dsimp only; omega) | exact fun _ _ => rfl | exact ⟨by assumption, by first | exact trivial | decide | omega | (dsimp only; omega)⟩) ?_) | (apply And.intro) | (refine Exists.intro b (And.intro ⟨rfl, rfl, by first | exact ⟨by assumption, by decide, by decide⟩⟩ ?_)) | (intro s hs; (first | (clear g1; have q : N1 = s := (hs.trans e1).symm; clear hs; subst q) | (clear g2; have q : N2 = s := (hs.trans e2).symm; clear hs; subst q) | (clear g3; have q : N3 = s := (hs.trans e3).symm; clear hs; subst q) | skip)))
  all_goals try (first | exact rfl | exact Nat.le_of_ble_eq_true rfl)
  all_goals first
    | (rw [f0 (by assumption)]
       exact ⟨leF_tup ⟨leE_tl (fun j hj => by (iterate 38 (rcases j with _ | j; exact leC_int rfl)); exact absurd hj (by omega)) leC_nils, leC_int rfl, trivial⟩, rdN_le rfl⟩)
    | (rw [f1 (by assumption) (by rw [← wf]; assumption)]
       exact ⟨leF_tup ⟨leE_tl (fun j hj => by (iterate 38 (rcases j with _ | j; exact leC_int rfl)); exact absurd hj (by omega)) leC_nils, leC_int rfl, trivial⟩, rdN_le rfl⟩)
    | (rw [f2 (by assumption) (by rw [← wf]; assumption) (by assumption)]
       exact ⟨leF_tup ⟨leE_tl (fun j hj => by (iterate 38 (rcases j with _ | j; exact leC_int rfl)); exact absurd hj (by omega)) leC_nils, leC_int rfl, trivial⟩, rdN_le rfl⟩)
    | (rw [f3 (by assumption) (by rw [← wf]; assumption) (by assumption) (by rw [← wn]; assumption)]
       exact ⟨leF_tup ⟨leE_tl (fun j hj => by (iterate 38 (rcases j with _ | j; exact leC_int rfl)); exact absurd hj (by omega)) leC_nils, leC_int rfl, trivial⟩, rdN_le rfl⟩)
    | (rw [f4 (by assumption) (by rw [← wf]; assumption) (by assumption) (by rw [← wn]; assumption) (by assumption)]
       exact ⟨leF_tup ⟨leE_tl (fun j hj => by (iterate 38 (rcases j with _ | j; exact leC_int rfl)); exact absurd hj (by omega)) leC_nils, leC_int rfl, trivial⟩, rdN_le rfl⟩)
    | (rw [f5 (by assumption) (by rw [← wf]; assumption) (by assumption) (by rw [← wn]; assumption) (by assumption)]
       exact ⟨leF_tup ⟨leE_tl (fun j hj => by (rcases j with _ | j; exact leC_int rfl); (rcases j with _ | j; exact leC_int wf); (rcases j with _ | j; exact leC_int wn); (rcases j with _ | j; exact leC_int wh); (iterate 34 (rcases j with _ | j; exact leC_int rfl)); exact absurd hj (by omega)) leC_nils, leC_int rfl, trivial⟩, rdN_le rfl⟩)
    | skip
set_option maxHeartbeats 4000000 in
set_option maxRecDepth 20000 in
theorem fields_108 (b : List Int) (q : Int) (hr : RdOk b q) : MethOk Tryd.prog 59 [(cI .i64).enc 108] (rdN true b q) (encRH (fieldsD b 108 q).1) (rdN true b (fieldsD b 108 q).2) := by
  obtain ⟨W, hW⟩ : ∃ W, fieldsD b 108 q = W := ⟨_, rfl⟩
  have eW : W = (if (numF b q 3).1.2 = 0 then (if 1048575 < (numF b q 3).1.1 then ((zeroH, 5), (numF b q 3).2) else (if (numF b (numF b q 3).2 1).1.2 = 0 then ((⟨0, (numF b q 3).1.1, 17, (numF b (numF b q 3).2 1).1.1, zeroA, zeroA, 0, 0⟩, 0), (numF b (numF b q 3).2 1).2) else ((zeroH, (numF b (numF b q 3).2 1).1.2), (numF b (numF b q 3).2 1).2))) else ((zeroH, (numF b q 3).1.2), (numF b q 3).2)) := by
    rw [← hW]
    simp (decide := true) only [fieldsD, thenD, hopV, if_true, if_false, true_and, and_true, false_and]
  rw [hW]
  clear hW
  have v1 := num3_v (q := q) hr.bl
  have r1 := num_ok (n := 3) hr
  obtain ⟨N1, e1⟩ : ∃ x, numF b q 3 = x := ⟨_, rfl⟩
  rw [e1] at v1 r1 eW
  have v2 := num1_v (q := N1.2) hr.bl
  have r2 := num_ok (n := 1) r1
  obtain ⟨N2, e2⟩ : ∃ x, numF b N1.2 1 = x := ⟨_, rfl⟩
  rw [e2] at v2 r2 eW
  have wf : IntKind.u32.wrap N1.1.1 = N1.1.1 := IntWalk.u32_in _ (by omega)
  have wh : IntKind.u8.wrap N2.1.1 = N2.1.1 := IntWalk.u8_in _ (by omega)
  have f0 : (¬ N1.1.2 = 0) → W = ((zeroH, N1.1.2), N1.2) := fun h0 => by rw [eW, if_neg h0]
  have f1 : (N1.1.2 = 0) → (1048575 < N1.1.1) → W = ((zeroH, 5), N1.2) := fun h0 h1 => by rw [eW, if_pos h0, if_pos h1]
  have f2 : (N1.1.2 = 0) → (¬ 1048575 < N1.1.1) → (¬ N2.1.2 = 0) → W = ((zeroH, N2.1.2), N2.2) := fun h0 h1 h2 => by rw [eW, if_pos h0, if_neg h1, if_neg h2]
  have f3 : (N1.1.2 = 0) → (¬ 1048575 < N1.1.1) → (N2.1.2 = 0) → W = ((⟨0, N1.1.1, 17, N2.1.1, zeroA, zeroA, 0, 0⟩, 0), N2.2) := fun h0 h1 h2 => by rw [eW, if_pos h0, if_neg h1, if_pos h2]
  clear eW
  have g1 : True := trivial
  have g2 : True := trivial
  refine meth_intro (wd := 64) (Q := mkQ LRd1) (by decide) tysOk (q_of LRd1_ok) mixed Tryd.func59 rfl _ (by show 1 + 1 ≤ _; decide) (flatF_nff (encRH_flat _)) (rdN_nf) ?_
  repeat' (first | (apply And.intro <;> intro hc <;> (first | exact Bool.noConfusion hc | (exfalso; first | exact absurd hc (by decide) | exact absurd rfl hc | exact absurd hc (by assumption) | exact absurd (by assumption) hc) | (simp only [decide_eq_true_eq, decide_eq_false_iff_not, Bool.not_eq_true', Bool.not_eq_false', beq_iff_eq, beq_eq_false_iff_ne, bne_iff_ne, bne_eq_false_iff_eq, Bool.true_eq_false, Bool.false_eq_true, ne_eq, not_true_eq_false] at hc <;> first | exact absurd rfl hc | (exfalso; first | exact absurd hc (by decide) | exact absurd rfl hc | exact absurd hc (by assumption) | exact absurd (by assumption) hc) | skip) | skip)) | (refine And.intro (by first | exact trivial | decide | omega | (dsimp only; omega) | exact fun _ _ => rfl | exact ⟨by assumption, by first | exact trivial | decide | omega | (dsimp only; omega)⟩) ?_) | (apply And.intro) | (refine Exists.intro b (And.intro ⟨rfl, rfl, by first | exact ⟨by assumption, by decide, by decide⟩⟩ ?_)) | (intro s hs; (first | (clear g1; have q : N1 = s := (hs.trans e1).symm; clear hs; subst q) | (clear g2; have q : N2 = s := (hs.trans e2).symm; clear hs; subst q) | skip)))
  all_goals try (first | exact rfl | exact Nat.le_of_ble_eq_true rfl)
  all_goals first
    | (rw [f0 (by assumption)]
       exact ⟨leF_tup ⟨leE_tl (fun j hj => by (iterate 38 (rcases j with _ | j; exact leC_int rfl)); exact absurd hj (by omega)) leC_nils, leC_int rfl, trivial⟩, rdN_le rfl⟩)
    | (rw [f1 (by assumption) (by rw [← wf]; assumption)]
       exact ⟨leF_tup ⟨leE_tl (fun j hj => by (iterate 38 (rcases j with _ | j; exact leC_int rfl)); exact absurd hj (by omega)) leC_nils, leC_int rfl, trivial⟩, rdN_le rfl⟩)
    | (rw [f2 (by assumption) (by rw [← wf]; assumption) (by assumption)]
       exact ⟨leF_tup ⟨leE_tl (fun j hj => by (iterate 38 (rcases j with _ | j; exact leC_int rfl)); exact absurd hj (by omega)) leC_nils, leC_int rfl, trivial⟩, rdN_le rfl⟩)
    | (rw [f3 (by assumption) (by rw [← wf]; assumption) (by assumption)]
       exact ⟨leF_tup ⟨leE_tl (fun j hj => by (rcases j with _ | j; exact leC_int rfl); (rcases j with _ | j; exact leC_int wf); (rcases j with _ | j; exact leC_int rfl); (rcases j with _ | j; exact leC_int wh); (iterate 34 (rcases j with _ | j; exact leC_int rfl)); exact absurd hj (by omega)) leC_nils, leC_int rfl, trivial⟩, rdN_le rfl⟩)
    | skip
set_option maxHeartbeats 4000000 in
set_option maxRecDepth 20000 in
theorem fields_112 (b : List Int) (q : Int) (hr : RdOk b q) : MethOk Tryd.prog 59 [(cI .i64).enc 112] (rdN true b q) (encRH (fieldsD b 112 q).1) (rdN true b (fieldsD b 112 q).2) := by
  obtain ⟨W, hW⟩ : ∃ W, fieldsD b 112 q = W := ⟨_, rfl⟩
  have eW : W = (if (numF b q 1).1.2 = 0 then (if (numF b (numF b q 1).2 1).1.2 = 0 then (if (numF b (numF b q 1).2 1).1.1 = 17 then ((zeroH, 5), (numF b (numF b q 1).2 1).2) else (if (numF b (numF b (numF b q 1).2 1).2 1).1.2 = 0 then ((⟨(numF b q 1).1.1, 0, (numF b (numF b q 1).2 1).1.1, (numF b (numF b (numF b q 1).2 1).2 1).1.1, zeroA, zeroA, 0, 0⟩, 0), (numF b (numF b (numF b q 1).2 1).2 1).2) else ((zeroH, (numF b (numF b (numF b q 1).2 1).2 1).1.2), (numF b (numF b (numF b q 1).2 1).2 1).2))) else ((zeroH, (numF b (numF b q 1).2 1).1.2), (numF b (numF b q 1).2 1).2)) else ((zeroH, (numF b q 1).1.2), (numF b q 1).2)) := by
    rw [← hW]
    simp (decide := true) only [fieldsD, thenD, hopV, if_true, if_false, true_and, and_true, false_and]
  rw [hW]
  clear hW
  have v1 := num1_v (q := q) hr.bl
  have r1 := num_ok (n := 1) hr
  obtain ⟨N1, e1⟩ : ∃ x, numF b q 1 = x := ⟨_, rfl⟩
  rw [e1] at v1 r1 eW
  have v2 := num1_v (q := N1.2) hr.bl
  have r2 := num_ok (n := 1) r1
  obtain ⟨N2, e2⟩ : ∃ x, numF b N1.2 1 = x := ⟨_, rfl⟩
  rw [e2] at v2 r2 eW
  have v3 := num1_v (q := N2.2) hr.bl
  have r3 := num_ok (n := 1) r2
  obtain ⟨N3, e3⟩ : ∃ x, numF b N2.2 1 = x := ⟨_, rfl⟩
  rw [e3] at v3 r3 eW
  have wc : IntKind.u8.wrap N1.1.1 = N1.1.1 := IntWalk.u8_in _ (by omega)
  have wn : IntKind.u8.wrap N2.1.1 = N2.1.1 := IntWalk.u8_in _ (by omega)
  have wh : IntKind.u8.wrap N3.1.1 = N3.1.1 := IntWalk.u8_in _ (by omega)
  have f0 : (¬ N1.1.2 = 0) → W = ((zeroH, N1.1.2), N1.2) := fun h0 => by rw [eW, if_neg h0]
  have f1 : (N1.1.2 = 0) → (¬ N2.1.2 = 0) → W = ((zeroH, N2.1.2), N2.2) := fun h0 h1 => by rw [eW, if_pos h0, if_neg h1]
  have f2 : (N1.1.2 = 0) → (N2.1.2 = 0) → (N2.1.1 = 17) → W = ((zeroH, 5), N2.2) := fun h0 h1 h2 => by rw [eW, if_pos h0, if_pos h1, if_pos h2]
  have f3 : (N1.1.2 = 0) → (N2.1.2 = 0) → (¬ N2.1.1 = 17) → (¬ N3.1.2 = 0) → W = ((zeroH, N3.1.2), N3.2) := fun h0 h1 h2 h3 => by rw [eW, if_pos h0, if_pos h1, if_neg h2, if_neg h3]
  have f4 : (N1.1.2 = 0) → (N2.1.2 = 0) → (¬ N2.1.1 = 17) → (N3.1.2 = 0) → W = ((⟨N1.1.1, 0, N2.1.1, N3.1.1, zeroA, zeroA, 0, 0⟩, 0), N3.2) := fun h0 h1 h2 h3 => by rw [eW, if_pos h0, if_pos h1, if_neg h2, if_pos h3]
  clear eW
  have g1 : True := trivial
  have g2 : True := trivial
  have g3 : True := trivial
  refine meth_intro (wd := 64) (Q := mkQ LRd1) (by decide) tysOk (q_of LRd1_ok) mixed Tryd.func59 rfl _ (by show 1 + 1 ≤ _; decide) (flatF_nff (encRH_flat _)) (rdN_nf) ?_
  repeat' (first | (apply And.intro <;> intro hc <;> (first | exact Bool.noConfusion hc | (exfalso; first | exact absurd hc (by decide) | exact absurd rfl hc | exact absurd hc (by assumption) | exact absurd (by assumption) hc) | (simp only [decide_eq_true_eq, decide_eq_false_iff_not, Bool.not_eq_true', Bool.not_eq_false', beq_iff_eq, beq_eq_false_iff_ne, bne_iff_ne, bne_eq_false_iff_eq, Bool.true_eq_false, Bool.false_eq_true, ne_eq, not_true_eq_false] at hc <;> first | exact absurd rfl hc | (exfalso; first | exact absurd hc (by decide) | exact absurd rfl hc | exact absurd hc (by assumption) | exact absurd (by assumption) hc) | skip) | skip)) | (refine And.intro (by first | exact trivial | decide | omega | (dsimp only; omega) | exact fun _ _ => rfl | exact ⟨by assumption, by first | exact trivial | decide | omega | (dsimp only; omega)⟩) ?_) | (apply And.intro) | (refine Exists.intro b (And.intro ⟨rfl, rfl, by first | exact ⟨by assumption, by decide, by decide⟩⟩ ?_)) | (intro s hs; (first | (clear g1; have q : N1 = s := (hs.trans e1).symm; clear hs; subst q) | (clear g2; have q : N2 = s := (hs.trans e2).symm; clear hs; subst q) | (clear g3; have q : N3 = s := (hs.trans e3).symm; clear hs; subst q) | skip)))
  all_goals try (first | exact rfl | exact Nat.le_of_ble_eq_true rfl)
  all_goals first
    | (rw [f0 (by assumption)]
       exact ⟨leF_tup ⟨leE_tl (fun j hj => by (iterate 38 (rcases j with _ | j; exact leC_int rfl)); exact absurd hj (by omega)) leC_nils, leC_int rfl, trivial⟩, rdN_le rfl⟩)
    | (rw [f1 (by assumption) (by assumption)]
       exact ⟨leF_tup ⟨leE_tl (fun j hj => by (iterate 38 (rcases j with _ | j; exact leC_int rfl)); exact absurd hj (by omega)) leC_nils, leC_int rfl, trivial⟩, rdN_le rfl⟩)
    | (rw [f2 (by assumption) (by assumption) (by rw [← wn]; assumption)]
       exact ⟨leF_tup ⟨leE_tl (fun j hj => by (iterate 38 (rcases j with _ | j; exact leC_int rfl)); exact absurd hj (by omega)) leC_nils, leC_int rfl, trivial⟩, rdN_le rfl⟩)
    | (rw [f3 (by assumption) (by assumption) (by rw [← wn]; assumption) (by assumption)]
       exact ⟨leF_tup ⟨leE_tl (fun j hj => by (iterate 38 (rcases j with _ | j; exact leC_int rfl)); exact absurd hj (by omega)) leC_nils, leC_int rfl, trivial⟩, rdN_le rfl⟩)
    | (rw [f4 (by assumption) (by assumption) (by rw [← wn]; assumption) (by assumption)]
       exact ⟨leF_tup ⟨leE_tl (fun j hj => by (rcases j with _ | j; exact leC_int wc); (rcases j with _ | j; exact leC_int rfl); (rcases j with _ | j; exact leC_int wn); (rcases j with _ | j; exact leC_int wh); (iterate 34 (rcases j with _ | j; exact leC_int rfl)); exact absurd hj (by omega)) leC_nils, leC_int rfl, trivial⟩, rdN_le rfl⟩)
    | skip
set_option maxHeartbeats 4000000 in
set_option maxRecDepth 20000 in
theorem fields_116 (b : List Int) (q : Int) (hr : RdOk b q) : MethOk Tryd.prog 59 [(cI .i64).enc 116] (rdN true b q) (encRH (fieldsD b 116 q).1) (rdN true b (fieldsD b 116 q).2) := by
  obtain ⟨W, hW⟩ : ∃ W, fieldsD b 116 q = W := ⟨_, rfl⟩
  have eW : W = (if (numF b q 1).1.2 = 0 then (if (numF b (numF b q 1).2 1).1.2 = 0 then ((⟨(numF b q 1).1.1, 0, 17, (numF b (numF b q 1).2 1).1.1, zeroA, zeroA, 0, 0⟩, 0), (numF b (numF b q 1).2 1).2) else ((zeroH, (numF b (numF b q 1).2 1).1.2), (numF b (numF b q 1).2 1).2)) else ((zeroH, (numF b q 1).1.2), (numF b q 1).2)) := by
    rw [← hW]
    simp (decide := true) only [fieldsD, thenD, hopV, if_true, if_false, true_and, and_true, false_and]
  rw [hW]
  clear hW
  have v1 := num1_v (q := q) hr.bl
  have r1 := num_ok (n := 1) hr
  obtain ⟨N1, e1⟩ : ∃ x, numF b q 1 = x := ⟨_, rfl⟩
  rw [e1] at v1 r1 eW
  have v2 := num1_v (q := N1.2) hr.bl
  have r2 := num_ok (n := 1) r1
  obtain ⟨N2, e2⟩ : ∃ x, numF b N1.2 1 = x := ⟨_, rfl⟩
  rw [e2] at v2 r2 eW
  have wc : IntKind.u8.wrap N1.1.1 = N1.1.1 := IntWalk.u8_in _ (by omega)
  have wh : IntKind.u8.wrap N2.1.1 = N2.1.1 := IntWalk.u8_in _ (by omega)
  have f0 : (¬ N1.1.2 = 0) → W = ((zeroH, N1.1.2), N1.2) := fun h0 => by rw [eW, if_neg h0]
  have f1 : (N1.1.2 = 0) → (¬ N2.1.2 = 0) → W = ((zeroH, N2.1.2), N2.2) := fun h0 h1 => by rw [eW, if_pos h0, if_neg h1]
  have f2 : (N1.1.2 = 0) → (N2.1.2 = 0) → W = ((⟨N1.1.1, 0, 17, N2.1.1, zeroA, zeroA, 0, 0⟩, 0), N2.2) := fun h0 h1 => by rw [eW, if_pos h0, if_pos h1]
  clear eW
  have g1 : True := trivial
  have g2 : True := trivial
  refine meth_intro (wd := 64) (Q := mkQ LRd1) (by decide) tysOk (q_of LRd1_ok) mixed Tryd.func59 rfl _ (by show 1 + 1 ≤ _; decide) (flatF_nff (encRH_flat _)) (rdN_nf) ?_
  repeat' (first | (apply And.intro <;> intro hc <;> (first | exact Bool.noConfusion hc | (exfalso; first | exact absurd hc (by decide) | exact absurd rfl hc | exact absurd hc (by assumption) | exact absurd (by assumption) hc) | (simp only [decide_eq_true_eq, decide_eq_false_iff_not, Bool.not_eq_true', Bool.not_eq_false', beq_iff_eq, beq_eq_false_iff_ne, bne_iff_ne, bne_eq_false_iff_eq, Bool.true_eq_false, Bool.false_eq_true, ne_eq, not_true_eq_false] at hc <;> first | exact absurd rfl hc | (exfalso; first | exact absurd hc (by decide) | exact absurd rfl hc | exact absurd hc (by assumption) | exact absurd (by assumption) hc) | skip) | skip)) | (refine And.intro (by first | exact trivial | decide | omega | (dsimp only; omega) | exact fun _ _ => rfl | exact ⟨by assumption, by first | exact trivial | decide | omega | (dsimp only; omega)⟩) ?_) | (apply And.intro) | (refine Exists.intro b (And.intro ⟨rfl, rfl, by first | exact ⟨by assumption, by decide, by decide⟩⟩ ?_)) | (intro s hs; (first | (clear g1; have q : N1 = s := (hs.trans e1).symm; clear hs; subst q) | (clear g2; have q : N2 = s := (hs.trans e2).symm; clear hs; subst q) | skip)))
  all_goals try (first | exact rfl | exact Nat.le_of_ble_eq_true rfl)
  all_goals first
    | (rw [f0 (by assumption)]
       exact ⟨leF_tup ⟨leE_tl (fun j hj => by (iterate 38 (rcases j with _ | j; exact leC_int rfl)); exact absurd hj (by omega)) leC_nils, leC_int rfl, trivial⟩, rdN_le rfl⟩)
    | (rw [f1 (by assumption) (by assumption)]
       exact ⟨leF_tup ⟨leE_tl (fun j hj => by (iterate 38 (rcases j with _ | j; exact leC_int rfl)); exact absurd hj (by omega)) leC_nils, leC_int rfl, trivial⟩, rdN_le rfl⟩)
    | (rw [f2 (by assumption) (by assumption)]
       exact ⟨leF_tup ⟨leE_tl (fun j hj => by (rcases j with _ | j; exact leC_int wc); (rcases j with _ | j; exact leC_int rfl); (rcases j with _ | j; exact leC_int rfl); (rcases j with _ | j; exact leC_int wh); (iterate 34 (rcases j with _ | j; exact leC_int rfl)); exact absurd hj (by omega)) leC_nils, leC_int rfl, trivial⟩, rdN_le rfl⟩)
    | skip
set_option maxHeartbeats 4000000 in
set_option maxRecDepth 20000 in
theorem fields_120 (b : List Int) (q : Int) (hr : RdOk b q) : MethOk Tryd.prog 59 [(cI .i64).enc 120] (rdN true b q) (encRH (fieldsD b 120 q).1) (rdN true b (fieldsD b 120 q).2) := by
  obtain ⟨W, hW⟩ : ∃ W, fieldsD b 120 q = W := ⟨_, rfl⟩
  have eW : W = (if (numF b q 1).1.2 = 0 then (if (numF b q 1).1.1 = 17 then ((zeroH, 5), (numF b q 1).2) else (if (numF b (numF b q 1).2 1).1.2 = 0 then ((⟨0, 0, (numF b q 1).1.1, (numF b (numF b q 1).2 1).1.1, zeroA, zeroA, 0, 0⟩, 0), (numF b (numF b q 1).2 1).2) else ((zeroH, (numF b (numF b q 1).2 1).1.2), (numF b (numF b q 1).2 1).2))) else ((zeroH, (numF b q 1).1.2), (numF b q 1).2)) := by
    rw [← hW]
    simp (decide := true) only [fieldsD, thenD, hopV, if_true, if_false, true_and, and_true, false_and]
  rw [hW]
  clear hW
  have v1 := num1_v (q := q) hr.bl
  have r1 := num_ok (n := 1) hr
  obtain ⟨N1, e1⟩ : ∃ x, numF b q 1 = x := ⟨_, rfl⟩
  rw [e1] at v1 r1 eW
  have v2 := num1_v (q := N1.2) hr.bl
  have r2 := num_ok (n := 1) r1
  obtain ⟨N2, e2⟩ : ∃ x, numF b N1.2 1 = x := ⟨_, rfl⟩
  rw [e2] at v2 r2 eW
  have wn : IntKind.u8.wrap N1.1.1 = N1.1.1 := IntWalk.u8_in _ (by omega)
  have wh : IntKind.u8.wrap N2.1.1 = N2.1.1 := IntWalk.u8_in _ (by omega)
  have f0 : (¬ N1.1.2 = 0) → W = ((zeroH, N1.1.2), N1.2) := fun h0 => by rw [eW, if_neg h0]
  have f1 : (N1.1.2 = 0) → (N1.1.1 = 17) → W = ((zeroH, 5), N1.2) := fun h0 h1 => by rw [eW, if_pos h0, if_pos h1]
  have f2 : (N1.1.2 = 0) → (¬ N1.1.1 = 17) → (¬ N2.1.2 = 0) → W = ((zeroH, N2.1.2), N2.2) := fun h0 h1 h2 => by rw [eW, if_pos h0, if_neg h1, if_neg h2]
  have f3 : (N1.1.2 = 0) → (¬ N1.1.1 = 17) → (N2.1.2 = 0) → W = ((⟨0, 0, N1.1.1, N2.1.1, zeroA, zeroA, 0, 0⟩, 0), N2.2) := fun h0 h1 h2 => by rw [eW, if_pos h0, if_neg h1, if_pos h2]
  clear eW
  have g1 : True := trivial
  have g2 : True := trivial
  refine meth_intro (wd := 64) (Q := mkQ LRd1) (by decide) tysOk (q_of LRd1_ok) mixed Tryd.func59 rfl _ (by show 1 + 1 ≤ _; decide) (flatF_nff (encRH_flat _)) (rdN_nf) ?_
  repeat' (first | (apply And.intro <;> intro hc <;> (first | exact Bool.noConfusion hc | (exfalso; first | exact absurd hc (by decide) | exact absurd rfl hc | exact absurd hc (by assumption) | exact absurd (by assumption) hc) | (simp only [decide_eq_true_eq, decide_eq_false_iff_not, Bool.not_eq_true', Bool.not_eq_false', beq_iff_eq, beq_eq_false_iff_ne, bne_iff_ne, bne_eq_false_iff_eq, Bool.true_eq_false, Bool.false_eq_true, ne_eq, not_true_eq_false] at hc <;> first | exact absurd rfl hc | (exfalso; first | exact absurd hc (by decide) | exact absurd rfl hc | exact absurd hc (by assumption) | exact absurd (by assumption) hc) | skip) | skip)) | (refine And.intro (by first | exact trivial | decide | omega | (dsimp only; omega) | exact fun _ _ => rfl | exact ⟨by assumption, by first | exact trivial | decide | omega | (dsimp only; omega)⟩) ?_) | (apply And.intro) | (refine Exists.intro b (And.intro ⟨rfl, rfl, by first | exact ⟨by assumption, by decide, by decide⟩⟩ ?_)) | (intro s hs; (first | (clear g1; have q : N1 = s := (hs.trans e1).symm; clear hs; subst q) | (clear g2; have q : N2 = s := (hs.trans e2).symm; clear hs; subst q) | skip)))
  all_goals try (first | exact rfl | exact Nat.le_of_ble_eq_true rfl)
  all_goals first
    | (rw [f0 (by assumption)]
       exact ⟨leF_tup ⟨leE_tl (fun j hj => by (iterate 38 (rcases j with _ | j; exact leC_int rfl)); exact absurd hj (by omega)) leC_nils, leC_int rfl, trivial⟩, rdN_le rfl⟩)
    | (rw [f1 (by assumption) (by rw [← wn]; assumption)]
       exact ⟨leF_tup ⟨leE_tl (fun j hj => by (iterate 38 (rcases j with _ | j; exact leC_int rfl)); exact absurd hj (by omega)) leC_nils, leC_int rfl, trivial⟩, rdN_le rfl⟩)
    | (rw [f2 (by assumption) (by rw [← wn]; assumption) (by assumption)]
       exact ⟨leF_tup ⟨leE_tl (fun j hj => by (iterate 38 (rcases j with _ | j; exact leC_int rfl)); exact absurd hj (by omega)) leC_nils, leC_int rfl, trivial⟩, rdN_le rfl⟩)
    | (rw [f3 (by assumption) (by rw [← wn]; assumption) (by assumption)]
       exact ⟨leF_tup ⟨leE_tl (fun j hj => by (rcases j with _ | j; exact leC_int rfl); (rcases j with _ | j; exact leC_int rfl); (rcases j with _ | j; exact leC_int wn); (rcases j with _ | j; exact leC_int wh); (iterate 34 (rcases j with _ | j; exact leC_int rfl)); exact absurd hj (by omega)) leC_nils, leC_int rfl, trivial⟩, rdN_le rfl⟩)
    | skip
set_option maxHeartbeats 4000000 in
set_option maxRecDepth 20000 in
theorem fields_124 (b : List Int) (q : Int) (hr : RdOk b q) : MethOk Tryd.prog 59 [(cI .i64).enc 124] (rdN true b q) (encRH (fieldsD b 124 q).1) (rdN true b (fieldsD b 124 q).2) := by
  obtain ⟨W, hW⟩ : ∃ W, fieldsD b 124 q = W := ⟨_, rfl⟩
  have eW : W = (if (numF b q 1).1.2 = 0 then ((⟨0, 0, 17, (numF b q 1).1.1, zeroA, zeroA, 0, 0⟩, 0), (numF b q 1).2) else ((zeroH, (numF b q 1).1.2), (numF b q 1).2)) := by
    rw [← hW]
    simp (decide := true) only [fieldsD, thenD, hopV, if_true, if_false, true_and, and_true, false_and]
  rw [hW]
  clear hW
  have v1 := num1_v (q := q) hr.bl
  have r1 := num_ok (n := 1) hr
  obtain ⟨N1, e1⟩ : ∃ x, numF b q 1 = x := ⟨_, rfl⟩
  rw [e1] at v1 r1 eW
  have wh : IntKind.u8.wrap N1.1.1 = N1.1.1 := IntWalk.u8_in _ (by omega)
  have f0 : (¬ N1.1.2 = 0) → W = ((zeroH, N1.1.2), N1.2) := fun h0 => by rw [eW, if_neg h0]
  have f1 : (N1.1.2 = 0) → W = ((⟨0, 0, 17, N1.1.1, zeroA, zeroA, 0, 0⟩, 0), N1.2) := fun h0 => by rw [eW, if_pos h0]
  clear eW
  have g1 : True := trivial
  refine meth_intro (wd := 64) (Q := mkQ LRd1) (by decide) tysOk (q_of LRd1_ok) mixed Tryd.func59 rfl _ (by show 1 + 1 ≤ _; decide) (flatF_nff (encRH_flat _)) (rdN_nf) ?_
  repeat' (first | (apply And.intro <;> intro hc <;> (first | exact Bool.noConfusion hc | (exfalso; first | exact absurd hc (by decide) | exact absurd rfl hc | exact absurd hc (by assumption) | exact absurd (by assumption) hc) | (simp only [decide_eq_true_eq, decide_eq_false_iff_not, Bool.not_eq_true', Bool.not_eq_false', beq_iff_eq, beq_eq_false_iff_ne, bne_iff_ne, bne_eq_false_iff_eq, Bool.true_eq_false, Bool.false_eq_true, ne_eq, not_true_eq_false] at hc <;> first | exact absurd rfl hc | (exfalso; first | exact absurd hc (by decide) | exact absurd rfl hc | exact absurd hc (by assumption) | exact absurd (by assumption) hc) | skip) | skip)) | (refine And.intro (by first | exact trivial | decide | omega | (dsimp only; omega) | exact fun _ _ => rfl | exact ⟨by assumption, by first | exact trivial | decide | omega | (dsimp only; omega)⟩) ?_) | (apply And.intro) | (refine Exists.intro b (And.intro ⟨rfl, rfl, by first | exact ⟨by assumption, by decide, by decide⟩⟩ ?_)) | (intro s hs; (first | (clear g1; have q : N1 = s := (hs.trans e1).symm; clear hs; subst q) | skip)))
  all_goals try (first | exact rfl | exact Nat.le_of_ble_eq_true rfl)
  all_goals first
    | (rw [f0 (by assumption)]
       exact ⟨leF_tup ⟨leE_tl (fun j hj => by (iterate 38 (rcases j with _ | j; exact leC_int rfl)); exact absurd hj (by omega)) leC_nils, leC_int rfl, trivial⟩, rdN_le rfl⟩)
    | (rw [f1 (by assumption)]
       exact ⟨leF_tup ⟨leE_tl (fun j hj => by (rcases j with _ | j; exact leC_int rfl); (rcases j with _ | j; exact leC_int rfl); (rcases j with _ | j; exact leC_int rfl); (rcases j with _ | j; exact leC_int wh); (iterate 34 (rcases j with _ | j; exact leC_int rfl)); exact absurd hj (by omega)) leC_nils, leC_int rfl, trivial⟩, rdN_le rfl⟩)
    | skip
end Go.Proofs.YtjknkfjhcapocaaDoor.AX

/- fields of the program's reader, part. (Printed by gen/rdfields.py.) -/
namespace Go.Proofs.YtjknkfjhcapocaaDoor.AX
open Go.RowKit
set_option linter.unusedVariables false
set_option linter.unusedSimpArgs false
set_option maxHeartbeats 4000000 in
set_option maxRecDepth 20000 in
theorem fields_97 (b : List Int) (q : Int) (hr : RdOk b q) : MethOk Tryd.prog 59 [(cI .i64).enc 97] (rdN true b q) (encRH (fieldsD b 97 q).1) (rdN true b (fieldsD b 97 q).2) := by
  obtain ⟨W, hW⟩ : ∃ W, fieldsD b 97 q = W := ⟨_, rfl⟩
  have eW : W = (if (numF b q 1).1.2 = 0 then (if (numF b (numF b q 1).2 3).1.2 = 0 then (if 1048575 < (numF b (numF b q 1).2 3).1.1 then ((zeroH, 5), (numF b (numF b q 1).2 3).2) else (if (numF b (numF b (numF b q 1).2 3).2 1).1.2 = 0 then (if (numF b (numF b (numF b q 1).2 3).2 1).1.1 = 17 then ((zeroH, 5), (numF b (numF b (numF b q 1).2 3).2 1).2) else ((⟨(numF b q 1).1.1, (numF b (numF b q 1).2 3).1.1, (numF b (numF b (numF b q 1).2 3).2 1).1.1, 1, zeroA, zeroA, 0, 0⟩, 0), (numF b (numF b (numF b q 1).2 3).2 1).2)) else ((zeroH, (numF b (numF b (numF b q 1).2 3).2 1).1.2), (numF b (numF b (numF b q 1).2 3).2 1).2))) else ((zeroH, (numF b (numF b q 1).2 3).1.2), (numF b (numF b q 1).2 3).2)) else ((zeroH, (numF b q 1).1.2), (numF b q 1).2)) := by
    rw [← hW]
    simp (decide := true) only [fieldsD, thenD, hopV, if_true, if_false, true_and, and_true, false_and]
  rw [hW]
  clear hW
  have v1 := num1_v (q := q) hr.bl
  have r1 := num_ok (n := 1) hr
  obtain ⟨N1, e1⟩ : ∃ x, numF b q 1 = x := ⟨_, rfl⟩
  rw [e1] at v1 r1 eW
  have v2 := num3_v (q := N1.2) hr.bl
  have r2 := num_ok (n := 3) r1
  obtain ⟨N2, e2⟩ : ∃ x, numF b N1.2 3 = x := ⟨_, rfl⟩
  rw [e2] at v2 r2 eW
  have v3 := num1_v (q := N2.2) hr.bl
  have r3 := num_ok (n := 1) r2
  obtain ⟨N3, e3⟩ : ∃ x, numF b N2.2 1 = x := ⟨_, rfl⟩
  rw [e3] at v3 r3 eW
  have wc : IntKind.u8.wrap N1.1.1 = N1.1.1 := IntWalk.u8_in _ (by omega)
  have wf : IntKind.u32.wrap N2.1.1 = N2.1.1 := IntWalk.u32_in _ (by omega)
  have wn : IntKind.u8.wrap N3.1.1 = N3.1.1 := IntWalk.u8_in _ (by omega)
  have f0 : (¬ N1.1.2 = 0) → W = ((zeroH, N1.1.2), N1.2) := fun h0 => by rw [eW, if_neg h0]
  have f1 : (N1.1.2 = 0) → (¬ N2.1.2 = 0) → W = ((zeroH, N2.1.2), N2.2) := fun h0 h1 => by rw [eW, if_pos h0, if_neg h1]
  have f2 : (N1.1.2 = 0) → (N2.1.2 = 0) → (1048575 < N2.1.1) → W = ((zeroH, 5), N2.2) := fun h0 h1 h2 => by rw [eW, if_pos h0, if_pos h1, if_pos h2]
  have f3 : (N1.1.2 = 0) → (N2.1.2 = 0) → (¬ 1048575 < N2.1.1) → (¬ N3.1.2 = 0) → W = ((zeroH, N3.1.2), N3.2) := fun h0 h1 h2 h3 => by rw [eW, if_pos h0, if_pos h1, if_neg h2, if_neg h3]
  have f4 : (N1.1.2 = 0) → (N2.1.2 = 0) → (¬ 1048575 < N2.1.1) → (N3.1.2 = 0) → (N3.1.1 = 17) → W = ((zeroH, 5), N3.2) := fun h0 h1 h2 h3 h4 => by rw [eW, if_pos h0, if_pos h1, if_neg h2, if_pos h3, if_pos h4]
  have f5 : (N1.1.2 = 0) → (N2.1.2 = 0) → (¬ 1048575 < N2.1.1) → (N3.1.2 = 0) → (¬ N3.1.1 = 17) → W = ((⟨N1.1.1, N2.1.1, N3.1.1, 1, zeroA, zeroA, 0, 0⟩, 0), N3.2) := fun h0 h1 h2 h3 h4 => by rw [eW, if_pos h0, if_pos h1, if_neg h2, if_pos h3, if_neg h4]
  clear eW
  have g1 : True := trivial
  have g2 : True := trivial
  have g3 : True := trivial
  refine meth_intro (wd := 64) (Q := mkQ LRd1) (by decide) tysOk (q_of LRd1_ok) mixed Tryd.func59 rfl _ (by show 1 + 1 ≤ _; decide) (flatF_nff (encRH_flat _)) (rdN_nf) ?_
  repeat' (first | (apply And.intro <;> intro hc <;> (first | exact Bool.noConfusion hc | (exfalso; first | exact absurd hc (by decide) | exact absurd rfl hc | exact absurd hc (by assumption) | exact absurd (by assumption) hc) | (simp only [decide_eq_true_eq, decide_eq_false_iff_not, Bool.not_eq_true', Bool.not_eq_false', beq_iff_eq, beq_eq_false_iff_ne, bne_iff_ne, bne_eq_false_iff_eq, Bool.true_eq_false, Bool.false_eq_true, ne_eq, not_true_eq_false] at hc <;> first | exact absurd rfl hc | (exfalso; first | exact absurd hc (by decide) | exact absurd rfl hc | exact absurd hc (by assumption) | exact absurd (by assumption) hc) | skip) | skip)) | (refine And.intro (by first | exact trivial | decide | omega | (dsimp only; omega) | exact fun _ _ => rfl | exact ⟨by assumption, by first | exact trivial | decide | omega | (dsimp only; omega)⟩) ?_) | (apply And.intro) | (refine Exists.intro b (And.intro ⟨rfl, rfl, by first | exact ⟨by assumption, by decide, by decide⟩⟩ ?_)) | (intro s hs; (first | (clear g1; have q : N1 = s := (hs.trans e1).symm; clear hs; subst q) | (clear g2; have q : N2 = s := (hs.trans e2).symm; clear hs; subst q) | (clear g3; have q : N3 = s := (hs.trans e3).symm; clear hs; subst q) | skip)))
  all_goals try (first | exact rfl | exact Nat.le_of_ble_eq_true rfl)
  all_goals first
    | (rw [f0 (by assumption)]
       exact ⟨leF_tup ⟨leE_tl (fun j hj => by (iterate 38 (rcases j with _ | j; exact leC_int rfl)); exact absurd hj (by omega)) leC_nils, leC_int rfl, trivial⟩, rdN_le rfl⟩)
    | (rw [f1 (by assumption) (by assumption)]
       exact ⟨leF_tup ⟨leE_tl (fun j hj => by (iterate 38 (rcases j with _ | j; exact leC_int rfl)); exact absurd hj (by omega)) leC_nils, leC_int rfl, trivial⟩, rdN_le rfl⟩)
    | (rw [f2 (by assumption) (by assumption) (by rw [← wf]; assumption)]
       exact ⟨leF_tup ⟨leE_tl (fun j hj => by (iterate 38 (rcases j with _ | j; exact leC_int rfl)); exact absurd hj (by omega)) leC_nils, leC_int rfl, trivial⟩, rdN_le rfl⟩)
    | (rw [f3 (by assumption) (by assumption) (by rw [← wf]; assumption) (by assumption)]
       exact ⟨leF_tup ⟨leE_tl (fun j hj => by (iterate 38 (rcases j with _ | j; exact leC_int rfl)); exact absurd hj (by omega)) leC_nils, leC_int rfl, trivial⟩, rdN_le rfl⟩)
    | (rw [f4 (by assumption) (by assumption) (by rw [← wf]; assumption) (by assumption) (by rw [← wn]; assumption)]
       exact ⟨leF_tup ⟨leE_tl (fun j hj => by (iterate 38 (rcases j with _ | j; exact leC_int rfl)); exact absurd hj (by omega)) leC_nils, leC_int rfl, trivial⟩, rdN_le rfl⟩)
    | (rw [f5 (by assumption) (by assumption) (by rw [← wf]; assumption) (by assumption) (by rw [← wn]; assumption)]
       exact ⟨leF_tup ⟨leE_tl (fun j hj => by (rcases j with _ | j; exact leC_int wc); (rcases j with _ | j; exact leC_int wf); (rcases j with _ | j; exact leC_int wn); (rcases j with _ | j; exact leC_int rfl); (iterate 34 (rcases j with _ | j; exact leC_int rfl)); exact absurd hj (by omega)) leC_nils, leC_int rfl, trivial⟩, rdN_le rfl⟩)
    | skip
set_option maxHeartbeats 4000000 in
set_option maxRecDepth 20000 in
theorem fields_101 (b : List Int) (q : Int) (hr : RdOk b q) : MethOk Tryd.prog 59 [(cI .i64).enc 101] (rdN true b q) (encRH (fieldsD b 101 q).1) (rdN true b (fieldsD b 101 q).2) := by
  obtain ⟨W, hW⟩ : ∃ W, fieldsD b 101 q = W := ⟨_, rfl⟩
  have eW : W = (if (numF b q 1).1.2 = 0 then (if (numF b (numF b q 1).2 3).1.2 = 0 then (if 1048575 < (numF b (numF b q 1).2 3).1.1 then ((zeroH, 5), (numF b (numF b q 1).2 3).2) else ((⟨(numF b q 1).1.1, (numF b (numF b q 1).2 3).1.1, 17, 1, zeroA, zeroA, 0, 0⟩, 0), (numF b (numF b q 1).2 3).2)) else ((zeroH, (numF b (numF b q 1).2 3).1.2), (numF b (numF b q 1).2 3).2)) else ((zeroH, (numF b q 1).1.2), (numF b q 1).2)) := by
    rw [← hW]
    simp (decide := true) only [fieldsD, thenD, hopV, if_true, if_false, true_and, and_true, false_and]
  rw [hW]
  clear hW
  have v1 := num1_v (q := q) hr.bl
  have r1 := num_ok (n := 1) hr
  obtain ⟨N1, e1⟩ : ∃ x, numF b q 1 = x := ⟨_, rfl⟩
  rw [e1] at v1 r1 eW
  have v2 := num3_v (q := N1.2) hr.bl
  have r2 := num_ok (n := 3) r1
  obtain ⟨N2, e2⟩ : ∃ x, numF b N1.2 3 = x := ⟨_, rfl⟩
  rw [e2] at v2 r2 eW
  have wc : IntKind.u8.wrap N1.1.1 = N1.1.1 := IntWalk.u8_in _ (by omega)
  have wf : IntKind.u32.wrap N2.1.1 = N2.1.1 := IntWalk.u32_in _ (by omega)
  have f0 : (¬ N1.1.2 = 0) → W = ((zeroH, N1.1.2), N1.2) := fun h0 => by rw [eW, if_neg h0]
  have f1 : (N1.1.2 = 0) → (¬ N2.1.2 = 0) → W = ((zeroH, N2.1.2), N2.2) := fun h0 h1 => by rw [eW, if_pos h0, if_neg h1]
  have f2 : (N1.1.2 = 0) → (N2.1.2 = 0) → (1048575 < N2.1.1) → W = ((zeroH, 5), N2.2) := fun h0 h1 h2 => by rw [eW, if_pos h0, if_pos h1, if_pos h2]
  have f3 : (N1.1.2 = 0) → (N2.1.2 = 0) → (¬ 1048575 < N2.1.1) → W = ((⟨N1.1.1, N2.1.1, 17, 1, zeroA, zeroA, 0, 0⟩, 0), N2.2) := fun h0 h1 h2 => by rw [eW, if_pos h0, if_pos h1, if_neg h2]
  clear eW
  have g1 : True := trivial
  have g2 : True := trivial
  refine meth_intro (wd := 64) (Q := mkQ LRd1) (by decide) tysOk (q_of LRd1_ok) mixed Tryd.func59 rfl _ (by show 1 + 1 ≤ _; decide) (flatF_nff (encRH_flat _)) (rdN_nf) ?_
  repeat' (first | (apply And.intro <;> intro hc <;> (first | exact Bool.noConfusion hc | (exfalso; first | exact absurd hc (by decide) | exact absurd rfl hc | exact absurd hc (by assumption) | exact absurd (by assumption) hc) | (simp only [decide_eq_true_eq, decide_eq_false_iff_not, Bool.not_eq_true', Bool.not_eq_false', beq_iff_eq, beq_eq_false_iff_ne, bne_iff_ne, bne_eq_false_iff_eq, Bool.true_eq_false, Bool.false_eq_true, ne_eq, not_true_eq_false] at hc <;> first | exact absurd rfl hc | (exfalso; first | exact absurd hc (by decide) | exact absurd rfl hc | exact absurd hc (by assumption) | exact absurd (by assumption) hc) | skip) | skip)) | (refine And.intro (by first | exact trivial | decide | omega | (dsimp only; omega) | exact fun _ _ => rfl | exact ⟨by assumption, by first | exact trivial | decide | omega | (dsimp only; omega)⟩) ?_) | (apply And.intro) | (refine Exists.intro b (And.intro ⟨rfl, rfl, by first | exact ⟨by assumption, by decide, by decide⟩⟩ ?_)) | (intro s hs; (first | (clear g1; have q : N1 = s := (hs.trans e1).symm; clear hs; subst q) | (clear g2; have q : N2 = s := (hs.trans e2).symm; clear hs; subst q) | skip)))
  all_goals try (first | exact rfl | exact Nat.le_of_ble_eq_true rfl)
  all_goals first
    | (rw [f0 (by assumption)]
       exact ⟨leF_tup ⟨leE_tl (fun j hj => by (iterate 38 (rcases j with _ | j; exact leC_int rfl)); exact absurd hj (by omega)) leC_nils, leC_int rfl, trivial⟩, rdN_le rfl⟩)
    | (rw [f1 (by assumption) (by assumption)]
       exact ⟨leF_tup ⟨leE_tl (fun j hj => by (iterate 38 (rcases j with _ | j; exact leC_int rfl)); exact absurd hj (by omega)) leC_nils, leC_int rfl, trivial⟩, rdN_le rfl⟩)
    | (rw [f2 (by assumption) (by assumption) (by rw [← wf]; assumption)]
       exact ⟨leF_tup ⟨leE_tl (fun j hj => by (iterate 38 (rcases j with _ | j; exact leC_int rfl)); exact absurd hj (by omega)) leC_nils, leC_int rfl, trivial⟩, rdN_le rfl⟩)
    | (rw [f3 (by assumption) (by assumption) (by rw [← wf]; assumption)]
       exact ⟨leF_tup ⟨leE_tl (fun j hj => by (rcases j with _ | j; exact leC_int wc); (rcases j with _ | j; exact leC_int wf); (rcases j with _ | j; exact leC_int rfl); (rcases j with _ | j; exact leC_int rfl); (iterate 34 (rcases j with _ | j; exact leC_int rfl)); exact absurd hj (by omega)) leC_nils, leC_int rfl, trivial⟩, rdN_le rfl⟩)
    | skip
set_option maxHeartbeats 4000000 in
set_option maxRecDepth 20000 in
theorem fields_105 (b : List Int) (q : Int) (hr : RdOk b q) : MethOk Tryd.prog 59 [(cI .i64).enc 105] (rdN true b q) (encRH (fieldsD b 105 q).1) (rdN true b (fieldsD b 105 q).2) := by
  obtain ⟨W, hW⟩ : ∃ W, fieldsD b 105 q = W := ⟨_, rfl⟩
  have eW : W = (if (numF b q 3).1.2 = 0 then (if 1048575 < (numF b q 3).1.1 then ((zeroH, 5), (numF b q 3).2) else (if (numF b (numF b q 3).2 1).1.2 = 0 then (if (numF b (numF b q 3).2 1).1.1 = 17 then ((zeroH, 5), (numF b (numF b q 3).2 1).2) else ((⟨0, (numF b q 3).1.1, (numF b (numF b q 3).2 1).1.1, 1, zeroA, zeroA, 0, 0⟩, 0), (numF b (numF b q 3).2 1).2)) else ((zeroH, (numF b (numF b q 3).2 1).1.2), (numF b (numF b q 3).2 1).2))) else ((zeroH, (numF b q 3).1.2), (numF b q 3).2)) := by
    rw [← hW]
    simp (decide := true) only [fieldsD, thenD, hopV, if_true, if_false, true_and, and_true, false_and]
  rw [hW]
  clear hW
  have v1 := num3_v (q := q) hr.bl
  have r1 := num_ok (n := 3) hr
  obtain ⟨N1, e1⟩ : ∃ x, numF b q 3 = x := ⟨_, rfl⟩
  rw [e1] at v1 r1 eW
  have v2 := num1_v (q := N1.2) hr.bl
  have r2 := num_ok (n := 1) r1
  obtain ⟨N2, e2⟩ : ∃ x, numF b N1.2 1 = x := ⟨_, rfl⟩
  rw [e2] at v2 r2 eW
  have wf : IntKind.u32.wrap N1.1.1 = N1.1.1 := IntWalk.u32_in _ (by omega)
  have wn : IntKind.u8.wrap N2.1.1 = N2.1.1 := IntWalk.u8_in _ (by omega)
  have f0 : (¬ N1.1.2 = 0) → W = ((zeroH, N1.1.2), N1.2) := fun h0 => by rw [eW, if_neg h0]
  have f1 : (N1.1.2 = 0) → (1048575 < N1.1.1) → W = ((zeroH, 5), N1.2) := fun h0 h1 => by rw [eW, if_pos h0, if_pos h1]
  have f2 : (N1.1.2 = 0) → (¬ 1048575 < N1.1.1) → (¬ N2.1.2 = 0) → W = ((zeroH, N2.1.2), N2.2) := fun h0 h1 h2 => by rw [eW, if_pos h0, if_neg h1, if_neg h2]
  have f3 : (N1.1.2 = 0) → (¬ 1048575 < N1.1.1) → (N2.1.2 = 0) → (N2.1.1 = 17) → W = ((zeroH, 5), N2.2) := fun h0 h1 h2 h3 => by rw [eW, if_pos h0, if_neg h1, if_pos h2, if_pos h3]
  have f4 : (N1.1.2 = 0) → (¬ 1048575 < N1.1.1) → (N2.1.2 = 0) → (¬ N2.1.1 = 17) → W = ((⟨0, N1.1.1, N2.1.1, 1, zeroA, zeroA, 0, 0⟩, 0), N2.2) := fun h0 h1 h2 h3 => by rw [eW, if_pos h0, if_neg h1, if_pos h2, if_neg h3]
  clear eW
  have g1 : True := trivial
  have g2 : True := trivial
  refine meth_intro (wd := 64) (Q := mkQ LRd1) (by decide) tysOk (q_of LRd1_ok) mixed Tryd.func59 rfl _ (by show 1 + 1 ≤ _; decide) (flatF_nff (encRH_flat _)) (rdN_nf) ?_
  repeat' (first | (apply And.intro <;> intro hc <;> (first | exact Bool.noConfusion hc | (exfalso; first | exact absurd hc (by decide) | exact absurd rfl hc | exact absurd hc (by assumption) | exact absurd (by assumption) hc) | (simp only [decide_eq_true_eq, decide_eq_false_iff_not, Bool.not_eq_true', Bool.not_eq_false', beq_iff_eq, beq_eq_false_iff_ne, bne_iff_ne, bne_eq_false_iff_eq, Bool.true_eq_false, Bool.false_eq_true, ne_eq, not_true_eq_false] at hc <;> first | exact absurd rfl hc | (exfalso; first | exact absurd hc (by decide) | exact absurd rfl hc | exact absurd hc (by assumption) | exact absurd (by assumption) hc) | skip) | skip)) | (refine And.intro (by first | exact trivial | decide | omega | (dsimp only; omega) | exact fun _ _ => rfl | exact ⟨by assumption, by first | exact trivial | decide | omega | (dsimp only; omega)⟩) ?_) | (apply And.intro) | (refine Exists.intro b (And.intro ⟨rfl, rfl, by first | exact ⟨by assumption, by decide, by decide⟩⟩ ?_)) | (intro s hs; (first | (clear g1; have q : N1 = s := (hs.trans e1).symm; clear hs; subst q) | (clear g2; have q : N2 = s := (hs.trans e2).symm; clear hs; subst q) | skip)))
  all_goals try (first | exact rfl | exact Nat.le_of_ble_eq_true rfl)
  all_goals first
    | (rw [f0 (by assumption)]
       exact ⟨leF_tup ⟨leE_tl (fun j hj => by (iterate 38 (rcases j with _ | j; exact leC_int rfl)); exact absurd hj (by omega)) leC_nils, leC_int rfl, trivial⟩, rdN_le rfl⟩)
    | (rw [f1 (by assumption) (by rw [← wf]; assumption)]
       exact ⟨leF_tup ⟨leE_tl (fun j hj => by (iterate 38 (rcases j with _ | j; exact leC_int rfl)); exact absurd hj (by omega)) leC_nils, leC_int rfl, trivial⟩, rdN_le rfl⟩)
    | (rw [f2 (by assumption) (by rw [← wf]; assumption) (by assumption)]
       exact ⟨leF_tup ⟨leE_tl (fun j hj => by (iterate 38 (rcases j with _ | j; exact leC_int rfl)); exact absurd hj (by omega)) leC_nils, leC_int rfl, trivial⟩, rdN_le rfl⟩)
    | (rw [f3 (by assumption) (by rw [← wf]; assumption) (by assumption) (by rw [← wn]; assumption)]
       exact ⟨leF_tup ⟨leE_tl (fun j hj => by (iterate 38 (rcases j with _ | j; exact leC_int rfl)); exact absurd hj (by omega)) leC_nils, leC_int rfl, trivial⟩, rdN_le rfl⟩)
    | (rw [f4 (by assumption) (by rw [← wf]; assumption) (by assumption) (by rw [← wn]; assumption)]
       exact ⟨leF_tup ⟨leE_tl (fun j hj => by (rcases j with _ | j; exact leC_int rfl); (rcases j with _ | j; exact leC_int wf); (rcases j with _ | j; exact leC_int wn); (rcases j with _ | j; exact leC_int rfl); (iterate 34 (rcases j with _ | j; exact leC_int rfl)); exact absurd hj (by omega)) leC_nils, leC_int rfl, trivial⟩, rdN_le rfl⟩)
    | skip
set_option maxHeartbeats 4000000 in
set_option maxRecDepth 20000 in
theorem fields_109 (b : List Int) (q : Int) (hr : RdOk b q) : MethOk Tryd.prog 59 [(cI .i64).enc 109] (rdN true b q) (encRH (fieldsD b 109 q).1) (rdN true b (fieldsD b 109 q).2) := by
  obtain ⟨W, hW⟩ : ∃ W, fieldsD b 109 q = W := ⟨_, rfl⟩
  have eW : W = (if (numF b q 3).1.2 = 0 then (if 1048575 < (numF b q 3).1.1 then ((zeroH, 5), (numF b q 3).2) else ((⟨0, (numF b q 3).1.1, 17, 1, zeroA, zeroA, 0, 0⟩, 0), (numF b q 3).2)) else ((zeroH, (numF b q 3).1.2), (numF b q 3).2)) := by
    rw [← hW]
    simp (decide := true) only [fieldsD, thenD, hopV, if_true, if_false, true_and, and_true, false_and]
  rw [hW]
  clear hW
  have v1 := num3_v (q := q) hr.bl
  have r1 := num_ok (n := 3) hr
  obtain ⟨N1, e1⟩ : ∃ x, numF b q 3 = x := ⟨_, rfl⟩
  rw [e1] at v1 r1 eW
  have wf : IntKind.u32.wrap N1.1.1 = N1.1.1 := IntWalk.u32_in _ (by omega)
  have f0 : (¬ N1.1.2 = 0) → W = ((zeroH, N1.1.2), N1.2) := fun h0 => by rw [eW, if_neg h0]
  have f1 : (N1.1.2 = 0) → (1048575 < N1.1.1) → W = ((zeroH, 5), N1.2) := fun h0 h1 => by rw [eW, if_pos h0, if_pos h1]
  have f2 : (N1.1.2 = 0) → (¬ 1048575 < N1.1.1) → W = ((⟨0, N1.1.1, 17, 1, zeroA, zeroA, 0, 0⟩, 0), N1.2) := fun h0 h1 => by rw [eW, if_pos h0, if_neg h1]
  clear eW
  have g1 : True := trivial
  refine meth_intro (wd := 64) (Q := mkQ LRd1) (by decide) tysOk (q_of LRd1_ok) mixed Tryd.func59 rfl _ (by show 1 + 1 ≤ _; decide) (flatF_nff (encRH_flat _)) (rdN_nf) ?_
  repeat' (first | (apply And.intro <;> intro hc <;> (first | exact Bool.noConfusion hc | (exfalso; first | exact absurd hc (by decide) | exact absurd rfl hc | exact absurd hc (by assumption) | exact absurd (by assumption) hc) | (simp only [decide_eq_true_eq, decide_eq_false_iff_not, Bool.not_eq_true', Bool.not_eq_false', beq_iff_eq, beq_eq_false_iff_ne, bne_iff_ne, bne_eq_false_iff_eq, Bool.true_eq_false, Bool.false_eq_true, ne_eq, not_true_eq_false] at hc <;> first | exact absurd rfl hc | (exfalso; first | exact absurd hc (by decide) | exact absurd rfl hc | exact absurd hc (by assumption) | exact absurd (by assumption) hc) | skip) | skip)) | (refine And.intro (by first | exact trivial | decide | omega | (dsimp only; omega) | exact fun _ _ => rfl | exact ⟨by assumption, by first | exact trivial | decide | omega | (dsimp only; omega)⟩) ?_) | (apply And.intro) | (refine Exists.intro b (And.intro ⟨rfl, rfl, by first | exact ⟨by assumption, by decide, by decide⟩⟩ ?_)) | (intro s hs; (first | (clear g1; have q : N1 = s := (hs.trans e1).symm; clear hs; subst q) | skip)))
  all_goals try (first | exact rfl | exact Nat.le_of_ble_eq_true rfl)
  all_goals first
    | (rw [f0 (by assumption)]
       exact ⟨leF_tup ⟨leE_tl (fun j hj => by (iterate 38 (rcases j with _ | j; exact leC_int rfl)); exact absurd hj (by omega)) leC_nils, leC_int rfl, trivial⟩, rdN_le rfl⟩)
    | (rw [f1 (by assumption) (by rw [← wf]; assumption)]
       exact ⟨leF_tup ⟨leE_tl (fun j hj => by (iterate 38 (rcases j with _ | j; exact leC_int rfl)); exact absurd hj (by omega)) leC_nils, leC_int rfl, trivial⟩, rdN_le rfl⟩)
    | (rw [f2 (by assumption) (by rw [← wf]; assumption)]
       exact ⟨leF_tup ⟨leE_tl (fun j hj => by (rcases j with _ | j; exact leC_int rfl); (rcases j with _ | j; exact leC_int wf); (rcases j with _ | j; exact leC_int rfl); (rcases j with _ | j; exact leC_int rfl); (iterate 34 (rcases j with _ | j; exact leC_int rfl)); exact absurd hj (by omega)) leC_nils, leC_int rfl, trivial⟩, rdN_le rfl⟩)
    | skip
set_option maxHeartbeats 4000000 in
set_option maxRecDepth 20000 in
theorem fields_113 (b : List Int) (q : Int) (hr : RdOk b q) : MethOk Tryd.prog 59 [(cI .i64).enc 113] (rdN true b q) (encRH (fieldsD b 113 q).1) (rdN true b (fieldsD b 113 q).2) := by
  obtain ⟨W, hW⟩ : ∃ W, fieldsD b 113 q = W := ⟨_, rfl⟩
  have eW : W = (if (numF b q 1).1.2 = 0 then (if (numF b (numF b q 1).2 1).1.2 = 0 then (if (numF b (numF b q 1).2 1).1.1 = 17 then ((zeroH, 5), (numF b (numF b q 1).2 1).2) else ((⟨(numF b q 1).1.1, 0, (numF b (numF b q 1).2 1).1.1, 1, zeroA, zeroA, 0, 0⟩, 0), (numF b (numF b q 1).2 1).2)) else ((zeroH, (numF b (numF b q 1).2 1).1.2), (numF b (numF b q 1).2 1).2)) else ((zeroH, (numF b q 1).1.2), (numF b q 1).2)) := by
    rw [← hW]
    simp (decide := true) only [fieldsD, thenD, hopV, if_true, if_false, true_and, and_true, false_and]
  rw [hW]
  clear hW
  have v1 := num1_v (q := q) hr.bl
  have r1 := num_ok (n := 1) hr
  obtain ⟨N1, e1⟩ : ∃ x, numF b q 1 = x := ⟨_, rfl⟩
  rw [e1] at v1 r1 eW
  have v2 := num1_v (q := N1.2) hr.bl
  have r2 := num_ok (n := 1) r1
  obtain ⟨N2, e2⟩ : ∃ x, numF b N1.2 1 = x := ⟨_, rfl⟩
  rw [e2] at v2 r2 eW
  have wc : IntKind.u8.wrap N1.1.1 = N1.1.1 := IntWalk.u8_in _ (by omega)
  have wn : IntKind.u8.wrap N2.1.1 = N2.1.1 := IntWalk.u8_in _ (by omega)
  have f0 : (¬ N1.1.2 = 0) → W = ((zeroH, N1.1.2), N1.2) := fun h0 => by rw [eW, if_neg h0]
  have f1 : (N1.1.2 = 0) → (¬ N2.1.2 = 0) → W = ((zeroH, N2.1.2), N2.2) := fun h0 h1 => by rw [eW, if_pos h0, if_neg h1]
  have f2 : (N1.1.2 = 0) → (N2.1.2 = 0) → (N2.1.1 = 17) → W = ((zeroH, 5), N2.2) := fun h0 h1 h2 => by rw [eW, if_pos h0, if_pos h1, if_pos h2]
  have f3 : (N1.1.2 = 0) → (N2.1.2 = 0) → (¬ N2.1.1 = 17) → W = ((⟨N1.1.1, 0, N2.1.1, 1, zeroA, zeroA, 0, 0⟩, 0), N2.2) := fun h0 h1 h2 => by rw [eW, if_pos h0, if_pos h1, if_neg h2]
  clear eW
  have g1 : True := trivial
  have g2 : True := trivial
  refine meth_intro (wd := 64) (Q := mkQ LRd1) (by decide) tysOk (q_of LRd1_ok) mixed Tryd.func59 rfl _ (by show 1 + 1 ≤ _; decide) (flatF_nff (encRH_flat _)) (rdN_nf) ?_
  repeat' (first | (apply And.intro <;> intro hc <;> (first | exact Bool.noConfusion hc | (exfalso; first | exact absurd hc (by decide) | exact absurd rfl hc | exact absurd hc (by assumption) | exact absurd (by assumption) hc) | (simp only [decide_eq_true_eq, decide_eq_false_iff_not, Bool.not_eq_true', Bool.not_eq_false', beq_iff_eq, beq_eq_false_iff_ne, bne_iff_ne, bne_eq_false_iff_eq, Bool.true_eq_false, Bool.false_eq_true, ne_eq, not_true_eq_false] at hc <;> first | exact absurd rfl hc | (exfalso; first | exact absurd hc (by decide) | exact absurd rfl hc | exact absurd hc (by assumption) | exact absurd (by assumption) hc) | skip) | skip)) | (refine And.intro (by first | exact trivial | decide | omega | (dsimp only; omega) | exact fun _ _ => rfl | exact ⟨by assumption, by first | exact trivial | decide | omega | (dsimp only; omega)⟩) ?_) | (apply And.intro) | (refine Exists.intro b (And.intro ⟨rfl, rfl, by first | exact ⟨by assumption, by decide, by decide⟩⟩ ?_)) | (intro s hs; (first | (clear g1; have q : N1 = s := (hs.trans e1).symm; clear hs; subst q) | (clear g2; have q : N2 = s := (hs.trans e2).symm; clear hs; subst q) | skip)))
  all_goals try (first | exact rfl | exact Nat.le_of_ble_eq_true rfl)
  all_goals first
    | (rw [f0 (by assumption)]
       exact ⟨leF_tup ⟨leE_tl (fun j hj => by (iterate 38 (rcases j with _ | j; exact leC_int rfl)); exact absurd hj (by omega)) leC_nils, leC_int rfl, trivial⟩, rdN_le rfl⟩)
    | (rw [f1 (by assumption) (by assumption)]
       exact ⟨leF_tup ⟨leE_tl (fun j hj => by (iterate 38 (rcases j with _ | j; exact leC_int rfl)); exact absurd hj (by omega)) leC_nils, leC_int rfl, trivial⟩, rdN_le rfl⟩)
    | (rw [f2 (by assumption) (by assumption) (by rw [← wn]; assumption)]
       exact ⟨leF_tup ⟨leE_tl (fun j hj => by (iterate 38 (rcases j with _ | j; exact leC_int rfl)); exact absurd hj (by omega)) leC_nils, leC_int rfl, trivial⟩, rdN_le rfl⟩)
    | (rw [f3 (by assumption) (by assumption) (by rw [← wn]; assumption)]
       exact ⟨leF_tup ⟨leE_tl (fun j hj => by (rcases j with _ | j; exact leC_int wc); (rcases j with _ | j; exact leC_int rfl); (rcases j with _ | j; exact leC_int wn); (rcases j with _ | j; exact leC_int rfl); (iterate 34 (rcases j with _ | j; exact leC_int rfl)); exact absurd hj (by omega)) leC_nils, leC_int rfl, trivial⟩, rdN_le rfl⟩)
    | skip
set_option maxHeartbeats 4000000 in
set_option maxRecDepth 20000 in
theorem fields_117 (b : List Int) (q : Int) (hr : RdOk b q) : MethOk Tryd.prog 59 [(cI .i64).enc 117] (rdN true b q) (encRH (fieldsD b 117 q).1) (rdN true b (fieldsD b 117 q).2) := by
  obtain ⟨W, hW⟩ : ∃ W, fieldsD b 117 q = W := ⟨_, rfl⟩
  have eW : W = (if (numF b q 1).1.2 = 0 then ((⟨(numF b q 1).1.1, 0, 17, 1, zeroA, zeroA, 0, 0⟩, 0), (numF b q 1).2) else ((zeroH, (numF b q 1).1.2), (numF b q 1).2)) := by
    rw [← hW]
    simp (decide := true) only [fieldsD, thenD, hopV, if_true, if_false, true_and, and_true, false_and]
  rw [hW]
  clear hW
  have v1 := num1_v (q := q) hr.bl
  have r1 := num_ok (n := 1) hr
  obtain ⟨N1, e1⟩ : ∃ x, numF b q 1 = x := ⟨_, rfl⟩
  rw [e1] at v1 r1 eW
  have wc : IntKind.u8.wrap N1.1.1 = N1.1.1 := IntWalk.u8_in _ (by omega)
  have f0 : (¬ N1.1.2 = 0) → W = ((zeroH, N1.1.2), N1.2) := fun h0 => by rw [eW, if_neg h0]
  have f1 : (N1.1.2 = 0) → W = ((⟨N1.1.1, 0, 17, 1, zeroA, zeroA, 0, 0⟩, 0), N1.2) := fun h0 => by rw [eW, if_pos h0]
  clear eW
  have g1 : True := trivial
  refine meth_intro (wd := 64) (Q := mkQ LRd1) (by decide) tysOk (q_of LRd1_ok) mixed Tryd.func59 rfl _ (by show 1 + 1 ≤ _; decide) (flatF_nff (encRH_flat _)) (rdN_nf) ?_
  repeat' (first | (apply And.intro <;> intro hc <;> (first | exact Bool.noConfusion hc | (exfalso; first | exact absurd hc (by decide) | exact absurd rfl hc | exact absurd hc (by assumption) | exact absurd (by assumption) hc) | (simp only [decide_eq_true_eq, decide_eq_false_iff_not, Bool.not_eq_true', Bool.not_eq_false', beq_iff_eq, beq_eq_false_iff_ne, bne_iff_ne, bne_eq_false_iff_eq, Bool.true_eq_false, Bool.false_eq_true, ne_eq, not_true_eq_false] at hc <;> first | exact absurd rfl hc | (exfalso; first | exact absurd hc (by decide) | exact absurd rfl hc | exact absurd hc (by assumption) | exact absurd (by assumption) hc) | skip) | skip)) | (refine And.intro (by first | exact trivial | decide | omega | (dsimp only; omega) | exact fun _ _ => rfl | exact ⟨by assumption, by first | exact trivial | decide | omega | (dsimp only; omega)⟩) ?_) | (apply And.intro) | (refine Exists.intro b (And.intro ⟨rfl, rfl, by first | exact ⟨by assumption, by decide, by decide⟩⟩ ?_)) | (intro s hs; (first | (clear g1; have q : N1 = s := (hs.trans e1).symm; clear hs; subst q) | skip)))
  all_goals try (first | exact rfl | exact Nat.le_of_ble_eq_true rfl)
  all_goals first
    | (rw [f0 (by assumption)]
       exact ⟨leF_tup ⟨leE_tl (fun j hj => by (iterate 38 (rcases j with _ | j; exact leC_int rfl)); exact absurd hj (by omega)) leC_nils, leC_int rfl, trivial⟩, rdN_le rfl⟩)
    | (rw [f1 (by assumption)]
       exact ⟨leF_tup ⟨leE_tl (fun j hj => by (rcases j with _ | j; exact leC_int wc); (rcases j with _ | j; exact leC_int rfl); (rcases j with _ | j; exact leC_int rfl); (rcases j with _ | j; exact leC_int rfl); (iterate 34 (rcases j with _ | j; exact leC_int rfl)); exact absurd hj (by omega)) leC_nils, leC_int rfl, trivial⟩, rdN_le rfl⟩)
    | skip
set_option maxHeartbeats 4000000 in
set_option maxRecDepth 20000 in
theorem fields_121 (b : List Int) (q : Int) (hr : RdOk b q) : MethOk Tryd.prog 59 [(cI .i64).enc 121] (rdN true b q) (encRH (fieldsD b 121 q).1) (rdN true b (fieldsD b 121 q).2) := by
  obtain ⟨W, hW⟩ : ∃ W, fieldsD b 121 q = W := ⟨_, rfl⟩
  have eW : W = (if (numF b q 1).1.2 = 0 then (if (numF b q 1).1.1 = 17 then ((zeroH, 5), (numF b q 1).2) else ((⟨0, 0, (numF b q 1).1.1, 1, zeroA, zeroA, 0, 0⟩, 0), (numF b q 1).2)) else ((zeroH, (numF b q 1).1.2), (numF b q 1).2)) := by
    rw [← hW]
    simp (decide := true) only [fieldsD, thenD, hopV, if_true, if_false, true_and, and_true, false_and]
  rw [hW]
  clear hW
  have v1 := num1_v (q := q) hr.bl
  have r1 := num_ok (n := 1) hr
  obtain ⟨N1, e1⟩ : ∃ x, numF b q 1 = x := ⟨_, rfl⟩
  rw [e1] at v1 r1 eW
  have wn : IntKind.u8.wrap N1.1.1 = N1.1.1 := IntWalk.u8_in _ (by omega)
  have f0 : (¬ N1.1.2 = 0) → W = ((zeroH, N1.1.2), N1.2) := fun h0 => by rw [eW, if_neg h0]
  have f1 : (N1.1.2 = 0) → (N1.1.1 = 17) → W = ((zeroH, 5), N1.2) := fun h0 h1 => by rw [eW, if_pos h0, if_pos h1]
  have f2 : (N1.1.2 = 0) → (¬ N1.1.1 = 17) → W = ((⟨0, 0, N1.1.1, 1, zeroA, zeroA, 0, 0⟩, 0), N1.2) := fun h0 h1 => by rw [eW, if_pos h0, if_neg h1]
  clear eW
  have g1 : True := trivial
  refine meth_intro (wd := 64) (Q := mkQ LRd1) (by decide) tysOk (q_of LRd1_ok) mixed Tryd.func59 rfl _ (by show 1 + 1 ≤ _; decide) (flatF_nff (encRH_flat _)) (rdN_nf) ?_
  repeat' (first | (apply And.intro <;> intro hc <;> (first | exact Bool.noConfusion hc | (exfalso; first | exact absurd hc (by decide) | exact absurd rfl hc | exact absurd hc (by assumption) | exact absurd (by assumption) hc) | (simp only [decide_eq_true_eq, decide_eq_false_iff_not, Bool.not_eq_true', Bool.not_eq_false', beq_iff_eq, beq_eq_false_iff_ne, bne_iff_ne, bne_eq_false_iff_eq, Bool.true_eq_false, Bool.false_eq_true, ne_eq, not_true_eq_false] at hc <;> first | exact absurd rfl hc | (exfalso; first | exact absurd hc (by decide) | exact absurd rfl hc | exact absurd hc (by assumption) | exact absurd (by assumption) hc) | skip) | skip)) | (refine And.intro (by first | exact trivial | decide | omega | (dsimp only; omega) | exact fun _ _ => rfl | exact ⟨by assumption, by first | exact trivial | decide | omega | (dsimp only; omega)⟩) ?_) | (apply And.intro) | (refine Exists.intro b (And.intro ⟨rfl, rfl, by first | exact ⟨by assumption, by decide, by decide⟩⟩ ?_)) | (intro s hs; (first | (clear g1; have q : N1 = s := (hs.trans e1).symm; clear hs; subst q) | skip)))
  all_goals try (first | exact rfl | exact Nat.le_of_ble_eq_true rfl)
  all_goals first
    | (rw [f0 (by assumption)]
       exact ⟨leF_tup ⟨leE_tl (fun j hj => by (iterate 38 (rcases j with _ | j; exact leC_int rfl)); exact absurd hj (by omega)) leC_nils, leC_int rfl, trivial⟩, rdN_le rfl⟩)
    | (rw [f1 (by assumption) (by rw [← wn]; assumption)]
       exact ⟨leF_tup ⟨leE_tl (fun j hj => by (iterate 38 (rcases j with _ | j; exact leC_int rfl)); exact absurd hj (by omega)) leC_nils, leC_int rfl, trivial⟩, rdN_le rfl⟩)
    | (rw [f2 (by assumption) (by rw [← wn]; assumption)]
       exact ⟨leF_tup ⟨leE_tl (fun j hj => by (rcases j with _ | j; exact leC_int rfl); (rcases j with _ | j; exact leC_int rfl); (rcases j with _ | j; exact leC_int wn); (rcases j with _ | j; exact leC_int rfl); (iterate 34 (rcases j with _ | j; exact leC_int rfl)); exact absurd hj (by omega)) leC_nils, leC_int rfl, trivial⟩, rdN_le rfl⟩)
    | skip
set_option maxHeartbeats 4000000 in
set_option maxRecDepth 20000 in
theorem fields_125 (b : List Int) (q : Int) (hr : RdOk b q) : MethOk Tryd.prog 59 [(cI .i64).enc 125] (rdN true b q) (encRH (fieldsD b 125 q).1) (rdN true b (fieldsD b 125 q).2) := by
  obtain ⟨W, hW⟩ : ∃ W, fieldsD b 125 q = W := ⟨_, rfl⟩
  have eW : W = ((⟨0, 0, 17, 1, zeroA, zeroA, 0, 0⟩, 0), q) := by
    rw [← hW]
    simp (decide := true) only [fieldsD, thenD, hopV, if_true, if_false, true_and, and_true, false_and]
  rw [hW]
  clear hW
  have f0 : W = ((⟨0, 0, 17, 1, zeroA, zeroA, 0, 0⟩, 0), q) := eW
  clear eW
  refine meth_intro (wd := 64) (Q := mkQ LRd1) (by decide) tysOk (q_of LRd1_ok) mixed Tryd.func59 rfl _ (by show 1 + 1 ≤ _; decide) (flatF_nff (encRH_flat _)) (rdN_nf) ?_
  repeat' (first | (apply And.intro <;> intro hc <;> (first | exact Bool.noConfusion hc | (exfalso; first | exact absurd hc (by decide) | exact absurd rfl hc | exact absurd hc (by assumption) | exact absurd (by assumption) hc) | (simp only [decide_eq_true_eq, decide_eq_false_iff_not, Bool.not_eq_true', Bool.not_eq_false', beq_iff_eq, beq_eq_false_iff_ne, bne_iff_ne, bne_eq_false_iff_eq, Bool.true_eq_false, Bool.false_eq_true, ne_eq, not_true_eq_false] at hc <;> first | exact absurd rfl hc | (exfalso; first | exact absurd hc (by decide) | exact absurd rfl hc | exact absurd hc (by assumption) | exact absurd (by assumption) hc) | skip) | skip)) | (refine And.intro (by first | exact trivial | decide | omega | (dsimp only; omega) | exact fun _ _ => rfl | exact ⟨by assumption, by first | exact trivial | decide | omega | (dsimp only; omega)⟩) ?_) | (apply And.intro) | (refine Exists.intro b (And.intro ⟨rfl, rfl, by first | exact ⟨by assumption, by decide, by decide⟩⟩ ?_)) | (intro s hs; (first  | skip)))
  all_goals try (first | exact rfl | exact Nat.le_of_ble_eq_true rfl)
  all_goals first
    | (rw [f0 ]
       exact ⟨leF_tup ⟨leE_tl (fun j hj => by (rcases j with _ | j; exact leC_int rfl); (rcases j with _ | j; exact leC_int rfl); (rcases j with _ | j; exact leC_int rfl); (rcases j with _ | j; exact leC_int rfl); (iterate 34 (rcases j with _ | j; exact leC_int rfl)); exact absurd hj (by omega)) leC_nils, leC_int rfl, trivial⟩, rdN_le rfl⟩)
    | skip
end Go.Proofs.YtjknkfjhcapocaaDoor.AX

