/- Layer 13 by AX2: the encoding of packets and their UDP checksums. -/
import Derived.Test.YtjknkfjhcapocaaPk
namespace Go.Proofs.Ytjknkfjhcapocaa.AX
open Go.RowKit
set_option linter.unusedVariables false
set_option linter.unusedSimpArgs false
structure Num where
  val : Int
  n : Int
instance : Inhabited Num := ⟨⟨0, 0⟩⟩
def eNumC (x : Num) (j : Nat) : CV := bif Nat.beq j 0 then .int .u64 x.val else (.int .i64 x.n)
def eNum : Elem Num where
  sz := 2
  cell := eNumC
  rd g := ⟨valI (g 0), valI (g 1)⟩
  ok g := isK .u64 (g 0) && isK .i64 (g 1)
  ok_eq g h j hj := by
    simp only [Bool.and_eq_true] at h
    unfold eNumC
    by_cases c0 : j < 1
    · have e : j = 0 := by omega
      subst e
      exact isK_eq h.1
    by_cases c1 : j < 2
    · have e : j = 1 := by omega
      subst e
      exact isK_eq h.2
    omega
  flat a j := by
    unfold eNumC
    cases Nat.beq j 0 with
    | true => exact flat_int
    | false =>
    exact flat_int
theorem eNum_sz : 0 < eNum.sz := by decide
theorem eNum_rd (x : Num) : eNum.rd (eNum.cell x) = x := by
  show (⟨x.val, x.n⟩ : Num) = x
  rfl
theorem eNum_ok (x : Num) : eNum.ok (eNum.cell x) = true := rfl
theorem toL_num (l : List Num) : toL eNum l.length (rowF eNum l) = l := toL_row eNum_rd l
/-- Numbers behind a byte string. -/
def appN (b : List Int) : List Num → List Int
  | [] => b
  | x :: ns => appN (b ++ beB x.val x.n) ns
theorem beB_len (v n : Int) : (beB v n).length ≤ 8 := by
  unfold beB
  split
  · rw [beN_len]; omega
  · simp
theorem appN_len : ∀ (ns : List Num) (b : List Int), (appN b ns).length ≤ b.length + 8 * ns.length := by
  intro ns
  induction ns with
  | nil => intro b; simp [appN]
  | cons x ns ih =>
    intro b
    have h1 := ih (b ++ beB x.val x.n)
    have h2 := beB_len x.val x.n
    rw [appN, List.length_cons]
    rw [List.length_append] at h1
    omega
theorem appN_snoc : ∀ (ns : List Num) (b : List Int) (x : Num), appN b (ns ++ [x]) = appN b ns ++ beB x.val x.n := by
  intro ns
  induction ns with
  | nil => intro b x; rfl
  | cons y ns ih => intro b x; rw [List.cons_append, appN, ih]; rfl
theorem takeN_snoc {l : List Num} {k : Nat} (h : k < l.length) : l.take (k + 1) = l.take k ++ [l.getD k default] := by
  rw [List.take_succ_eq_append_getElem h, List.getD_eq_getElem?_getD, List.getElem?_eq_getElem h]; rfl
set_option maxHeartbeats 4000000 in
set_option maxRecDepth 20000 in
theorem numbers_ok (b : List Int) (ns : List Num) (hb : b.length ≤ 1048576) (hn : 0 < ns.length ∧ ns.length ≤ 16) :
    NewOk Try.prog 105 [(cSl eB eB_sz).enc b, (cSl eNum eNum_sz).enc ns] (some (appN b ns).length) none (ents eB 5 (appN b ns)) := by
  refine new_intro (wd := 1) (Q := mkQ LSm) (by decide) tysOk (q_of LSm_ok) mixed Try.func105 rfl _ (by show 2 ≤ _; decide) (fun i _ j _ => row_nf eB _ i j) ?_
  repeat' (first | (apply And.intro <;> intro hc <;> (first | exact Bool.noConfusion hc | (simp only [decide_eq_true_eq, decide_eq_false_iff_not, Bool.not_eq_true', Bool.not_eq_false', beq_iff_eq, beq_eq_false_iff_ne, bne_iff_ne, bne_eq_false_iff_eq, Bool.true_eq_false, Bool.false_eq_true] at hc) | skip)) | (refine And.intro (by first | exact trivial | decide | omega | (dsimp only; omega) | exact fun _ _ => rfl) ?_) | (apply And.intro) | (intro s hs))
  refine loop_intro (mono_of LSm_ok) (fun s : {i : Nat // i ≤ ns.length} => match s.1 with
    | 0 => (⟨[(0, one (.sl false b.length eB.sz (rowF eB b))), (7, one (.sl false ns.length eNum.sz (rowF eNum ns))), (8, one (.int .i64 (ns.length : Int))), (9, one (.int .i64 0))], [], 41⟩ : Hd)
    | k + 1 => (⟨[(0, one (.os 40 0 (appN b (ns.take (k + 1))).length)), (7, one (.sl false ns.length eNum.sz (rowF eNum ns))), (8, one (.int .i64 (ns.length : Int))), (9, one (.int .i64 ((k + 1 : Nat) : Int)))], [(40, some (ents eB 5 (appN b (ns.take (k + 1)))))], 41⟩ : Hd)) (fun s => ns.length - s.1) (fun s => by obtain ⟨s, hs⟩ := s; cases s <;> rfl) ?_ ⟨0, by omega⟩ [] ?_
  · rintro ⟨k, hk⟩
    cases k with
    | zero =>
      dsimp only at hk ⊢
      have e0 : appN b (ns.take 1) = b ++ beB (ns.getD 0 default).val (ns.getD 0 default).n := by rw [takeN_snoc hn.1]; rfl
      repeat' (first | (apply And.intro <;> intro hc <;> (first | exact Bool.noConfusion hc | (simp only [decide_eq_true_eq, decide_eq_false_iff_not, Bool.not_eq_true', Bool.not_eq_false', beq_iff_eq, beq_eq_false_iff_ne, bne_iff_ne, bne_eq_false_iff_eq, Bool.true_eq_false, Bool.false_eq_true] at hc) | skip)) | (refine And.intro (by first | exact trivial | decide | omega | (dsimp only; omega) | exact fun _ _ => rfl) ?_) | (apply And.intro) | (intro s hs))
      all_goals first
        | (exfalso; omega)
        | (dsimp only; rw [toL_b]; omega)
        | skip
      have hs' : s = appN b (ns.take 1) := by
        rw [e0]
        refine hs.trans ?_
        dsimp only
        rw [toL_b]; rfl
      subst hs'
      refine ⟨⟨1, by omega⟩, [(40, some 51)], by first | omega | (dsimp only; omega), rfl, ?_, ?_⟩
      · repeat' (first | exact trivial | exact rfl | exact leF_ptr rfl | exact leF_int rfl | exact leF_bool rfl | exact leF_cl (cl_slB _ _) | exact leF_cl (cl_slR _ _) | exact leF_cl (cl_ll _ _) | exact leF_c (leC_os rfl rfl) | refine leF_int ?_ | refine leF_bool ?_ | exact leN_varA (fun _ _ => (Elem.flat _ _ _).le) | exact leN_varA (fun _ _ => leC_top) | apply And.intro)
      · repeat' (first | exact trivial | exact rfl | exact leF_ptr rfl | exact leF_int rfl | exact leF_bool rfl | exact leF_cl (cl_slB _ _) | exact leF_cl (cl_slR _ _) | exact leF_cl (cl_ll _ _) | exact leF_c (leC_os rfl rfl) | refine leF_int ?_ | refine leF_bool ?_ | exact leN_varA (fun _ _ => (Elem.flat _ _ _).le) | exact leN_varA (fun _ _ => leC_top) | apply And.intro)
        exact leN_ents
    | succ k =>
      dsimp only at hk ⊢
      have hle := appN_len (ns.take (k + 1)) b
      rw [List.length_take] at hle
      have e0 : k + 1 < ns.length → appN b (ns.take (k + 1 + 1)) = appN b (ns.take (k + 1)) ++ beB (ns.getD (k + 1) default).val (ns.getD (k + 1) default).n := fun h => by rw [takeN_snoc h, appN_snoc]
      repeat' (first | (apply And.intro <;> intro hc <;> (first | exact Bool.noConfusion hc | (simp only [decide_eq_true_eq, decide_eq_false_iff_not, Bool.not_eq_true', Bool.not_eq_false', beq_iff_eq, beq_eq_false_iff_ne, bne_iff_ne, bne_eq_false_iff_eq, Bool.true_eq_false, Bool.false_eq_true] at hc) | skip)) | (refine And.intro (by first | exact trivial | decide | omega | (dsimp only; omega) | exact fun _ _ => rfl) ?_) | (apply And.intro) | (intro s hs))
      all_goals first
        | exact rfl
        | (dsimp only; rw [toL_b0]; omega)
        | skip
      · have hlt : k + 1 < ns.length := by omega
        have hs' : s = appN b (ns.take (k + 1 + 1)) := by
          rw [e0 hlt]
          refine hs.trans ?_
          dsimp only
          rw [toL_b0]; rfl
        subst hs'
        refine ⟨⟨k + 1 + 1, by omega⟩, [(40, some 51)], by first | omega | (dsimp only; omega), rfl, ?_, ?_⟩
        · repeat' (first | exact trivial | exact rfl | exact leF_ptr rfl | exact leF_int rfl | exact leF_bool rfl | exact leF_cl (cl_slB _ _) | exact leF_cl (cl_slR _ _) | exact leF_cl (cl_ll _ _) | exact leF_c (leC_os rfl rfl) | refine leF_int ?_ | refine leF_bool ?_ | exact leN_varA (fun _ _ => (Elem.flat _ _ _).le) | exact leN_varA (fun _ _ => leC_top) | apply And.intro)
          · first | (dsimp only; rw [IntWalk.i64_in _ (by omega)]; omega) | (dsimp only; rw [IntWalk.i64_in _ (by omega)]; done) | (dsimp only; exact IntWalk.i64_in _ (by omega)) | exact IntWalk.i64_in _ (by omega) | (rw [IntWalk.i64_in _ (by omega)]; omega)
        · repeat' (first | exact trivial | exact rfl | exact leF_ptr rfl | exact leF_int rfl | exact leF_bool rfl | exact leF_cl (cl_slB _ _) | exact leF_cl (cl_slR _ _) | exact leF_cl (cl_ll _ _) | exact leF_c (leC_os rfl rfl) | refine leF_int ?_ | refine leF_bool ?_ | exact leN_varA (fun _ _ => (Elem.flat _ _ _).le) | exact leN_varA (fun _ _ => leC_top) | apply And.intro)
          exact leN_ents
      · have hkk : k + 1 = ns.length := by omega
        rw [hkk, List.take_length]
        exact ⟨⟨some 40, leF_c (leC_os rfl rfl), leN_ents⟩⟩
  · refine ⟨rfl, ?_, ?_⟩
    · repeat' (first | exact trivial | exact rfl | exact leF_ptr rfl | exact leF_int rfl | exact leF_bool rfl | exact leF_cl (cl_slB _ _) | exact leF_cl (cl_slR _ _) | exact leF_cl (cl_ll _ _) | exact leF_c (leC_os rfl rfl) | refine leF_int ?_ | refine leF_bool ?_ | exact leN_varA (fun _ _ => (Elem.flat _ _ _).le) | exact leN_varA (fun _ _ => leC_top) | apply And.intro)
    · repeat' (first | exact trivial | exact rfl | exact leF_ptr rfl | exact leF_int rfl | exact leF_bool rfl | exact leF_cl (cl_slB _ _) | exact leF_cl (cl_slR _ _) | exact leF_cl (cl_ll _ _) | exact leF_c (leC_os rfl rfl) | refine leF_int ?_ | refine leF_bool ?_ | exact leN_varA (fun _ _ => (Elem.flat _ _ _).le) | exact leN_varA (fun _ _ => leC_top) | apply And.intro)
/-- Internet checksum, with 65535 for 0. -/
def sum0 (l : List Int) : Int := if inetF l = 0 then 65535 else inetF l
/-- What the UDP checksum of an encoding covers. -/
def coverB (b : List Int) : List Int := (b.drop 8).take 32 ++ (beB ((b.length : Int) - 40) 4 ++ ([0, 0, 0, 17] ++ ((b.drop 40).take 6 ++ ([0, 0] ++ (b.drop 48)))))
theorem toL_dt (b : List Int) (a n : Nat) (h : a + n ≤ b.length) : (toL eB n fun i => rowF eB b (a + i)) = (b.drop a).take n := by
  apply List.ext_getElem
  · rw [toL_len, List.length_take, List.length_drop]; omega
  · intro i h1 h2
    rw [toL_len] at h1
    simp only [toL, List.getElem_map, List.getElem_range, List.getElem_take, List.getElem_drop]
    show b.getD (a + i) default = _
    rw [List.getD_eq_getElem?_getD, List.getElem?_eq_getElem (by omega)]; rfl
theorem toL_dr (b : List Int) (a : Nat) (h : a ≤ b.length) : (toL eB (b.length - a) fun i => rowF eB b (a + i)) = b.drop a := by
  rw [toL_dt b a (b.length - a) (by omega), List.take_of_length_le (by simp)]
theorem beB_BL (v n : Int) : BL (beB v n) := by
  unfold beB
  split
  · exact beN_BL _ _
  · exact BL.nil
theorem cover_key {b : List Int} (hb : BL b) (hl : 48 ≤ b.length ∧ b.length ≤ 1048576) {A B C D E F : List Int} (hA : A = (b.drop 8).take 32) (hB : B = beB ((b.length : Int) - 40) 4) (hC : C = [0, 0, 0, 17]) (hD : D = (b.drop 40).take 6) (hE : E = [0, 0]) (hF : F = b.drop 48) :
    [A, B, C, D, E, F].flatten = coverB b ∧ BLL [A, B, C, D, E, F] ∧ [A, B, C, D, E, F].flatten.length ≤ 70368744177664 := by
  subst hA hB hC hD hE hF
  refine ⟨by simp [coverB], ⟨fun l h => ?_⟩, ?_⟩
  · simp only [List.mem_cons, List.not_mem_nil, or_false] at h
    rcases h with rfl | rfl | rfl | rfl | rfl | rfl
    · exact (hb.drop 8).take 32
    · exact beB_BL _ _
    · exact BL.cons (by omega) (BL.cons (by omega) (BL.cons (by omega) (BL.cons (by omega) BL.nil)))
    · exact (hb.drop 40).take 6
    · exact BL.cons (by omega) (BL.cons (by omega) BL.nil)
    · exact hb.drop 48
  · have h1 := beB_len ((b.length : Int) - 40) 4
    simp only [List.flatten_cons, List.flatten_nil, List.length_append, List.length_take, List.length_drop, List.length_cons, List.length_nil]
    omega
set_option maxHeartbeats 8000000 in
set_option maxRecDepth 20000 in
theorem udpSum_ok (b : List Int) (hb : BL b) (hl : 48 ≤ b.length ∧ b.length ≤ 1048576) : PureOk Try.prog 67 [(cSl eB eB_sz).enc b] ((cI .u16).enc (sum0 (coverB b))) := by
  have e1 : IntKind.i64.wrap ((b.length : Int) - 40) = b.length - 40 := IntWalk.i64_in _ (by omega)
  have e2 : IntKind.u64.wrap ((b.length : Int) - 40) = b.length - 40 := IntWalk.u64_in _ (by omega)
  have e3 : beB (IntKind.u64.wrap (IntKind.i64.wrap ((b.length : Int) - 40))) 4 = beB ((b.length : Int) - 40) 4 := by rw [e1, e2]
  have a1 := toL_dt b 8 32 (by omega)
  have a2 := toL_dt b 40 6 (by omega)
  have a3 := toL_dr b 48 (by omega)
  have kB : ∀ s : List Int, s = [] ++ beB (IntKind.u64.wrap (IntKind.i64.wrap ((b.length : Int) - 40))) 4 → (toL eB s.length fun k j => rowF eB s (0 + k) j) = beB ((b.length : Int) - 40) 4 := fun s h => by rw [toL_b0, h, e3]; rfl
  have k := fun s h => cover_key hb hl a1 (kB s h) rfl a2 rfl a3
  refine pure_intro (wd := 1) (Q := mkQ LSm) (by decide) tysOk (q_of LSm_ok) mixed Try.func67 rfl _ (by show 1 ≤ _; decide) _ ?_
  repeat' (first | (apply And.intro <;> intro hc <;> (first | exact Bool.noConfusion hc | (simp only [decide_eq_true_eq, decide_eq_false_iff_not, Bool.not_eq_true', Bool.not_eq_false', beq_iff_eq, beq_eq_false_iff_ne, bne_iff_ne, bne_eq_false_iff_eq, Bool.true_eq_false, Bool.false_eq_true] at hc) | skip)) | (refine And.intro (by first | exact trivial | decide | omega | (dsimp only; omega) | exact fun _ _ => rfl) ?_) | (apply And.intro) | (intro s hs))
  all_goals first
    | exact rfl
    | exact Nat.zero_le _
    | exact (k _ (by assumption)).2.1
    | exact (k _ (by assumption)).2.2
    | exact (by decide : (6 : Nat) ≤ 16)
    | skip
  all_goals
    have hs' : s = inetF (coverB b) := hs.trans (congrArg inetF (k _ (by assumption)).1)
    clear hs
    subst hs'
    refine Done.mk (leF_int ?_)
    unfold sum0
    first | rw [if_pos (by assumption)] | rw [if_neg (by assumption)]
def ipL (a : Fin 16 → Int) : List Int := (List.range 16).map (vget a)
theorem ipL_len (a : Fin 16 → Int) : (ipL a).length = 16 := by simp [ipL]
/-- The encoding of a packet with a checksum. -/
def encB (p : Pkt) (sum : Int) : List Int :=
  beB (1610612736 + p.1.cls * 1048576 + p.1.flow) 4 ++ beB (sizeP p - 40) 2 ++ [p.1.nxt, p.1.hops] ++ ipL p.1.src ++ ipL p.1.dst ++
    (if p.1.nxt = 17 then beB p.1.sp 2 ++ beB p.1.dp 2 ++ beB (sizeP p - 40) 2 ++ beB sum 2 else []) ++ p.2
/-- The numbers of a packet are in their ranges. -/
structure PkW (p : Pkt) : Prop where
  cls : 0 ≤ p.1.cls ∧ p.1.cls < 256
  flow : 0 ≤ p.1.flow ∧ p.1.flow < 4294967296
  nxt : 0 ≤ p.1.nxt ∧ p.1.nxt < 256
  hops : 0 ≤ p.1.hops ∧ p.1.hops < 256
  src : ∀ i, 0 ≤ vget p.1.src i ∧ vget p.1.src i < 256
  dst : ∀ i, 0 ≤ vget p.1.dst i ∧ vget p.1.dst i < 256
  sp : 0 ≤ p.1.sp ∧ p.1.sp < 65536
  dp : 0 ≤ p.1.dp ∧ p.1.dp < 65536
  pay : BL p.2
def LPc : CsL := (105, some (newE (AC.cons (cSl eB eB_sz) (AC.cons (cSl eNum eNum_sz) AC.nil)) (fun a => a.1.length ≤ 1048576 ∧ 0 < a.2.1.length ∧ a.2.1.length ≤ 16) (fun a => appN a.1 a.2.1) (fun L => some L.length) (fun _ => none) (fun L => ents eB 5 L))) ::
  (67, some (pureE (AC.cons (cSl eB eB_sz) AC.nil) (fun a => BL a.1 ∧ 48 ≤ a.1.length ∧ a.1.length ≤ 1048576) (fun a => sum0 (coverB a.1)) (cI .u16).enc)) :: LPb
theorem LPc_ok : AllOk Try.prog LPc := ⟨newE_ok ⟨_, Try.func105, rfl, by kernel_rfl⟩ (fun s l h => by cases h) fun a h => numbers_ok a.1 a.2.1 h.1 h.2, pureE_ok ⟨_, Try.func67, rfl, by kernel_rfl⟩ fun a h => udpSum_ok a.1 h.1 h.2, LPb_ok⟩
theorem beB1 (v : Int) (h : 0 ≤ v ∧ v < 256) : beB v 1 = [v] := by
  unfold beB
  rw [if_pos (by omega)]
  show [v / 256 ^ 0 % 256] = [v]
  rw [Int.pow_zero, Int.ediv_one, Int.emod_eq_of_lt h.1 h.2]
/-- The cells of a row of bytes. -/
structure IsRow (F : Nat → Nat → CV) (l : List Int) : Prop where
  at_ : ∀ k, k < l.length → F k 0 = .int .u8 (l.getD k default)
theorem isRow_row (l : List Int) : IsRow (rowF eB l) l := ⟨fun k _ => rfl⟩
theorem isRow_0 {F : Nat → Nat → CV} {l : List Int} (h : IsRow F l) : IsRow (fun k j => F (0 + k) j) l := ⟨fun k hk => by show F (0 + k) 0 = _; rw [Nat.zero_add]; exact h.at_ k hk⟩
theorem blt_no {a b : Nat} (h : b ≤ a) : Nat.blt a b = false := by
  cases hb : Nat.blt a b with
  | false => rfl
  | true => have := Nat.le_of_ble_eq_true hb; omega
theorem isRow_sel {A C : Nat → Nat → CV} {l1 l2 : List Int} {n : Nat} (hn : n = l1.length) (h1 : IsRow A l1) (h2 : ∀ k, k < l2.length → C (n + k) 0 = .int .u8 (l2.getD k default)) : IsRow (fun k j => selC (Nat.blt k n) (A k j) (C k j)) (l1 ++ l2) := ⟨fun k hk => by
  rw [List.length_append] at hk
  show selC (Nat.blt k n) (A k 0) (C k 0) = _
  subst hn
  by_cases h : k < l1.length
  · rw [selC_eq, blt_lt h, cond_true, h1.at_ k h, List.getD_eq_getElem?_getD, List.getD_eq_getElem?_getD, List.getElem?_append_left h]
  · obtain ⟨q, rfl⟩ : ∃ q, k = l1.length + q := ⟨k - l1.length, by omega⟩
    rw [selC_eq, blt_no (by omega), cond_false, h2 q (by omega), List.getD_eq_getElem?_getD, List.getD_eq_getElem?_getD, List.getElem?_append_right (by omega), show l1.length + q - l1.length = q by omega]⟩
theorem toL_is {F : Nat → Nat → CV} {l : List Int} {N : Nat} (hN : N = l.length) (h : IsRow F l) : toL eB N F = l := by
  subst hN
  apply List.ext_getElem
  · rw [toL_len]
  · intro i g1 g2
    simp only [toL, List.getElem_map, List.getElem_range]
    show valI (F i 0) = _
    rw [h.at_ i g2, List.getD_eq_getElem?_getD, List.getElem?_eq_getElem g2]; rfl
theorem ok_is {F : Nat → Nat → CV} {l : List Int} {s : Nat} (h : IsRow F l) (hs : s < l.length) : eB.ok (F s) = true := by
  show isK .u8 (F s 0) = true
  rw [h.at_ s hs]; rfl
theorem leC_is {c : Wc} {F : Nat → Nat → CV} {l : List Int} (h : IsRow F l) {k : Nat} (hk : k < l.length) {j : Nat} (hj : j < 1) : LeC c (F k j) (rowF eB l k j) := by
  obtain rfl : j = 0 := by omega
  rw [h.at_ k hk]
  exact leC_int rfl
theorem leN_is {c : Wc} {F : Nat → Nat → CV} {l : List Int} {n : Nat} {t : TypeId} (hn : n = l.length) (h : IsRow F l) : LeN c ⟨t, n, eB.sz, false, F⟩ (ents eB t l) := leN_row hn fun i hi j hj => leC_is h (by omega) hj
theorem toL_ip {B : Nat → Nat → CV} {a : Fin 16 → Int} (h : ∀ k, k < 16 → B k 0 = .int .u8 (vget a k)) : toL eB 16 B = ipL a := by
  unfold toL ipL
  apply List.map_congr_left
  intro k hk
  show valI (B k 0) = _
  rw [h k (List.mem_range.1 hk)]; rfl
theorem tailC_src {h : Hdr} {last : CV} {j k : Nat} (hj : j = 4 + k) (hk : k < 16) : tailC eHd h last j = .int .u8 (vget h.src k) := by
  subst hj
  rw [tailC_lt (show 4 + k < 38 by omega)]
  exact eHd_src_at _ _ hk
theorem tailC_dst {h : Hdr} {last : CV} {j k : Nat} (hj : j = 20 + k) (hk : k < 16) : tailC eHd h last j = .int .u8 (vget h.dst k) := by
  subst hj
  rw [tailC_lt (show 20 + k < 38 by omega)]
  exact eHd_dst_at _ _ hk
theorem leC_ip {c : Wc} {x : CV} {a : Fin 16 → Int} {k j : Nat} (h : x = .int .u8 (vget a k)) (hk : k < 16) : LeC c x (rowF eB (ipL a) k j) := by
  rw [h]
  refine leC_int ?_
  unfold ipL
  rw [List.getD_eq_getElem?_getD, List.getElem?_map, List.getElem?_range hk]; rfl
def encH (p : Pkt) : List Int := beB (1610612736 + p.1.cls * 1048576 + p.1.flow) 4 ++ beB (sizeP p - 40) 2 ++ [p.1.nxt, p.1.hops]
def encU (p : Pkt) (sum : Int) : List Int := beB p.1.sp 2 ++ beB p.1.dp 2 ++ beB (sizeP p - 40) 2 ++ beB sum 2
theorem encB_eq (p : Pkt) (sum : Int) : encB p sum = ((encH p ++ ipL p.1.src) ++ ipL p.1.dst ++ (if p.1.nxt = 17 then encU p sum else [])) ++ p.2 := by
  unfold encB encH encU; rfl
set_option maxHeartbeats 8000000 in
set_option maxRecDepth 20000 in
theorem encoding_ok (p : Pkt) (sum : Int) (hp : PkW p) (hl : p.2.length ≤ 2000) (hs : 0 ≤ sum ∧ sum < 65536) : NewOk Try.prog 63 [cPk.enc p, (cI .u16).enc sum] (some (encB p sum).length) none (ents eB 5 (encB p sum)) := by
  have hsz : 40 ≤ sizeP p ∧ sizeP p ≤ 4000 := by unfold sizeP; split <;> omega
  have c1 := hp.cls
  have c2 := hp.flow
  have w1 : IntKind.u64.wrap p.1.cls = p.1.cls := IntWalk.u64_in _ (by omega)
  have w2 : shlI .u64 (IntKind.u64.wrap p.1.cls) 20 = p.1.cls * 1048576 := by
    rw [w1]
    unfold shlI
    rw [show min (20 : Int).toNat (IntKind.bits .u64) = 20 from rfl]
    exact IntWalk.u64_in _ (by omega)
  have w3 : IntKind.u64.wrap (IntKind.u64.wrap (1610612736 + shlI .u64 (IntKind.u64.wrap p.1.cls) 20) + IntKind.u64.wrap p.1.flow) = 1610612736 + p.1.cls * 1048576 + p.1.flow := by
    rw [w2, IntWalk.u64_in p.1.flow (by omega), IntWalk.u64_in (1610612736 + p.1.cls * 1048576) (by omega)]
    exact IntWalk.u64_in _ (by omega)
  have w4 : IntKind.u64.wrap (IntKind.i64.wrap (sizeP p - 40)) = sizeP p - 40 := by
    rw [IntWalk.i64_in _ (by omega)]
    exact IntWalk.u64_in _ (by omega)
  have hk := hp.hops
  have hnx := hp.nxt
  have hsp := hp.sp
  have hdp := hp.dp
  have n1 : appN [] [⟨IntKind.u64.wrap (IntKind.u64.wrap (1610612736 + shlI .u64 (IntKind.u64.wrap p.1.cls) 20) + IntKind.u64.wrap p.1.flow), 4⟩, ⟨IntKind.u64.wrap (IntKind.i64.wrap (sizeP p - 40)), 2⟩, ⟨IntKind.u64.wrap p.1.nxt, 1⟩, ⟨IntKind.u64.wrap p.1.hops, 1⟩] = encH p := by
    unfold encH appN appN appN appN appN
    dsimp only
    rw [w3, w4, IntWalk.u64_in p.1.nxt (by omega), IntWalk.u64_in p.1.hops (by omega), beB1 _ hnx, beB1 _ hk]
    simp
  have n2 : ∀ L, appN L [⟨IntKind.u64.wrap p.1.sp, 2⟩, ⟨IntKind.u64.wrap p.1.dp, 2⟩, ⟨IntKind.u64.wrap (IntKind.i64.wrap (sizeP p - 40)), 2⟩, ⟨IntKind.u64.wrap sum, 2⟩] = L ++ encU p sum := fun L => by
    unfold encU appN appN appN appN appN
    dsimp only
    rw [w4, IntWalk.u64_in p.1.sp (by omega), IntWalk.u64_in p.1.dp (by omega), IntWalk.u64_in sum (by omega)]
    simp
  have hH : (encH p).length = 8 := by unfold encH beB; simp [beN_len]
  have hU : (encU p sum).length = 8 := by unfold encU beB; simp [beN_len]
  rw [encB_eq]
  obtain ⟨H0, eH0⟩ : ∃ H0, encH p = H0 := ⟨_, rfl⟩
  obtain ⟨U0, eU0⟩ : ∃ U0, encU p sum = U0 := ⟨_, rfl⟩
  obtain ⟨sL, eS⟩ : ∃ sL, ipL p.1.src = sL := ⟨_, rfl⟩
  obtain ⟨dL, eD⟩ : ∃ dL, ipL p.1.dst = dL := ⟨_, rfl⟩
  have hS := ipL_len p.1.src
  have hD := ipL_len p.1.dst
  rw [eS] at hS
  rw [eD] at hD
  rw [eH0] at n1 hH
  rw [eU0] at n2 hU
  rw [eH0, eU0, eS, eD]
  have gS : ∀ k, k < 16 → sL.getD k default = vget p.1.src k := fun k hk => by rw [← eS]; unfold ipL; rw [List.getD_eq_getElem?_getD, List.getElem?_map, List.getElem?_range hk]; rfl
  have gD : ∀ k, k < 16 → dL.getD k default = vget p.1.dst k := fun k hk => by rw [← eD]; unfold ipL; rw [List.getD_eq_getElem?_getD, List.getElem?_map, List.getElem?_range hk]; rfl
  clear eS eD eU0 eH0
  have row40 : ∀ {h : List Int} {last : CV}, h.length = 8 → IsRow (fun k j => (fun k j => selC (Nat.blt k (h.length + (16 - 0))) ((fun k j => selC (Nat.blt k h.length) (rowF eB h k j) (tailC eHd p.1 last (0 + 4 + 0 * 1 + ((k - h.length) * 1 + j)))) k j) (tailC eHd p.1 last (0 + 20 + 0 * 1 + ((k - (h.length + (16 - 0))) * 1 + j)))) k j) (h ++ sL ++ dL) := fun {h last} hh => by
    refine isRow_sel (by rw [List.length_append]; omega) (isRow_sel rfl (isRow_row h) fun k hk => ?_) fun k hk => ?_
    · rw [gS k (by omega)]
      exact tailC_src (by omega) (by omega)
    · rw [gD k (by omega)]
      exact tailC_dst (by omega) (by omega)
  by_cases hu : p.1.nxt = 17
  · rw [if_pos hu]
    refine new_intro (wd := 1) (Q := mkQ LPc) (by decide) tysOk (q_of LPc_ok) mixed Try.func63 rfl _ (by show 2 ≤ _; decide) (fun i _ j _ => row_nf eB _ i j) ?_
    repeat' (first | (apply And.intro <;> intro hc <;> (first | exact Bool.noConfusion hc | (exfalso; first | exact absurd hu hc | exact absurd hc hu) | (simp only [decide_eq_true_eq, decide_eq_false_iff_not, Bool.not_eq_true', Bool.not_eq_false', beq_iff_eq, beq_eq_false_iff_ne, bne_iff_ne, bne_eq_false_iff_eq, Bool.true_eq_false, Bool.false_eq_true, ne_eq, not_true_eq_false] at hc <;> first | exact absurd rfl hc | (exfalso; first | exact absurd hu hc | exact absurd hc hu) | skip) | skip)) | (refine And.intro (by first | exact trivial | decide | omega | (dsimp only; omega) | exact fun _ _ => rfl | exact ⟨by assumption, by first | exact trivial | decide | omega | (dsimp only; omega)⟩) ?_) | (apply And.intro) | (intro s hs; (first | (have hs' : s = sizeP p := hs.trans (congrArg sizeP (pk_eq p _)); clear hs; subst hs') | (have hs' := hs.trans n1; clear hs; subst hs') | (have hs' := hs.trans ((congrArg (fun x => appN x _) (toL_is (by rw [List.length_append, List.length_append]; omega) (isRow_0 (row40 hH)))).trans (n2 _)); clear hs; subst hs') | skip)))
    · dsimp only; rw [toL_b]; omega
    · dsimp only; rw [toL_b]; omega
    · rename_i hs4
      rcases (show s = 0 ∨ s = 1 ∨ s = 2 ∨ s = 3 by omega) with rfl | rfl | rfl | rfl <;> rfl
    · dsimp only; rw [toL_len]; decide
    · dsimp only; rw [toL_len]; decide
    · dsimp only; rw [toL_len]; decide
    · omega
    · omega
    · exact ok_is (isRow_0 (row40 hH)) (by rw [List.length_append, List.length_append]; omega)
    · rename_i hs4
      rcases (show s = 0 ∨ s = 1 ∨ s = 2 ∨ s = 3 by omega) with rfl | rfl | rfl | rfl <;> rfl
    · dsimp only; rw [toL_len]; omega
    · dsimp only; rw [toL_len]; decide
    · dsimp only; rw [toL_len]; decide
    · rw [List.length_append, List.length_append, List.length_append]; omega
    · rw [List.length_append, List.length_append, List.length_append]; omega
    · refine ⟨⟨some 69, leF_c (leC_os rfl (List.length_append).symm), leN_is (List.length_append).symm (isRow_sel rfl (isRow_row _) fun k hk => ?_)⟩⟩
      show rowF eB p.2 _ 0 = _
      rw [Nat.add_sub_cancel_left]; rfl
  · rw [if_neg hu, List.append_nil]
    refine new_intro (wd := 1) (Q := mkQ LPc) (by decide) tysOk (q_of LPc_ok) mixed Try.func63 rfl _ (by show 2 ≤ _; decide) (fun i _ j _ => row_nf eB _ i j) ?_
    repeat' (first | (apply And.intro <;> intro hc <;> (first | exact Bool.noConfusion hc | (exfalso; first | exact absurd hu hc | exact absurd hc hu) | (simp only [decide_eq_true_eq, decide_eq_false_iff_not, Bool.not_eq_true', Bool.not_eq_false', beq_iff_eq, beq_eq_false_iff_ne, bne_iff_ne, bne_eq_false_iff_eq, Bool.true_eq_false, Bool.false_eq_true, ne_eq, not_true_eq_false] at hc <;> first | exact absurd rfl hc | (exfalso; first | exact absurd hu hc | exact absurd hc hu) | skip) | skip)) | (refine And.intro (by first | exact trivial | decide | omega | (dsimp only; omega) | exact fun _ _ => rfl | exact ⟨by assumption, by first | exact trivial | decide | omega | (dsimp only; omega)⟩) ?_) | (apply And.intro) | (intro s hs; (first | (have hs' : s = sizeP p := hs.trans (congrArg sizeP (pk_eq p _)); clear hs; subst hs') | (have hs' := hs.trans n1; clear hs; subst hs') | skip)))
    · dsimp only; rw [toL_b]; omega
    · dsimp only; rw [toL_b]; omega
    · rename_i hs4
      rcases (show s = 0 ∨ s = 1 ∨ s = 2 ∨ s = 3 by omega) with rfl | rfl | rfl | rfl <;> rfl
    · dsimp only; rw [toL_len]; decide
    · dsimp only; rw [toL_len]; decide
    · dsimp only; rw [toL_len]; decide
    · omega
    · omega
    · refine ⟨⟨some 51, leF_c (leC_os rfl (by rw [List.length_append, List.length_append, List.length_append]; omega)), leN_is (by rw [List.length_append, List.length_append, List.length_append]; omega) (isRow_sel (by rw [List.length_append, List.length_append]; omega) (row40 hH) fun k hk => ?_)⟩⟩
      show rowF eB p.2 _ 0 = _
      rw [Nat.add_sub_cancel_left]; rfl
end Go.Proofs.Ytjknkfjhcapocaa.AX
