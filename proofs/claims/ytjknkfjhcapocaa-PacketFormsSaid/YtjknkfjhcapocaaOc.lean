/- Layer 1 by AX2: Append and Uint of the program and of the reference; Same. -/
import Derived.Test.YtjknkfjhcapocaaBg
import Derived.Test.YtjknkfjhcapocaaPkL
import Derived.Laws.BitsAllLaws
import Derived.IntWalk
namespace Go.Proofs.Ytjknkfjhcapocaa.AX
open Go.RowKit
set_option linter.unusedVariables false
set_option linter.unusedSimpArgs false
abbrev eB : Elem Int := eI .u8
theorem eB_sz : 0 < eB.sz := Nat.one_pos
theorem eI_rd (k : IntKind) (a : Int) : (eI k).rd ((eI k).cell a) = a := rfl
theorem toL_b (l : List Int) : toL eB l.length (rowF eB l) = l := toL_row (eI_rd .u8) l
theorem toL_b0 (l : List Int) : (toL eB l.length fun k j => rowF eB l (0 + k) j) = l := by simp only [Nat.zero_add]; exact toL_b l
/-- An element of a row turns. -/
theorem leN_set {c : Wc} {t : TypeId} {α : Type} [Inhabited α] {E : Elem α} {L : List α} {idx n : Nat} {x : α} {f : Nat → Nat → CV} {g : Nat → CV} (hn : n = L.length) (hi : idx < L.length)
    (hf : ∀ i, i < L.length → ∀ j, j < E.sz → LeC c (f i j) (rowF E L i j)) (hg : ∀ j, j < E.sz → LeC c (g j) (E.cell x j)) : LeN c ⟨t, n, E.sz, false, updE false f idx g⟩ (ents E t (L.set idx x)) := by
  refine leN_row (by rw [hn]; simp) fun i hi' j hj => ?_
  subst hn
  by_cases h : i = idx
  · subst h
    refine selC_in (beq_of rfl) ?_
    refine leC_eq (hg j hj) ?_
    unfold rowF
    rw [List.getD_eq_getElem?_getD, List.getElem?_set_self hi]; rfl
  · refine selC_out (beq_ne h) ?_
    refine leC_eq (hf i hi' j hj) ?_
    unfold rowF
    rw [List.getD_eq_getElem?_getD, List.getD_eq_getElem?_getD, List.getElem?_set_ne (Ne.symm h)]
/-- A row behind another one. -/
theorem leN_app {c : Wc} {t : TypeId} {α : Type} [Inhabited α] {E : Elem α} {L M : List α} {n : Nat} {f : Nat → Nat → CV} (hn : n = L.length + M.length) (h1 : ∀ i, i < L.length → ∀ j, j < E.sz → LeC c (f i j) (rowF E L i j)) (h2 : ∀ i, i < M.length → ∀ j, j < E.sz → LeC c (f (L.length + i) j) (rowF E M i j)) :
    LeN c ⟨t, n, E.sz, false, f⟩ (ents E t (L ++ M)) := by
  refine leN_row (by rw [hn]; simp) fun i hi j hj => ?_
  subst hn
  by_cases h : i < L.length
  · refine leC_eq (h1 i h j hj) ?_
    unfold rowF
    rw [List.getD_eq_getElem?_getD, List.getD_eq_getElem?_getD, List.getElem?_append_left h]
  · obtain ⟨k, rfl⟩ : ∃ k, i = L.length + k := ⟨i - L.length, by omega⟩
    refine leC_eq (h2 k (by omega) j hj) ?_
    unfold rowF
    rw [List.getD_eq_getElem?_getD, List.getD_eq_getElem?_getD, List.getElem?_append_right (by omega)]
    congr 3; omega
/-- The bytes of a number as the program reckons them. -/
def byteM (v : Int) (m j : Nat) : Int := IntKind.u8.wrap (shrI .u64 v (8 * ((m : Int) - 1 - (j : Int))))
def beM (v : Int) (m : Nat) : List Int := (List.range m).map (byteM v m)
theorem byteM_eq (v : Int) (m j : Nat) (hj : j < m) (hm : m ≤ 8) : byteM v m j = v / 256 ^ (m - 1 - j) % 256 := by
  unfold byteM shrI
  rw [IntKind.wrap_u8']
  have e1 : (8 * ((m : Int) - 1 - (j : Int))).toNat = 8 * (m - 1 - j) := by omega
  rw [e1, show IntKind.bits .u64 = 64 from rfl, show min (8 * (m - 1 - j)) 64 = 8 * (m - 1 - j) by omega]
  have e2 : (2 : Int) ^ (8 * (m - 1 - j)) = 256 ^ (m - 1 - j) := by rw [Int.pow_mul]; rfl
  rw [e2, Int.fdiv_eq_ediv_of_nonneg _ (Int.le_of_lt (Int.pow_pos (by omega)))]
theorem beM_eq (v : Int) (m : Nat) (hm : m ≤ 8) : beM v m = beN v m := by
  have key : ∀ k, k ≤ m → (List.range k).map (fun j => byteM v m (m - k + j)) = beN v k := by
    intro k
    induction k with
    | zero => intro _; rfl
    | succ k ih =>
      intro hk
      rw [List.range_succ_eq_map, List.map_cons, List.map_map, beN, ← ih (by omega)]
      congr 1
      · rw [byteM_eq _ _ _ (by omega) hm]
        congr 2
        congr 1; omega
      · apply List.map_congr_left
        intro j hj
        have := List.mem_range.1 hj
        show byteM v m (m - (k + 1) + (j + 1)) = byteM v m (m - k + j)
        congr 1; omega
  have := key m (Nat.le_refl _)
  rw [Nat.sub_self] at this
  unfold beM
  rw [← this]
  apply List.map_congr_left
  intro j _
  rw [Nat.zero_add]
/-- Append: 1.1. -/
def beB (v n : Int) : List Int := if 0 ≤ n ∧ n ≤ 8 then beN v n.toNat else []
def fillL (l : List Int) (m : Nat) (v : Int) (i : Nat) : List Int := l ++ ((List.range i).map (byteM v m) ++ List.replicate (m - i) 0)
theorem fillL_len (l : List Int) (m : Nat) (v : Int) (i : Nat) (h : i ≤ m) : (fillL l m v i).length = l.length + m := by simp [fillL]; omega
theorem fillL_step (l : List Int) (m : Nat) (v : Int) (i : Nat) (h : i < m) : fillL l m v (i + 1) = (fillL l m v i).set (l.length + i) (byteM v m i) := by
  unfold fillL
  rw [List.set_append_right _ _ (by omega), show l.length + i - l.length = i by omega]
  congr 1
  rw [List.set_append_right _ _ (by simp)]
  simp only [List.length_map, List.length_range, Nat.sub_self]
  obtain ⟨k, hk⟩ : ∃ k, m - i = k + 1 := ⟨m - i - 1, by omega⟩
  rw [hk, List.replicate_succ, List.set_cons_zero, List.range_succ, List.map_append, List.append_assoc]
  rw [show m - (i + 1) = k by omega]; rfl
theorem fillL_end (l : List Int) (m : Nat) (v : Int) : fillL l m v m = l ++ beM v m := by simp [fillL, beM]
set_option maxHeartbeats 4000000 in
set_option maxRecDepth 20000 in
theorem oapp_ok (l : List Int) (v n : Int) (hl : l.length ≤ 70368744177664) :
    NewOk Try.prog 106 [(cSl eB eB_sz).enc l, (cI .u64).enc v, (cI .i64).enc n] (some (l ++ beB v n).length) none (ents eB 5 (l ++ beB v n)) := by
  by_cases hr : 0 ≤ n ∧ n ≤ 8
  · obtain ⟨m, rfl⟩ : ∃ m : Nat, n = m := ⟨n.toNat, by omega⟩
    have hm8 : m ≤ 8 := by omega
    have hspec : l ++ beB v m = fillL l m v m := by
      rw [fillL_end, beM_eq v m hm8]
      unfold beB
      rw [if_pos hr]; rfl
    rw [hspec]
    clear hspec
    have em : IntKind.i64.wrap ((l.length : Int) + m) = l.length + m := IntWalk.i64_in _ (by omega)
    have hmin : Nat.min l.length (l.length + m) = l.length := Nat.min_eq_left (by omega)
    refine new_intro (wd := 1) (Q := mkQ LE0) (by decide) tysOk (q_of LE0_ok) mixed Try.func106 rfl _ (by show 3 ≤ _; decide) (fun i _ j _ => row_nf eB _ i j) ?_
    repeat' (first | (apply And.intro <;> intro hc <;> (first | exact Bool.noConfusion hc | (simp only [decide_eq_true_eq, decide_eq_false_iff_not, Bool.not_eq_true', Bool.not_eq_false', beq_iff_eq, beq_eq_false_iff_ne, bne_iff_ne, bne_eq_false_iff_eq, Bool.true_eq_false, Bool.false_eq_true] at hc) | skip)) | (refine And.intro (by first | exact trivial | decide | omega | (dsimp only; omega) | exact fun _ _ => rfl) ?_) | (apply And.intro) | (intro s hs))
    all_goals first
      | (exfalso; omega)
      | (rw [Int.natCast_one, Int.one_mul]; omega)
      | omega
      | skip
    refine loop_intro (mono_of LE0_ok) (fun s : {i : Nat // i ≤ m} => (⟨[(0, one (.sl false l.length eB.sz (rowF eB l))), (1, one (.int .u64 v)), (2, one (.int .i64 m)), (7, one (.os 40 0 (l.length + m))), (23, one (.int .i64 m)), (24, one (.int .i64 (s.1 : Int)))],
      [(40, some (ents eB 5 (fillL l m v s.1)))], 41⟩ : Hd)) (fun s => m - s.1) (fun _ => rfl) ?_ ⟨0, by omega⟩ [(40, some 11)] ?_
    · rintro ⟨i, hi⟩
      dsimp only at hi ⊢
      have hlen := fillL_len l m v i hi
      have w1 : IntKind.i64.wrap ((l.length : Int) + i) = l.length + i := IntWalk.i64_in _ (by omega)
      have w2 : IntKind.i64.wrap ((m : Int) - 1) = m - 1 := IntWalk.i64_in _ (by omega)
      have w3 : IntKind.i64.wrap ((m : Int) - 1 - i) = m - 1 - i := IntWalk.i64_in _ (by omega)
      have w4 : IntKind.i64.wrap (8 * ((m : Int) - 1 - i)) = 8 * (m - 1 - i) := IntWalk.i64_in _ (by omega)
      have w5 : i < m → 0 ≤ IntKind.i64.wrap (8 * IntKind.i64.wrap (IntKind.i64.wrap ((m : Int) - 1) - i)) := fun _ => by rw [w2, w3, w4]; omega
      repeat' (first | (apply And.intro <;> intro hc <;> (first | exact Bool.noConfusion hc | (simp only [decide_eq_true_eq, decide_eq_false_iff_not, Bool.not_eq_true', Bool.not_eq_false', beq_iff_eq, beq_eq_false_iff_ne, bne_iff_ne, bne_eq_false_iff_eq, Bool.true_eq_false, Bool.false_eq_true] at hc) | skip)) | (refine And.intro (by first | exact trivial | decide | omega | (dsimp only; omega) | exact fun _ _ => rfl) ?_) | (apply And.intro) | (intro s hs))
      all_goals first
        | exact w5 (by omega)
        | omega
        | skip
      · refine ⟨⟨i + 1, by omega⟩, [], by dsimp only <;> omega, rfl, ?_, ?_⟩
        · repeat' (first | exact trivial | exact rfl | exact leF_ptr rfl | exact leF_int rfl | exact leF_bool rfl | exact leF_cl (cl_slB _ _) | exact leF_cl (cl_slR _ _) | exact leF_cl (cl_ll _ _) | exact leF_c (leC_os rfl rfl) | refine leF_int ?_ | refine leF_bool ?_ | exact leN_varA (fun _ _ => (Elem.flat _ _ _).le) | exact leN_varA (fun _ _ => leC_top) | apply And.intro)
          first | (dsimp only; rw [IntWalk.i64_in _ (by omega)]; omega) | (dsimp only; rw [IntWalk.i64_in _ (by omega)]; done) | (dsimp only; exact IntWalk.i64_in _ (by omega)) | exact IntWalk.i64_in _ (by omega) | (rw [IntWalk.i64_in _ (by omega)]; omega)
        · repeat' (first | exact trivial | exact rfl | exact leF_ptr rfl | exact leF_int rfl | exact leF_bool rfl | exact leF_cl (cl_slB _ _) | exact leF_cl (cl_slR _ _) | exact leF_cl (cl_ll _ _) | exact leF_c (leC_os rfl rfl) | refine leF_int ?_ | refine leF_bool ?_ | exact leN_varA (fun _ _ => (Elem.flat _ _ _).le) | exact leN_varA (fun _ _ => leC_top) | apply And.intro)
          show LeN _ _ (ents eB _ (fillL l m v (i + 1)))
          rw [fillL_step l m v i (by omega)]
          have hidx : 0 + (IntKind.i64.wrap ((l.length : Int) + i)).toNat = l.length + i := by rw [w1]; omega
          rw [hidx]
          refine leN_set rfl (by omega) (fun i _ j _ => (Elem.flat _ _ _).le) fun j hj => leC_int ?_
          unfold byteM
          rw [w2, w3, w4]
      · have him : i = m := by omega
        subst him
        refine ⟨⟨some 40, leF_c (leC_os rfl hlen.symm), leN_ents⟩⟩
    · refine ⟨rfl, ?_, ?_⟩
      · repeat' (first | exact trivial | exact rfl | exact leF_ptr rfl | exact leF_int rfl | exact leF_bool rfl | exact leF_cl (cl_slB _ _) | exact leF_cl (cl_slR _ _) | exact leF_cl (cl_ll _ _) | exact leF_c (leC_os rfl rfl) | refine leF_int ?_ | refine leF_bool ?_ | exact leN_varA (fun _ _ => (Elem.flat _ _ _).le) | exact leN_varA (fun _ _ => leC_top) | apply And.intro)
        exact leF_c (leC_os rfl (by rw [em]; omega))
      · repeat' (first | exact trivial | exact rfl | exact leF_ptr rfl | exact leF_int rfl | exact leF_bool rfl | exact leF_cl (cl_slB _ _) | exact leF_cl (cl_slR _ _) | exact leF_cl (cl_ll _ _) | exact leF_c (leC_os rfl rfl) | refine leF_int ?_ | refine leF_bool ?_ | exact leN_varA (fun _ _ => (Elem.flat _ _ _).le) | exact leN_varA (fun _ _ => leC_top) | apply And.intro)
        show LeN _ _ (ents eB _ (l ++ (List.map (byteM v m) (List.range 0) ++ List.replicate (m - 0) 0)))
        rw [em]
        refine leN_app (E := eB) ?_ (fun i hi j hj => ?_) fun i hi j hj => ?_
        · rw [List.length_append, List.length_map, List.length_range, List.length_replicate]; omega
        · refine selC_in (rng_in ⟨by omega, ?_⟩) (leC_int (by first | rfl | rw [Nat.sub_zero]))
          rw [show ((l.length : Int) + m).toNat = l.length + m by omega, hmin]; omega
        · refine selC_out (rng_out (.inr ?_)) ?_
          · rw [show ((l.length : Int) + m).toNat = l.length + m by omega, hmin]; omega
          · obtain rfl : j = 0 := by have : j < 1 := hj; omega
            refine leC_int ?_
            show (0 : Int) = (List.replicate (m - 0) (0 : Int)).getD i default
            have hi' : i < m := by
              have h := hi
              rw [List.length_append, List.length_map, List.length_range, List.length_replicate] at h
              omega
            rw [List.getD_eq_getElem?_getD, List.getElem?_replicate, if_pos (by omega)]; rfl
  · have hspec : l ++ beB v n = l := by unfold beB; rw [if_neg hr]; simp
    rw [hspec]
    clear hspec
    have em : IntKind.i64.wrap ((l.length : Int) + 0) = l.length := by rw [Int.add_zero]; exact IntWalk.i64_in _ (by omega)
    have em2 : (IntKind.i64.wrap ((l.length : Int) + 0)).toNat = l.length := by omega
    refine new_intro (wd := 1) (Q := mkQ LE0) (by decide) tysOk (q_of LE0_ok) mixed Try.func106 rfl _ (by show 3 ≤ _; decide) (fun i _ j _ => row_nf eB _ i j) ?_
    repeat' (first | (apply And.intro <;> intro hc <;> (first | exact Bool.noConfusion hc | (simp only [decide_eq_true_eq, decide_eq_false_iff_not, Bool.not_eq_true', Bool.not_eq_false', beq_iff_eq, beq_eq_false_iff_ne, bne_iff_ne, bne_eq_false_iff_eq, Bool.true_eq_false, Bool.false_eq_true] at hc) | skip)) | (refine And.intro (by first | exact trivial | decide | omega | (dsimp only; omega) | exact fun _ _ => rfl) ?_) | (apply And.intro) | (intro s hs))
    all_goals first
      | (exfalso; omega)
      | (rw [Int.natCast_one, Int.one_mul]; omega)
      | omega
      | skip
    all_goals
      refine loop_intro (mono_of LE0_ok) (fun s : Unit => (⟨[(7, one (.os 40 0 l.length)), (23, one (.int .i64 0)), (24, one (.int .i64 0))], [(40, some (ents eB 5 l))], 41⟩ : Hd)) (fun s => 0) (fun _ => rfl) ?_ () [(40, some 12)] ?_
      · rintro ⟨⟩
        repeat' (first | (apply And.intro <;> intro hc <;> (first | exact Bool.noConfusion hc | (simp only [decide_eq_true_eq, decide_eq_false_iff_not, Bool.not_eq_true', Bool.not_eq_false', beq_iff_eq, beq_eq_false_iff_ne, bne_iff_ne, bne_eq_false_iff_eq, Bool.true_eq_false, Bool.false_eq_true] at hc) | skip)) | (refine And.intro (by first | exact trivial | decide | omega | (dsimp only; omega) | exact fun _ _ => rfl) ?_) | (apply And.intro) | (intro s hs))
        exact ⟨⟨some 40, leF_c (leC_os rfl rfl), leN_ents⟩⟩
      · refine ⟨rfl, ?_, ?_⟩
        · repeat' (first | exact trivial | exact rfl | exact leF_ptr rfl | exact leF_int rfl | exact leF_bool rfl | exact leF_cl (cl_slB _ _) | exact leF_cl (cl_slR _ _) | exact leF_cl (cl_ll _ _) | exact leF_c (leC_os rfl rfl) | refine leF_int ?_ | refine leF_bool ?_ | exact leN_varA (fun _ _ => (Elem.flat _ _ _).le) | exact leN_varA (fun _ _ => leC_top) | apply And.intro)
          exact leF_c (leC_os rfl em2)
        · repeat' (first | exact trivial | exact rfl | exact leF_ptr rfl | exact leF_int rfl | exact leF_bool rfl | exact leF_cl (cl_slB _ _) | exact leF_cl (cl_slR _ _) | exact leF_cl (cl_ll _ _) | exact leF_c (leC_os rfl rfl) | refine leF_int ?_ | refine leF_bool ?_ | exact leN_varA (fun _ _ => (Elem.flat _ _ _).le) | exact leN_varA (fun _ _ => leC_top) | apply And.intro)
          rw [em]
          refine leN_row (by omega) fun i hi j hj => ?_
          refine selC_in (rng_in ⟨by omega, ?_⟩) (leC_int (by first | rfl | rw [Nat.sub_zero]))
          rw [show ((l.length : Nat) : Int).toNat = l.length by omega, show Nat.min l.length l.length = l.length from Nat.min_self _]; omega
abbrev appA : AC (List Int × Int × Int × Unit) := AC.cons (cSl eB eB_sz) (AC.cons (cI .u64) (AC.cons (cI .i64) AC.nil))
abbrev oappE : Entry := newE appA (fun a => a.1.length ≤ 70368744177664) (fun a => a.1 ++ beB a.2.1 a.2.2.1) (fun L => some L.length) (fun _ => none) (fun L => ents eB 5 L)
theorem oappE_ok : EntOk Try.prog 106 oappE := newE_ok ⟨_, Try.func106, rfl, by kernel_rfl⟩ (fun s l h => by cases h) fun a h => oapp_ok a.1 a.2.1 a.2.2.1 h
set_option maxHeartbeats 4000000 in
set_option maxRecDepth 20000 in
theorem rapp_ok (l : List Int) (v n : Int) (hl : l.length ≤ 70368744177664) :
    NewOk Try.prog 107 [(cSl eB eB_sz).enc l, (cI .u64).enc v, (cI .i64).enc n] (some (l ++ beB v n).length) none (ents eB 5 (l ++ beB v n)) := by
  by_cases hr : 0 ≤ n ∧ n ≤ 8
  · obtain ⟨m, rfl⟩ : ∃ m : Nat, n = m := ⟨n.toNat, by omega⟩
    have hm8 : m ≤ 8 := by omega
    have hspec : l ++ beB v m = l ++ beM v m := by
      rw [beM_eq v m hm8]
      unfold beB
      rw [if_pos hr]; rfl
    rw [hspec]
    clear hspec
    have em : IntKind.i64.wrap ((m : Int) - 1) = m - 1 := IntWalk.i64_in _ (by omega)
    refine new_intro (wd := 1) (Q := mkQ LE0) (by decide) tysOk (q_of LE0_ok) mixed Try.func107 rfl _ (by show 3 ≤ _; decide) (fun i _ j _ => row_nf eB _ i j) ?_
    repeat' (first | (apply And.intro <;> intro hc <;> (first | exact Bool.noConfusion hc | (simp only [decide_eq_true_eq, decide_eq_false_iff_not, Bool.not_eq_true', Bool.not_eq_false', beq_iff_eq, beq_eq_false_iff_ne, bne_iff_ne, bne_eq_false_iff_eq, Bool.true_eq_false, Bool.false_eq_true] at hc) | skip)) | (refine And.intro (by first | exact trivial | decide | omega | (dsimp only; omega) | exact fun _ _ => rfl) ?_) | (apply And.intro) | (intro s hs))
    all_goals first
      | (exfalso; omega)
      | (rw [Int.natCast_one, Int.one_mul]; omega)
      | omega
      | skip
    refine loop_intro (mono_of LE0_ok) (fun s : {k : Nat // k ≤ m} => (⟨[(1, one (.int .u64 v)), (7, one (.os 40 0 (l ++ (List.range s.1).map (byteM v m)).length)), (8, one (.int .i64 ((m : Int) - 1 - (s.1 : Int))))],
      [(40, some (ents eB 5 (l ++ (List.range s.1).map (byteM v m))))], 41⟩ : Hd)) (fun s => m - s.1) (fun _ => rfl) ?_ ⟨0, by omega⟩ [(40, some 3)] ?_
    · rintro ⟨k, hk⟩
      dsimp only at hk ⊢
      have hlen : (l ++ (List.range k).map (byteM v m)).length = l.length + k := by simp
      obtain ⟨L, hL⟩ : ∃ L, L = l ++ (List.range k).map (byteM v m) := ⟨_, rfl⟩
      rw [← hL] at hlen ⊢
      have w1 : 0 ≤ (m : Int) - 1 - k → IntKind.u64.wrap ((m : Int) - 1 - k) = m - 1 - k := fun _ => IntWalk.u64_in _ (by omega)
      have w2 : 0 ≤ (m : Int) - 1 - k → IntKind.u64.wrap (8 * ((m : Int) - 1 - k)) = 8 * (m - 1 - k) := fun _ => IntWalk.u64_in _ (by omega)
      have w3 : 0 ≤ (m : Int) - 1 - k → IntKind.i64.wrap ((m : Int) - 1 - k - 1) = m - 1 - (k + 1) := fun _ => by rw [IntWalk.i64_in _ (by omega)]; omega
      have w4 : 0 ≤ (m : Int) - 1 - k → 0 ≤ IntKind.u64.wrap (8 * IntKind.u64.wrap ((m : Int) - 1 - k)) := fun h => by rw [w1 h, w2 h]; omega
      repeat' (first | (apply And.intro <;> intro hc <;> (first | exact Bool.noConfusion hc | (simp only [decide_eq_true_eq, decide_eq_false_iff_not, Bool.not_eq_true', Bool.not_eq_false', beq_iff_eq, beq_eq_false_iff_ne, bne_iff_ne, bne_eq_false_iff_eq, Bool.true_eq_false, Bool.false_eq_true] at hc) | skip)) | (refine And.intro (by first | exact trivial | decide | omega | (dsimp only; omega) | exact fun _ _ => rfl) ?_) | (apply And.intro) | (intro s hs))
      all_goals first
        | exact w4 (by assumption)
        | (rw [Int.natCast_one, Int.one_mul]; omega)
        | omega
        | skip
      · have hc' : 0 ≤ (m : Int) - 1 - k := hc
        have eL : l ++ (List.range (k + 1)).map (byteM v m) = L ++ [byteM v m k] := by rw [List.range_succ, List.map_append, ← List.append_assoc, ← hL]; rfl
        refine ⟨⟨k + 1, by omega⟩, [(40, some 51)], by dsimp only <;> omega, rfl, ?_, ?_⟩
        · repeat' (first | exact trivial | exact rfl | exact leF_ptr rfl | exact leF_int rfl | exact leF_bool rfl | exact leF_cl (cl_slB _ _) | exact leF_cl (cl_slR _ _) | exact leF_cl (cl_ll _ _) | exact leF_c (leC_os rfl rfl) | refine leF_int ?_ | refine leF_bool ?_ | exact leN_varA (fun _ _ => (Elem.flat _ _ _).le) | exact leN_varA (fun _ _ => leC_top) | apply And.intro)
          · rw [eL]
            exact leF_c (leC_os rfl (by simp))
          · exact (w3 hc').trans (by dsimp only; omega)
        · repeat' (first | exact trivial | exact rfl | exact leF_ptr rfl | exact leF_int rfl | exact leF_bool rfl | exact leF_cl (cl_slB _ _) | exact leF_cl (cl_slR _ _) | exact leF_cl (cl_ll _ _) | exact leF_c (leC_os rfl rfl) | refine leF_int ?_ | refine leF_bool ?_ | exact leN_varA (fun _ _ => (Elem.flat _ _ _).le) | exact leN_varA (fun _ _ => leC_top) | apply And.intro)
          show LeN _ _ (ents eB _ (l ++ (List.range (k + 1)).map (byteM v m)))
          rw [eL]
          refine leN_snoc (E := eB) (L := L) (x := byteM v m k) rfl (fun i hi j hj => selC_in (Nat.ble_eq_true_of_le hi) (Elem.flat _ _ _).le) ?_
          refine ⟨trivial, ?_⟩
          refine selC_out (blt_self _) ?_
          rw [Nat.sub_self]
          refine leC_int ?_
          unfold byteM
          rw [w1 hc', w2 hc']; rfl
      · have hkm : k = m := by omega
        subst hkm
        rw [hL]
        exact ⟨⟨some 40, leF_c (leC_os rfl rfl), leN_ents⟩⟩
    · refine ⟨rfl, ?_, ?_⟩
      · repeat' (first | exact trivial | exact rfl | exact leF_ptr rfl | exact leF_int rfl | exact leF_bool rfl | exact leF_cl (cl_slB _ _) | exact leF_cl (cl_slR _ _) | exact leF_cl (cl_ll _ _) | exact leF_c (leC_os rfl rfl) | refine leF_int ?_ | refine leF_bool ?_ | exact leN_varA (fun _ _ => (Elem.flat _ _ _).le) | exact leN_varA (fun _ _ => leC_top) | apply And.intro)
        · exact leF_c (leC_os rfl (by simp))
        · exact em.trans (by dsimp only; omega)
      · repeat' (first | exact trivial | exact rfl | exact leF_ptr rfl | exact leF_int rfl | exact leF_bool rfl | exact leF_cl (cl_slB _ _) | exact leF_cl (cl_slR _ _) | exact leF_cl (cl_ll _ _) | exact leF_c (leC_os rfl rfl) | refine leF_int ?_ | refine leF_bool ?_ | exact leN_varA (fun _ _ => (Elem.flat _ _ _).le) | exact leN_varA (fun _ _ => leC_top) | apply And.intro)
        show LeN _ _ (ents eB _ (l ++ []))
        rw [List.append_nil]
        refine leN_row (by simp) fun i hi j hj => ?_
        refine selC_out (blt_zero _) ?_
        rw [Nat.sub_zero]
        exact leC_cell (E := eB) (by simp)
  · have hspec : l ++ beB v n = l := by unfold beB; rw [if_neg hr]; simp
    rw [hspec]
    clear hspec
    refine new_intro (wd := 1) (Q := mkQ LE0) (by decide) tysOk (q_of LE0_ok) mixed Try.func107 rfl _ (by show 3 ≤ _; decide) (fun i _ j _ => row_nf eB _ i j) ?_
    repeat' (first | (apply And.intro <;> intro hc <;> (first | exact Bool.noConfusion hc | (simp only [decide_eq_true_eq, decide_eq_false_iff_not, Bool.not_eq_true', Bool.not_eq_false', beq_iff_eq, beq_eq_false_iff_ne, bne_iff_ne, bne_eq_false_iff_eq, Bool.true_eq_false, Bool.false_eq_true] at hc) | skip)) | (refine And.intro (by first | exact trivial | decide | omega | (dsimp only; omega) | exact fun _ _ => rfl) ?_) | (apply And.intro) | (intro s hs))
    all_goals first
      | (exfalso; omega)
      | (rw [Int.natCast_one, Int.one_mul]; omega)
      | omega
      | skip
    all_goals
      refine ⟨⟨some 3, leF_c (leC_os rfl (Nat.zero_add _)), leN_row (Nat.zero_add _) fun i hi j hj => ?_⟩⟩
      refine selC_out (blt_zero _) ?_
      rw [Nat.sub_zero]
      exact (eB.flat _ _).le
theorem rappE_ok : EntOk Try.prog 107 oappE := newE_ok ⟨_, Try.func107, rfl, by kernel_rfl⟩ (fun s l h => by cases h) fun a h => rapp_ok a.1 a.2.1 a.2.2.1 h
/-! ### Uint -/
theorem shl8 (x : Int) (h : 0 ≤ x ∧ x < 72057594037927936) : shlI .u64 x 8 = x * 256 := by
  unfold shlI
  rw [show min (8 : Int).toNat (IntKind.bits .u64) = 8 from rfl]
  exact IntWalk.u64_in _ (by omega)
theorem beVal_from : ∀ (l : List Int) (a : Int), BL l → 0 ≤ a → a * 256 ^ l.length ≤ l.foldl (fun a c => a * 256 + c) a ∧ l.foldl (fun a c => a * 256 + c) a < (a + 1) * 256 ^ l.length := by
  intro l
  induction l with
  | nil => intro a _ h; simp; omega
  | cons c l ih =>
    intro a h ha
    have hc := h.m c (by simp)
    obtain ⟨h1, h2⟩ := ih (a * 256 + c) ⟨fun x hx => h.m x (by simp [hx])⟩ (by omega)
    rw [List.foldl_cons, List.length_cons, Int.pow_succ, Int.mul_comm (256 ^ l.length) 256, ← Int.mul_assoc, ← Int.mul_assoc]
    have hp : (0 : Int) ≤ 256 ^ l.length := Int.le_of_lt (Int.pow_pos (by omega))
    have h3 := Int.mul_le_mul_of_nonneg_right (show a * 256 ≤ a * 256 + c by omega) hp
    have h4 := Int.mul_le_mul_of_nonneg_right (show a * 256 + c + 1 ≤ (a + 1) * 256 by omega) hp
    omega
theorem beVal_lt (l : List Int) (h : BL l) : 0 ≤ beVal l ∧ beVal l < 256 ^ l.length := by
  have := beVal_from l 0 h (Int.le_refl _)
  unfold beVal
  simp only [Int.zero_mul, Int.zero_add, Int.one_mul] at this
  exact this
theorem pow256_le {k n : Nat} (h : k ≤ n) : (256 : Int) ^ k ≤ 256 ^ n := by
  obtain ⟨d, rfl⟩ : ∃ d, n = k + d := ⟨n - k, by omega⟩
  rw [Int.pow_add]
  have h1 : (0 : Int) < 256 ^ k := Int.pow_pos (by omega)
  have h2 : (0 : Int) < 256 ^ d := Int.pow_pos (by omega)
  have := Int.mul_le_mul_of_nonneg_left (show (1 : Int) ≤ 256 ^ d by omega) (Int.le_of_lt h1)
  omega
theorem or8 (x c : Int) (hx : 0 ≤ x ∧ x < 72057594037927936) (hc : 0 ≤ c ∧ c < 256) : bits .or .u64 (shlI .u64 x 8) (IntKind.u64.wrap c) = x * 256 + c := by
  rw [shl8 x hx, show IntKind.u64.wrap c = c from IntWalk.u64_in _ (by omega), u64_or _ _ (by omega) (by omega) (by omega) (by omega)]
  rw [nat_join 8 _ _ (by omega) (by omega)]
  omega
/-- Uint: 1.2. -/
def uintF (b : List Int) (at_ n : Int) : Int × Bool := if 1 ≤ n ∧ n ≤ 8 ∧ 0 ≤ at_ ∧ at_ ≤ b.length - n then (beVal ((b.drop at_.toNat).take n.toNat), true) else (0, false)
def encUB (r : Int × Bool) : FV := .tup [.c (.int .u64 r.1), .c (.bool r.2)]
theorem getD_dt (b : List Int) (a n k : Nat) (hk : k < n) (h : a + n ≤ b.length) : ((b.drop a).take n).getD k default = b.getD (a + k) default := by
  rw [List.getD_eq_getElem?_getD, List.getD_eq_getElem?_getD, List.getElem?_take, if_pos hk, List.getElem?_drop]
theorem take_snocI {l : List Int} {k : Nat} (h : k < l.length) : l.take (k + 1) = l.take k ++ [l.getD k default] := by
  rw [List.take_succ_eq_append_getElem h, List.getD_eq_getElem?_getD, List.getElem?_eq_getElem h]; rfl
set_option maxHeartbeats 4000000 in
set_option maxRecDepth 20000 in
theorem ouint_ok (b : List Int) (a n : Int) (hb : BL b) (hl : b.length ≤ 70368744177664) :
    PureOk Try.prog 74 [(cSl eB eB_sz).enc b, (cI .i64).enc a, (cI .i64).enc n] (encUB (uintF b a n)) := by
  by_cases hr : 1 ≤ n ∧ n ≤ 8 ∧ 0 ≤ a ∧ a ≤ b.length - n
  · obtain ⟨m, rfl⟩ : ∃ m : Nat, n = m := ⟨n.toNat, by omega⟩
    obtain ⟨p, rfl⟩ : ∃ p : Nat, a = p := ⟨a.toNat, by omega⟩
    obtain ⟨w, hw⟩ : ∃ w, w = (b.drop p).take m := ⟨_, rfl⟩
    have hwl : w.length = m := by rw [hw]; simp; omega
    have hwB : BL w := by rw [hw]; exact (hb.drop p).take m
    have hsp : uintF b p m = (beVal w, true) := by unfold uintF; rw [if_pos hr, hw]; rfl
    rw [hsp]
    have e1 : IntKind.i64.wrap ((b.length : Int) - m) = b.length - m := IntWalk.i64_in _ (by omega)
    have e2 : IntKind.i64.wrap ((p : Int) + m) = p + m := IntWalk.i64_in _ (by omega)
    have e3 : (IntKind.i64.wrap ((p : Int) + m)).toNat - (p : Int).toNat = m := by omega
    refine pure_intro (wd := 1) (Q := mkQ LE0) (by decide) tysOk (q_of LE0_ok) mixed Try.func74 rfl _ (by show 3 ≤ _; decide) _ ?_
    repeat' (first | (apply And.intro <;> intro hc <;> (first | exact Bool.noConfusion hc | (simp only [decide_eq_true_eq, decide_eq_false_iff_not, Bool.not_eq_true', Bool.not_eq_false', beq_iff_eq, beq_eq_false_iff_ne, bne_iff_ne, bne_eq_false_iff_eq, Bool.true_eq_false, Bool.false_eq_true] at hc) | skip)) | (refine And.intro (by first | exact trivial | decide | omega | (dsimp only; omega) | exact fun _ _ => rfl) ?_) | (apply And.intro) | (intro s hs))
    all_goals first
      | (exfalso; omega)
      | omega
      | skip
    refine loop_intro (mono_of LE0_ok) (fun s : {k : Nat // k ≤ m} => (⟨[(8, one (.int .u64 (beVal (w.take s.1)))), (34, one (.sl false w.length eB.sz (rowF eB w))), (35, one (.int .i64 m)), (36, one (.int .i64 (s.1 : Int)))], [], 0⟩ : Hd)) (fun s => m - s.1) (fun _ => rfl) ?_ ⟨0, by omega⟩ [] ?_
    · rintro ⟨k, hk⟩
      dsimp only at hk ⊢
      have hv := beVal_lt (w.take k) (hwB.take k)
      repeat' (first | (apply And.intro <;> intro hc <;> (first | exact Bool.noConfusion hc | (simp only [decide_eq_true_eq, decide_eq_false_iff_not, Bool.not_eq_true', Bool.not_eq_false', beq_iff_eq, beq_eq_false_iff_ne, bne_iff_ne, bne_eq_false_iff_eq, Bool.true_eq_false, Bool.false_eq_true] at hc) | skip)) | (refine And.intro (by first | exact trivial | decide | omega | (dsimp only; omega) | exact fun _ _ => rfl) ?_) | (apply And.intro) | (intro s hs))
      all_goals first
        | omega
        | skip
      · have hc' : k < m := by omega
        have hx := hwB.get k
        refine ⟨⟨k + 1, by omega⟩, [], by dsimp only <;> omega, rfl, ?_, ?_⟩
        · repeat' (first | exact trivial | exact rfl | exact leF_ptr rfl | exact leF_int rfl | exact leF_bool rfl | exact leF_cl (cl_slB _ _) | exact leF_cl (cl_slR _ _) | exact leF_cl (cl_ll _ _) | exact leF_c (leC_os rfl rfl) | refine leF_int ?_ | refine leF_bool ?_ | exact leN_varA (fun _ _ => (Elem.flat _ _ _).le) | exact leN_varA (fun _ _ => leC_top) | apply And.intro)
          · have hp := pow256_le (show (w.take k).length ≤ 7 by simp; omega)
            refine (or8 _ _ ⟨hv.1, by omega⟩ hx).trans ?_
            show _ = beVal (w.take (k + 1))
            rw [take_snocI (by omega), beVal_snoc]
            try rfl
          · first | (dsimp only; rw [IntWalk.i64_in _ (by omega)]; omega) | (dsimp only; rw [IntWalk.i64_in _ (by omega)]; done) | (dsimp only; exact IntWalk.i64_in _ (by omega)) | exact IntWalk.i64_in _ (by omega) | (rw [IntWalk.i64_in _ (by omega)]; omega)
        · repeat' (first | exact trivial | exact rfl | exact leF_ptr rfl | exact leF_int rfl | exact leF_bool rfl | exact leF_cl (cl_slB _ _) | exact leF_cl (cl_slR _ _) | exact leF_cl (cl_ll _ _) | exact leF_c (leC_os rfl rfl) | refine leF_int ?_ | refine leF_bool ?_ | exact leN_varA (fun _ _ => (Elem.flat _ _ _).le) | exact leN_varA (fun _ _ => leC_top) | apply And.intro)
      · refine Done.mk (leF_tup ?_)
        have hkm : k = m := by omega
        refine ⟨leE_c (leC_int ?_), leE_c (leC_bool rfl), trivial⟩
        show beVal (w.take k) = beVal w
        rw [List.take_of_length_le (by omega)]
    · refine ⟨rfl, ?_, ?_⟩
      · repeat' (first | exact trivial | exact rfl | exact leF_ptr rfl | exact leF_int rfl | exact leF_bool rfl | exact leF_cl (cl_slB _ _) | exact leF_cl (cl_slR _ _) | exact leF_cl (cl_ll _ _) | exact leF_c (leC_os rfl rfl) | refine leF_int ?_ | refine leF_bool ?_ | exact leN_varA (fun _ _ => (Elem.flat _ _ _).le) | exact leN_varA (fun _ _ => leC_top) | apply And.intro)
        · refine leF_c (leC_sl (fun h => by cases h) ?_ rfl fun i hi j hj => ?_)
          · rw [hwl]; exact e3
          · refine leC_cell (E := eB) ?_
            rw [hw, getD_dt _ _ _ _ (by omega) (by omega)]; rfl
        · show ((_ : Nat) : Int) = m
          rw [e3]
      · repeat' (first | exact trivial | exact rfl | exact leF_ptr rfl | exact leF_int rfl | exact leF_bool rfl | exact leF_cl (cl_slB _ _) | exact leF_cl (cl_slR _ _) | exact leF_cl (cl_ll _ _) | exact leF_c (leC_os rfl rfl) | refine leF_int ?_ | refine leF_bool ?_ | exact leN_varA (fun _ _ => (Elem.flat _ _ _).le) | exact leN_varA (fun _ _ => leC_top) | apply And.intro)
  · have hsp : uintF b a n = (0, false) := by unfold uintF; rw [if_neg hr]
    rw [hsp]
    have e1 : 1 ≤ n → n ≤ 8 → IntKind.i64.wrap ((b.length : Int) - n) = b.length - n := fun _ _ => IntWalk.i64_in _ (by omega)
    refine pure_intro (wd := 1) (Q := mkQ LE0) (by decide) tysOk (q_of LE0_ok) mixed Try.func74 rfl _ (by show 3 ≤ _; decide) _ ?_
    repeat' (first | (apply And.intro <;> intro hc <;> (first | exact Bool.noConfusion hc | (simp only [decide_eq_true_eq, decide_eq_false_iff_not, Bool.not_eq_true', Bool.not_eq_false', beq_iff_eq, beq_eq_false_iff_ne, bne_iff_ne, bne_eq_false_iff_eq, Bool.true_eq_false, Bool.false_eq_true] at hc) | skip)) | (refine And.intro (by first | exact trivial | decide | omega | (dsimp only; omega) | exact fun _ _ => rfl) ?_) | (apply And.intro) | (intro s hs))
    all_goals first
      | exact Done.mk (leF_tup ⟨leE_c (leC_int rfl), leE_c (leC_bool rfl), trivial⟩)
      | (exfalso; have := e1 (by omega) (by omega); omega)
abbrev uintA : AC (List Int × Int × Int × Unit) := AC.cons (cSl eB eB_sz) (AC.cons (cI .i64) (AC.cons (cI .i64) AC.nil))
abbrev uintE : Entry := pureE uintA (fun a => BL a.1 ∧ a.1.length ≤ 70368744177664) (fun a => uintF a.1 a.2.1 a.2.2.1) encUB
theorem ouintE_ok : EntOk Try.prog 74 uintE := pureE_ok ⟨_, Try.func74, rfl, by kernel_rfl⟩ fun a h => ouint_ok a.1 a.2.1 a.2.2.1 h.1 h.2
set_option maxHeartbeats 4000000 in
set_option maxRecDepth 20000 in
theorem ruint_ok (b : List Int) (a n : Int) (hb : BL b) (hl : b.length ≤ 70368744177664) :
    PureOk Try.prog 146 [(cSl eB eB_sz).enc b, (cI .i64).enc a, (cI .i64).enc n] (encUB (uintF b a n)) := by
  by_cases hr : 1 ≤ n ∧ n ≤ 8 ∧ 0 ≤ a ∧ a ≤ b.length - n
  · obtain ⟨m, rfl⟩ : ∃ m : Nat, n = m := ⟨n.toNat, by omega⟩
    obtain ⟨p, rfl⟩ : ∃ p : Nat, a = p := ⟨a.toNat, by omega⟩
    obtain ⟨w, hw⟩ : ∃ w, w = (b.drop p).take m := ⟨_, rfl⟩
    have hwl : w.length = m := by rw [hw]; simp; omega
    have hwB : BL w := by rw [hw]; exact (hb.drop p).take m
    have hsp : uintF b p m = (beVal w, true) := by unfold uintF; rw [if_pos hr, hw]; rfl
    rw [hsp]
    have e1 : IntKind.i64.wrap ((b.length : Int) - p) = b.length - p := IntWalk.i64_in _ (by omega)
    refine pure_intro (wd := 1) (Q := mkQ LE0) (by decide) tysOk (q_of LE0_ok) mixed Try.func146 rfl _ (by show 3 ≤ _; decide) _ ?_
    repeat' (first | (apply And.intro <;> intro hc <;> (first | exact Bool.noConfusion hc | (simp only [decide_eq_true_eq, decide_eq_false_iff_not, Bool.not_eq_true', Bool.not_eq_false', beq_iff_eq, beq_eq_false_iff_ne, bne_iff_ne, bne_eq_false_iff_eq, Bool.true_eq_false, Bool.false_eq_true] at hc) | skip)) | (refine And.intro (by first | exact trivial | decide | omega | (dsimp only; omega) | exact fun _ _ => rfl) ?_) | (apply And.intro) | (intro s hs))
    all_goals first
      | (exfalso; omega)
      | omega
      | skip
    refine loop_intro (mono_of LE0_ok) (fun s : {k : Nat // k ≤ m} => (⟨[(0, one (.sl false b.length eB.sz (rowF eB b))), (1, one (.int .i64 p)), (2, one (.int .i64 m)), (8, one (.int .u64 (beVal (w.take s.1)))), (9, one (.int .i64 (s.1 : Int)))], [], 0⟩ : Hd)) (fun s => m - s.1) (fun _ => rfl) ?_ ⟨0, by omega⟩ [] ?_
    · rintro ⟨k, hk⟩
      dsimp only at hk ⊢
      have hv := beVal_lt (w.take k) (hwB.take k)
      have hp := pow256_le (show (w.take k).length ≤ k by simp; omega)
      have e2 : IntKind.i64.wrap ((p : Int) + k) = p + k := IntWalk.i64_in _ (by omega)
      repeat' (first | (apply And.intro <;> intro hc <;> (first | exact Bool.noConfusion hc | (simp only [decide_eq_true_eq, decide_eq_false_iff_not, Bool.not_eq_true', Bool.not_eq_false', beq_iff_eq, beq_eq_false_iff_ne, bne_iff_ne, bne_eq_false_iff_eq, Bool.true_eq_false, Bool.false_eq_true] at hc) | skip)) | (refine And.intro (by first | exact trivial | decide | omega | (dsimp only; omega) | exact fun _ _ => rfl) ?_) | (apply And.intro) | (intro s hs))
      all_goals first
        | omega
        | skip
      · have hc' : k < m := by omega
        have hp7 := pow256_le (show k ≤ 7 by omega)
        have hx := hb.get (p + k)
        refine ⟨⟨k + 1, by omega⟩, [], by dsimp only <;> omega, rfl, ?_, ?_⟩
        · repeat' (first | exact trivial | exact rfl | exact leF_ptr rfl | exact leF_int rfl | exact leF_bool rfl | exact leF_cl (cl_slB _ _) | exact leF_cl (cl_slR _ _) | exact leF_cl (cl_ll _ _) | exact leF_c (leC_os rfl rfl) | refine leF_int ?_ | refine leF_bool ?_ | exact leN_varA (fun _ _ => (Elem.flat _ _ _).le) | exact leN_varA (fun _ _ => leC_top) | apply And.intro)
          · rw [e2, show ((p : Int) + k).toNat = p + k by omega]
            rw [shl8 _ ⟨hv.1, by omega⟩, show IntKind.u64.wrap (b.getD (p + k) default) = b.getD (p + k) default from IntWalk.u64_in _ (by omega), IntWalk.u64_in _ (by omega)]
            show _ = beVal (w.take (k + 1))
            rw [take_snocI (by omega), beVal_snoc, hw, getD_dt _ _ _ _ (by omega) (by omega)]
          · first | (dsimp only; rw [IntWalk.i64_in _ (by omega)]; omega) | (dsimp only; rw [IntWalk.i64_in _ (by omega)]; done) | (dsimp only; exact IntWalk.i64_in _ (by omega)) | exact IntWalk.i64_in _ (by omega) | (rw [IntWalk.i64_in _ (by omega)]; omega)
        · repeat' (first | exact trivial | exact rfl | exact leF_ptr rfl | exact leF_int rfl | exact leF_bool rfl | exact leF_cl (cl_slB _ _) | exact leF_cl (cl_slR _ _) | exact leF_cl (cl_ll _ _) | exact leF_c (leC_os rfl rfl) | refine leF_int ?_ | refine leF_bool ?_ | exact leN_varA (fun _ _ => (Elem.flat _ _ _).le) | exact leN_varA (fun _ _ => leC_top) | apply And.intro)
      · refine Done.mk (leF_tup ?_)
        have hkm : k = m := by omega
        refine ⟨leE_c (leC_int ?_), leE_c (leC_bool rfl), trivial⟩
        show beVal (w.take k) = beVal w
        rw [List.take_of_length_le (by omega)]
    · refine ⟨rfl, ?_, ?_⟩
      · repeat' (first | exact trivial | exact rfl | exact leF_ptr rfl | exact leF_int rfl | exact leF_bool rfl | exact leF_cl (cl_slB _ _) | exact leF_cl (cl_slR _ _) | exact leF_cl (cl_ll _ _) | exact leF_c (leC_os rfl rfl) | refine leF_int ?_ | refine leF_bool ?_ | exact leN_varA (fun _ _ => (Elem.flat _ _ _).le) | exact leN_varA (fun _ _ => leC_top) | apply And.intro)
      · repeat' (first | exact trivial | exact rfl | exact leF_ptr rfl | exact leF_int rfl | exact leF_bool rfl | exact leF_cl (cl_slB _ _) | exact leF_cl (cl_slR _ _) | exact leF_cl (cl_ll _ _) | exact leF_c (leC_os rfl rfl) | refine leF_int ?_ | refine leF_bool ?_ | exact leN_varA (fun _ _ => (Elem.flat _ _ _).le) | exact leN_varA (fun _ _ => leC_top) | apply And.intro)
  · have hsp : uintF b a n = (0, false) := by unfold uintF; rw [if_neg hr]
    rw [hsp]
    have e1 : 0 ≤ a → a ≤ b.length → IntKind.i64.wrap ((b.length : Int) - a) = b.length - a := fun _ _ => IntWalk.i64_in _ (by omega)
    refine pure_intro (wd := 1) (Q := mkQ LE0) (by decide) tysOk (q_of LE0_ok) mixed Try.func146 rfl _ (by show 3 ≤ _; decide) _ ?_
    repeat' (first | (apply And.intro <;> intro hc <;> (first | exact Bool.noConfusion hc | (simp only [decide_eq_true_eq, decide_eq_false_iff_not, Bool.not_eq_true', Bool.not_eq_false', beq_iff_eq, beq_eq_false_iff_ne, bne_iff_ne, bne_eq_false_iff_eq, Bool.true_eq_false, Bool.false_eq_true] at hc) | skip)) | (refine And.intro (by first | exact trivial | decide | omega | (dsimp only; omega) | exact fun _ _ => rfl) ?_) | (apply And.intro) | (intro s hs))
    all_goals first
      | exact Done.mk (leF_tup ⟨leE_c (leC_int rfl), leE_c (leC_bool rfl), trivial⟩)
      | (exfalso; have := e1 (by omega) (by omega); omega)
theorem ruintE_ok : EntOk Try.prog 146 uintE := pureE_ok ⟨_, Try.func146, rfl, by kernel_rfl⟩ fun a h => ruint_ok a.1 a.2.1 a.2.2.1 h.1 h.2
/-! ### Same -/
structure SmS (a b : List Int) where
  i : Nat
  hi : i ≤ a.length
  h : a.take i = b.take i
theorem take_eq_of {a b : List Int} {i : Nat} (h : a.take i = b.take i) (ha : i < a.length) (hl : a.length = b.length) : (a.getD i default = b.getD i default ↔ a.take (i + 1) = b.take (i + 1)) := by
  rw [take_snocI ha, take_snocI (by omega), h]
  constructor
  · intro e; rw [e]
  · intro e; simpa using e
set_option maxHeartbeats 4000000 in
set_option maxRecDepth 20000 in
theorem same_ok (a b : List Int) (hl : a.length ≤ 9223372036854775806) : PureOk Try.prog 27 [(cSl eB eB_sz).enc a, (cSl eB eB_sz).enc b] (cB.enc (decide (a = b))) := by
  by_cases hab : a.length = b.length
  · refine pure_intro (wd := 1) (Q := mkQ LE0) (by decide) tysOk (q_of LE0_ok) mixed Try.func27 rfl _ (by show 2 ≤ _; decide) _ ?_
    repeat' (first | (apply And.intro <;> intro hc <;> (first | exact Bool.noConfusion hc | (simp only [decide_eq_true_eq, decide_eq_false_iff_not, Bool.not_eq_true', Bool.not_eq_false', beq_iff_eq, beq_eq_false_iff_ne, bne_iff_ne, bne_eq_false_iff_eq, Bool.true_eq_false, Bool.false_eq_true] at hc) | skip)) | (refine And.intro (by first | exact trivial | decide | omega | (dsimp only; omega) | exact fun _ _ => rfl) ?_) | (apply And.intro) | (intro s hs))
    all_goals first
      | (exfalso; omega)
      | skip
    refine loop_intro (mono_of LE0_ok) (fun s : SmS a b => (⟨[(0, one (.sl false a.length eB.sz (rowF eB a))), (1, one (.sl false b.length eB.sz (rowF eB b))), (5, one (.int .i64 (s.i : Int)))], [], 0⟩ : Hd)) (fun s => a.length - s.i) (fun _ => rfl) ?_ ⟨0, by omega, rfl⟩ [] ?_
    · rintro ⟨i, hi, h⟩
      dsimp only at hi h ⊢
      repeat' (first | (apply And.intro <;> intro hc <;> (first | exact Bool.noConfusion hc | (simp only [decide_eq_true_eq, decide_eq_false_iff_not, Bool.not_eq_true', Bool.not_eq_false', beq_iff_eq, beq_eq_false_iff_ne, bne_iff_ne, bne_eq_false_iff_eq, Bool.true_eq_false, Bool.false_eq_true] at hc) | skip)) | (refine And.intro (by first | exact trivial | decide | omega | (dsimp only; omega) | exact fun _ _ => rfl) ?_) | (apply And.intro) | (intro s hs))
      all_goals first
        | omega
        | skip
      · refine Done.mk (leF_bool ?_)
        symm
        rw [decide_eq_false_iff_not]
        intro e
        subst e
        exact hc rfl
      · refine ⟨⟨i + 1, by omega, (take_eq_of h (by omega) hab).1 hc⟩, [], by dsimp only <;> omega, rfl, ?_, ?_⟩
        · repeat' (first | exact trivial | exact rfl | exact leF_ptr rfl | exact leF_int rfl | exact leF_bool rfl | exact leF_cl (cl_slB _ _) | exact leF_cl (cl_slR _ _) | exact leF_cl (cl_ll _ _) | exact leF_c (leC_os rfl rfl) | refine leF_int ?_ | refine leF_bool ?_ | exact leN_varA (fun _ _ => (Elem.flat _ _ _).le) | exact leN_varA (fun _ _ => leC_top) | apply And.intro)
          first | (dsimp only; rw [IntWalk.i64_in _ (by omega)]; omega) | (dsimp only; rw [IntWalk.i64_in _ (by omega)]; done) | (dsimp only; exact IntWalk.i64_in _ (by omega)) | exact IntWalk.i64_in _ (by omega) | (rw [IntWalk.i64_in _ (by omega)]; omega)
        · repeat' (first | exact trivial | exact rfl | exact leF_ptr rfl | exact leF_int rfl | exact leF_bool rfl | exact leF_cl (cl_slB _ _) | exact leF_cl (cl_slR _ _) | exact leF_cl (cl_ll _ _) | exact leF_c (leC_os rfl rfl) | refine leF_int ?_ | refine leF_bool ?_ | exact leN_varA (fun _ _ => (Elem.flat _ _ _).le) | exact leN_varA (fun _ _ => leC_top) | apply And.intro)
      · refine Done.mk (leF_bool ?_)
        symm
        rw [decide_eq_true_eq]
        rw [List.take_of_length_le (by omega), List.take_of_length_le (by omega)] at h
        exact h
    · refine ⟨rfl, ?_, ?_⟩
      · repeat' (first | exact trivial | exact rfl | exact leF_ptr rfl | exact leF_int rfl | exact leF_bool rfl | exact leF_cl (cl_slB _ _) | exact leF_cl (cl_slR _ _) | exact leF_cl (cl_ll _ _) | exact leF_c (leC_os rfl rfl) | refine leF_int ?_ | refine leF_bool ?_ | exact leN_varA (fun _ _ => (Elem.flat _ _ _).le) | exact leN_varA (fun _ _ => leC_top) | apply And.intro)
      · repeat' (first | exact trivial | exact rfl | exact leF_ptr rfl | exact leF_int rfl | exact leF_bool rfl | exact leF_cl (cl_slB _ _) | exact leF_cl (cl_slR _ _) | exact leF_cl (cl_ll _ _) | exact leF_c (leC_os rfl rfl) | refine leF_int ?_ | refine leF_bool ?_ | exact leN_varA (fun _ _ => (Elem.flat _ _ _).le) | exact leN_varA (fun _ _ => leC_top) | apply And.intro)
  · have e : decide (a = b) = false := by rw [decide_eq_false_iff_not]; intro e; rw [e] at hab; exact hab rfl
    rw [e]
    refine pure_intro (wd := 1) (Q := mkQ LE0) (by decide) tysOk (q_of LE0_ok) mixed Try.func27 rfl _ (by show 2 ≤ _; decide) _ ?_
    repeat' (first | (apply And.intro <;> intro hc <;> (first | exact Bool.noConfusion hc | (simp only [decide_eq_true_eq, decide_eq_false_iff_not, Bool.not_eq_true', Bool.not_eq_false', beq_iff_eq, beq_eq_false_iff_ne, bne_iff_ne, bne_eq_false_iff_eq, Bool.true_eq_false, Bool.false_eq_true] at hc) | skip)) | (refine And.intro (by first | exact trivial | decide | omega | (dsimp only; omega) | exact fun _ _ => rfl) ?_) | (apply And.intro) | (intro s hs))
    all_goals first
      | exact Done.mk (leF_bool rfl)
      | (exfalso; omega)
abbrev sameE : Entry := pureE (AC.cons (cSl eB eB_sz) (AC.cons (cSl eB eB_sz) AC.nil)) (fun a => a.1.length ≤ 9223372036854775806) (fun a => decide (a.1 = a.2.1)) cB.enc
theorem sameE_ok : EntOk Try.prog 27 sameE := pureE_ok ⟨_, Try.func27, rfl, by kernel_rfl⟩ fun a h => same_ok a.1 a.2.1 h
end Go.Proofs.Ytjknkfjhcapocaa.AX
