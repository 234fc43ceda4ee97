/- Texts of one's own in one file: Oc, PkV, BIn, Rd, Ct, Ct2, Ct3, Rf, Lq, Rf2, Sm, Pk, Pk2, Pk3, Pk4, Pk5, PkP, IhL, Tp2. -/
import Derived.Test.YtjknkfjhcapocaaJIphcDecodesb
import Derived.Laws.BitsAllLaws
import Derived.IntWalk
set_option linter.unusedVariables false
set_option linter.unusedSimpArgs false
set_option maxHeartbeats 16000000
set_option maxRecDepth 20000
namespace Go.Proofs.Ytjknkfjhcapocaa.AX
open Go.RowKit
abbrev eB : Elem Int := eI .u8
theorem eB_sz : 0 < eB.sz := Nat.one_pos
theorem eI_rd (k : IntKind) (a : Int) : (eI k).rd ((eI k).cell a) = a := rfl
theorem toL_b (l : List Int) : toL eB l.length (rowF eB l) = l := toL_row (eI_rd .u8) l
theorem toL_b0 (l : List Int) : (toL eB l.length fun k j => rowF eB l (0 + k) j) = l := by simp only [Nat.zero_add]; exact toL_b l
theorem leN_set {c : Wc} {t : TypeId} {α : Type} [Inhabited α] {E : Elem α} {L : List α} {idx n : Nat} {x : α} {f : Nat -> Nat -> CV} {g : Nat -> CV} (hn : n = L.length) (hi : idx < L.length)
 (hf : ∀ i, i < L.length -> ∀ j, j < E.sz -> LeC c (f i j) (rowF E L i j)) (hg : ∀ j, j < E.sz -> LeC c (g j) (E.cell x j)) : LeN c ⟨t, n, E.sz, false, updE false f idx g⟩ (ents E t (L.set idx x)) := by
 refine leN_row (by rw [hn]; simp) fun i hi' j hj => ?_
 subst hn
 by_cases h : i = idx
 . subst h
   refine selC_in (beq_of rfl) ?_
   refine leC_eq (hg j hj) ?_
   unfold rowF
   rw [List.getD_eq_getElem?_getD, List.getElem?_set_self hi]; rfl
 . refine selC_out (beq_ne h) ?_
   refine leC_eq (hf i hi' j hj) ?_
   unfold rowF
   rw [List.getD_eq_getElem?_getD, List.getD_eq_getElem?_getD, List.getElem?_set_ne (Ne.symm h)]
theorem leN_app {c : Wc} {t : TypeId} {α : Type} [Inhabited α] {E : Elem α} {L M : List α} {n : Nat} {f : Nat -> Nat -> CV} (hn : n = L.length + M.length) (h1 : ∀ i, i < L.length -> ∀ j, j < E.sz -> LeC c (f i j) (rowF E L i j)) (h2 : ∀ i, i < M.length -> ∀ j, j < E.sz -> LeC c (f (L.length + i) j) (rowF E M i j)) :
 LeN c ⟨t, n, E.sz, false, f⟩ (ents E t (L ++ M)) := by
 refine leN_row (by rw [hn]; simp) fun i hi j hj => ?_
 subst hn
 by_cases h : i < L.length
 . refine leC_eq (h1 i h j hj) ?_
   unfold rowF
   rw [List.getD_eq_getElem?_getD, List.getD_eq_getElem?_getD, List.getElem?_append_left h]
 . obtain ⟨k, rfl⟩ : ∃ k, i = L.length + k := ⟨i - L.length, by omega⟩
   refine leC_eq (h2 k (by omega) j hj) ?_
   unfold rowF
   rw [List.getD_eq_getElem?_getD, List.getD_eq_getElem?_getD, List.getElem?_append_right (by omega)]
   congr 3; omega
def byteM (v : Int) (m j : Nat) : Int := IntKind.u8.wrap (shrI .u64 v (8 * ((m : Int) - 1 - (j : Int))))
def beM (v : Int) (m : Nat) : List Int := (List.range m).map (byteM v m)
theorem byteM_eq (v : Int) (m j : Nat) (hj : j < m) (hm : m <= 8) : byteM v m j = v / 256 ^ (m - 1 - j) % 256 := by
 unfold byteM shrI
 rw [IntKind.wrap_u8']
 have e1 : (8 * ((m : Int) - 1 - (j : Int))).toNat = 8 * (m - 1 - j) := by omega
 rw [e1, show IntKind.bits .u64 = 64 from rfl, show min (8 * (m - 1 - j)) 64 = 8 * (m - 1 - j) by omega]
 have e2 : (2 : Int) ^ (8 * (m - 1 - j)) = 256 ^ (m - 1 - j) := by rw [Int.pow_mul]; rfl
 rw [e2, Int.fdiv_eq_ediv_of_nonneg _ (Int.le_of_lt (Int.pow_pos (by omega)))]
theorem beM_eq (v : Int) (m : Nat) (hm : m <= 8) : beM v m = beN v m := by
 have key : ∀ k, k <= m -> (List.range k).map (fun j => byteM v m (m - k + j)) = beN v k := by
  intro k
  induction k with
  | zero => intro _; rfl
  | succ k ih =>
    intro hk
    rw [List.range_succ_eq_map, List.map_cons, List.map_map, beN, <- ih (by omega)]
    congr 1
    . rw [byteM_eq _ _ _ (by omega) hm]
      congr 2
      congr 1; omega
    . apply List.map_congr_left
      intro j hj
      have := List.mem_range.1 hj
      show byteM v m (m - (k + 1) + (j + 1)) = byteM v m (m - k + j)
      congr 1; omega
 have := key m (Nat.le_refl _)
 rw [Nat.sub_self] at this
 unfold beM
 rw [<- this]
 apply List.map_congr_left
 intro j _
 rw [Nat.zero_add]
def beB (v n : Int) : List Int := if 0 <= n /\ n <= 8 then beN v n.toNat else []
def fillL (l : List Int) (m : Nat) (v : Int) (i : Nat) : List Int := l ++ ((List.range i).map (byteM v m) ++ List.replicate (m - i) 0)
theorem fillL_len (l : List Int) (m : Nat) (v : Int) (i : Nat) (h : i <= m) : (fillL l m v i).length = l.length + m := by simp [fillL]; omega
theorem fillL_step (l : List Int) (m : Nat) (v : Int) (i : Nat) (h : i < m) : fillL l m v (i + 1) = (fillL l m v i).set (l.length + i) (byteM v m i) := by
 unfold fillL
 rw [List.set_append_right _ _ (by omega), show l.length + i - l.length = i by omega]
 congr 1
 rw [List.set_append_right _ _ (by simp)]
 simp only [List.length_map, List.length_range, Nat.sub_self]
 obtain ⟨k, hk⟩ : ∃ k, m - i = k + 1 := ⟨m - i - 1, by omega⟩
 rw [hk, List.replicate_succ, List.set_cons_zero, List.range_succ, List.map_append, List.append_assoc]
 rw [show m - (i + 1) = k by omega]; rfl
theorem fillL_end (l : List Int) (m : Nat) (v : Int) : fillL l m v m = l ++ beM v m := by simp [fillL, beM]
theorem oapp_ok (l : List Int) (v n : Int) (hl : l.length <= 70368744177664) :
 NewOk Try.prog 106 [(cSl eB eB_sz).enc l, (cI .u64).enc v, (cI .i64).enc n] (some (l ++ beB v n).length) none (ents eB 5 (l ++ beB v n)) := by
 by_cases hr : 0 <= n /\ n <= 8
 . obtain ⟨m, rfl⟩ : ∃ m : Nat, n = m := ⟨n.toNat, by omega⟩
   have hm8 : m <= 8 := by omega
   have hspec : l ++ beB v m = fillL l m v m := by
    rw [fillL_end, beM_eq v m hm8]
    unfold beB
    rw [if_pos hr]; rfl
   rw [hspec]
   clear hspec
   have em : IntKind.i64.wrap ((l.length : Int) + m) = l.length + m := IntWalk.i64_in _ (by omega)
   have hmin : Nat.min l.length (l.length + m) = l.length := Nat.min_eq_left (by omega)
   refine new_intro (wd := 1) (Q := mkQ LE0) (by decide) tysOk (q_of LE0_ok) mixed Try.func106 rfl _ (by show 3 <= _; decide) (fun i _ j _ => row_nf eB _ i j) ?_
   repeat' (first | (apply And.intro <;> intro hc <;> (first | exact Bool.noConfusion hc | (simp only [zb0] at hc) | skip)) | (refine And.intro zp0 ?_) | (apply And.intro) | (intro s hs))
   all_goals first
    | (exfalso; omega)
    | (rw [Int.natCast_one, Int.one_mul]; omega)
    | omega
    | skip
   refine loop_intro (mono_of LE0_ok) (fun s : {i : Nat // i <= m} => (⟨[(0, one (.sl false l.length eB.sz (rowF eB l))), (1, one (.int .u64 v)), (2, one (.int .i64 m)), (7, one (.os 40 0 (l.length + m))), (23, one (.int .i64 m)), (24, one (.int .i64 (s.1 : Int)))],
    [(40, some (ents eB 5 (fillL l m v s.1)))], 41⟩ : Hd)) (fun s => m - s.1) (fun _ => rfl) ?_ ⟨0, by omega⟩ [(40, some 11)] ?_
   . rintro ⟨i, hi⟩
     dsimp only at hi ⊢
     have hlen := fillL_len l m v i hi
     have w1 : IntKind.i64.wrap ((l.length : Int) + i) = l.length + i := IntWalk.i64_in _ (by omega)
     have w2 : IntKind.i64.wrap ((m : Int) - 1) = m - 1 := IntWalk.i64_in _ (by omega)
     have w3 : IntKind.i64.wrap ((m : Int) - 1 - i) = m - 1 - i := IntWalk.i64_in _ (by omega)
     have w4 : IntKind.i64.wrap (8 * ((m : Int) - 1 - i)) = 8 * (m - 1 - i) := IntWalk.i64_in _ (by omega)
     have w5 : i < m -> 0 <= IntKind.i64.wrap (8 * IntKind.i64.wrap (IntKind.i64.wrap ((m : Int) - 1) - i)) := fun _ => by rw [w2, w3, w4]; omega
     repeat' (first | (apply And.intro <;> intro hc <;> (first | exact Bool.noConfusion hc | (simp only [zb0] at hc) | skip)) | (refine And.intro zp0 ?_) | (apply And.intro) | (intro s hs))
     all_goals first
      | exact w5 (by omega)
      | omega
      | skip
     . refine ⟨⟨i + 1, by omega⟩, [], by dsimp only <;> omega, rfl, ?_, ?_⟩
       . repeat' (first | exact zw0 | refine leF_int ?_ | refine leF_bool ?_ | exact zw1 | apply And.intro)
         exact zaw
       . repeat' (first | exact zw0 | refine leF_int ?_ | refine leF_bool ?_ | exact zw1 | apply And.intro)
         show LeN _ _ (ents eB _ (fillL l m v (i + 1)))
         rw [fillL_step l m v i (by omega)]
         have hidx : 0 + (IntKind.i64.wrap ((l.length : Int) + i)).toNat = l.length + i := by rw [w1]; omega
         rw [hidx]
         refine leN_set rfl (by omega) (fun i _ j _ => (Elem.flat _ _ _).le) fun j hj => leC_int ?_
         unfold byteM
         rw [w2, w3, w4]
     . have him : i = m := by omega
       subst him
       refine ⟨⟨some 40, leF_c (leC_os rfl hlen.symm), leN_ents⟩⟩
   . refine ⟨rfl, ?_, ?_⟩
     . repeat' (first | exact zw0 | refine leF_int ?_ | refine leF_bool ?_ | exact zw1 | apply And.intro)
       exact leF_c (leC_os rfl (by rw [em]; omega))
     . repeat' (first | exact zw0 | refine leF_int ?_ | refine leF_bool ?_ | exact zw1 | apply And.intro)
       show LeN _ _ (ents eB _ (l ++ (List.map (byteM v m) (List.range 0) ++ List.replicate (m - 0) 0)))
       rw [em]
       refine leN_app (E := eB) ?_ (fun i hi j hj => ?_) fun i hi j hj => ?_
       . rw [List.length_append, List.length_map, List.length_range, List.length_replicate]; omega
       . refine selC_in (rng_in ⟨by omega, ?_⟩) (leC_int (by first | rfl | rw [Nat.sub_zero]))
         rw [show ((l.length : Int) + m).toNat = l.length + m by omega, hmin]; omega
       . refine selC_out (rng_out (.inr ?_)) ?_
         . rw [show ((l.length : Int) + m).toNat = l.length + m by omega, hmin]; omega
         . obtain rfl : j = 0 := by have : j < 1 := hj; omega
           refine leC_int ?_
           show (0 : Int) = (List.replicate (m - 0) (0 : Int)).getD i default
           have hi' : i < m := by
            have h := hi
            rw [List.length_append, List.length_map, List.length_range, List.length_replicate] at h
            omega
           rw [List.getD_eq_getElem?_getD, List.getElem?_replicate, if_pos (by omega)]; rfl
 . have hspec : l ++ beB v n = l := by unfold beB; rw [if_neg hr]; simp
   rw [hspec]
   clear hspec
   have em : IntKind.i64.wrap ((l.length : Int) + 0) = l.length := by rw [Int.add_zero]; exact IntWalk.i64_in _ (by omega)
   have em2 : (IntKind.i64.wrap ((l.length : Int) + 0)).toNat = l.length := by omega
   refine new_intro (wd := 1) (Q := mkQ LE0) (by decide) tysOk (q_of LE0_ok) mixed Try.func106 rfl _ (by show 3 <= _; decide) (fun i _ j _ => row_nf eB _ i j) ?_
   repeat' (first | (apply And.intro <;> intro hc <;> (first | exact Bool.noConfusion hc | (simp only [zb0] at hc) | skip)) | (refine And.intro zp0 ?_) | (apply And.intro) | (intro s hs))
   all_goals first
    | (exfalso; omega)
    | (rw [Int.natCast_one, Int.one_mul]; omega)
    | omega
    | skip
   all_goals
    refine loop_intro (mono_of LE0_ok) (fun s : Unit => (⟨[(7, one (.os 40 0 l.length)), (23, one (.int .i64 0)), (24, one (.int .i64 0))], [(40, some (ents eB 5 l))], 41⟩ : Hd)) (fun s => 0) (fun _ => rfl) ?_ () [(40, some 12)] ?_
    . rintro ⟨⟩
      repeat' (first | (apply And.intro <;> intro hc <;> (first | exact Bool.noConfusion hc | (simp only [zb0] at hc) | skip)) | (refine And.intro zp0 ?_) | (apply And.intro) | (intro s hs))
      exact ⟨⟨some 40, leF_c (leC_os rfl rfl), leN_ents⟩⟩
    . refine ⟨rfl, ?_, ?_⟩
      . repeat' (first | exact zw0 | refine leF_int ?_ | refine leF_bool ?_ | exact zw1 | apply And.intro)
        exact leF_c (leC_os rfl em2)
      . repeat' (first | exact zw0 | refine leF_int ?_ | refine leF_bool ?_ | exact zw1 | apply And.intro)
        rw [em]
        refine leN_row (by omega) fun i hi j hj => ?_
        refine selC_in (rng_in ⟨by omega, ?_⟩) (leC_int (by first | rfl | rw [Nat.sub_zero]))
        rw [show ((l.length : Nat) : Int).toNat = l.length by omega, show Nat.min l.length l.length = l.length from Nat.min_self _]; omega
abbrev appA : AC (List Int × Int × Int × Unit) := AC.cons (cSl eB eB_sz) (AC.cons (cI .u64) (AC.cons (cI .i64) AC.nil))
abbrev oappE : Entry := newE appA (fun a => a.1.length <= 70368744177664) (fun a => a.1 ++ beB a.2.1 a.2.2.1) (fun L => some L.length) (fun _ => none) (fun L => ents eB 5 L)
theorem oappE_ok : EntOk Try.prog 106 oappE := newE_ok ⟨_, Try.func106, rfl, by kernel_rfl⟩ (fun s l h => by cases h) fun a h => oapp_ok a.1 a.2.1 a.2.2.1 h
theorem rapp_ok (l : List Int) (v n : Int) (hl : l.length <= 70368744177664) :
 NewOk Try.prog 107 [(cSl eB eB_sz).enc l, (cI .u64).enc v, (cI .i64).enc n] (some (l ++ beB v n).length) none (ents eB 5 (l ++ beB v n)) := by
 by_cases hr : 0 <= n /\ n <= 8
 . obtain ⟨m, rfl⟩ : ∃ m : Nat, n = m := ⟨n.toNat, by omega⟩
   have hm8 : m <= 8 := by omega
   have hspec : l ++ beB v m = l ++ beM v m := by
    rw [beM_eq v m hm8]
    unfold beB
    rw [if_pos hr]; rfl
   rw [hspec]
   clear hspec
   have em : IntKind.i64.wrap ((m : Int) - 1) = m - 1 := IntWalk.i64_in _ (by omega)
   refine new_intro (wd := 1) (Q := mkQ LE0) (by decide) tysOk (q_of LE0_ok) mixed Try.func107 rfl _ (by show 3 <= _; decide) (fun i _ j _ => row_nf eB _ i j) ?_
   repeat' (first | (apply And.intro <;> intro hc <;> (first | exact Bool.noConfusion hc | (simp only [zb0] at hc) | skip)) | (refine And.intro zp0 ?_) | (apply And.intro) | (intro s hs))
   all_goals first
    | (exfalso; omega)
    | (rw [Int.natCast_one, Int.one_mul]; omega)
    | omega
    | skip
   refine loop_intro (mono_of LE0_ok) (fun s : {k : Nat // k <= m} => (⟨[(1, one (.int .u64 v)), (7, one (.os 40 0 (l ++ (List.range s.1).map (byteM v m)).length)), (8, one (.int .i64 ((m : Int) - 1 - (s.1 : Int))))],
    [(40, some (ents eB 5 (l ++ (List.range s.1).map (byteM v m))))], 41⟩ : Hd)) (fun s => m - s.1) (fun _ => rfl) ?_ ⟨0, by omega⟩ [(40, some 3)] ?_
   . rintro ⟨k, hk⟩
     dsimp only at hk ⊢
     have hlen : (l ++ (List.range k).map (byteM v m)).length = l.length + k := by simp
     obtain ⟨L, hL⟩ : ∃ L, L = l ++ (List.range k).map (byteM v m) := ⟨_, rfl⟩
     rw [<- hL] at hlen ⊢
     have w1 : 0 <= (m : Int) - 1 - k -> IntKind.u64.wrap ((m : Int) - 1 - k) = m - 1 - k := fun _ => IntWalk.u64_in _ (by omega)
     have w2 : 0 <= (m : Int) - 1 - k -> IntKind.u64.wrap (8 * ((m : Int) - 1 - k)) = 8 * (m - 1 - k) := fun _ => IntWalk.u64_in _ (by omega)
     have w3 : 0 <= (m : Int) - 1 - k -> IntKind.i64.wrap ((m : Int) - 1 - k - 1) = m - 1 - (k + 1) := fun _ => by rw [IntWalk.i64_in _ (by omega)]; omega
     have w4 : 0 <= (m : Int) - 1 - k -> 0 <= IntKind.u64.wrap (8 * IntKind.u64.wrap ((m : Int) - 1 - k)) := fun h => by rw [w1 h, w2 h]; omega
     repeat' (first | (apply And.intro <;> intro hc <;> (first | exact Bool.noConfusion hc | (simp only [zb0] at hc) | skip)) | (refine And.intro zp0 ?_) | (apply And.intro) | (intro s hs))
     all_goals first
      | exact w4 (by assumption)
      | (rw [Int.natCast_one, Int.one_mul]; omega)
      | omega
      | skip
     . have hc' : 0 <= (m : Int) - 1 - k := hc
       have eL : l ++ (List.range (k + 1)).map (byteM v m) = L ++ [byteM v m k] := by rw [List.range_succ, List.map_append, <- List.append_assoc, <- hL]; rfl
       refine ⟨⟨k + 1, by omega⟩, [(40, some 51)], by dsimp only <;> omega, rfl, ?_, ?_⟩
       . repeat' (first | exact zw0 | refine leF_int ?_ | refine leF_bool ?_ | exact zw1 | apply And.intro)
         . rw [eL]
           exact leF_c (leC_os rfl (by simp))
         . exact (w3 hc').trans (by dsimp only; omega)
       . repeat' (first | exact zw0 | refine leF_int ?_ | refine leF_bool ?_ | exact zw1 | apply And.intro)
         show LeN _ _ (ents eB _ (l ++ (List.range (k + 1)).map (byteM v m)))
         rw [eL]
         refine leN_snoc (E := eB) (L := L) (x := byteM v m k) rfl (fun i hi j hj => selC_in (Nat.ble_eq_true_of_le hi) (Elem.flat _ _ _).le) ?_
         refine ⟨trivial, ?_⟩
         refine selC_out (blt_self _) ?_
         rw [Nat.sub_self]
         refine leC_int ?_
         unfold byteM
         rw [w1 hc', w2 hc']; rfl
     . have hkm : k = m := by omega
       subst hkm
       rw [hL]
       exact ⟨⟨some 40, leF_c (leC_os rfl rfl), leN_ents⟩⟩
   . refine ⟨rfl, ?_, ?_⟩
     . repeat' (first | exact zw0 | refine leF_int ?_ | refine leF_bool ?_ | exact zw1 | apply And.intro)
       . exact leF_c (leC_os rfl (by simp))
       . exact em.trans (by dsimp only; omega)
     . repeat' (first | exact zw0 | refine leF_int ?_ | refine leF_bool ?_ | exact zw1 | apply And.intro)
       show LeN _ _ (ents eB _ (l ++ []))
       rw [List.append_nil]
       refine leN_row (by simp) fun i hi j hj => ?_
       refine selC_out (blt_zero _) ?_
       rw [Nat.sub_zero]
       exact leC_cell (E := eB) (by simp)
 . have hspec : l ++ beB v n = l := by unfold beB; rw [if_neg hr]; simp
   rw [hspec]
   clear hspec
   refine new_intro (wd := 1) (Q := mkQ LE0) (by decide) tysOk (q_of LE0_ok) mixed Try.func107 rfl _ (by show 3 <= _; decide) (fun i _ j _ => row_nf eB _ i j) ?_
   repeat' (first | (apply And.intro <;> intro hc <;> (first | exact Bool.noConfusion hc | (simp only [zb0] at hc) | skip)) | (refine And.intro zp0 ?_) | (apply And.intro) | (intro s hs))
   all_goals first
    | (exfalso; omega)
    | (rw [Int.natCast_one, Int.one_mul]; omega)
    | omega
    | skip
   all_goals
    refine ⟨⟨some 3, leF_c (leC_os rfl (Nat.zero_add _)), leN_row (Nat.zero_add _) fun i hi j hj => ?_⟩⟩
    refine selC_out (blt_zero _) ?_
    rw [Nat.sub_zero]
    exact (eB.flat _ _).le
theorem rappE_ok : EntOk Try.prog 107 oappE := newE_ok ⟨_, Try.func107, rfl, by kernel_rfl⟩ (fun s l h => by cases h) fun a h => rapp_ok a.1 a.2.1 a.2.2.1 h
theorem shl8 (x : Int) (h : 0 <= x /\ x < 72057594037927936) : shlI .u64 x 8 = x * 256 := by
 unfold shlI
 rw [show min (8 : Int).toNat (IntKind.bits .u64) = 8 from rfl]
 exact IntWalk.u64_in _ (by omega)
theorem beVal_from : ∀ (l : List Int) (a : Int), BL l -> 0 <= a -> a * 256 ^ l.length <= l.foldl (fun a c => a * 256 + c) a /\ l.foldl (fun a c => a * 256 + c) a < (a + 1) * 256 ^ l.length := by
 intro l
 induction l with
 | nil => intro a _ h; simp; omega
 | cons c l ih =>
   intro a h ha
   have hc := h.m c (by simp)
   obtain ⟨h1, h2⟩ := ih (a * 256 + c) ⟨fun x hx => h.m x (by simp [hx])⟩ (by omega)
   rw [List.foldl_cons, List.length_cons, Int.pow_succ, Int.mul_comm (256 ^ l.length) 256, <- Int.mul_assoc, <- Int.mul_assoc]
   have hp : (0 : Int) <= 256 ^ l.length := Int.le_of_lt (Int.pow_pos (by omega))
   have h3 := Int.mul_le_mul_of_nonneg_right (show a * 256 <= a * 256 + c by omega) hp
   have h4 := Int.mul_le_mul_of_nonneg_right (show a * 256 + c + 1 <= (a + 1) * 256 by omega) hp
   omega
theorem beVal_lt (l : List Int) (h : BL l) : 0 <= beVal l /\ beVal l < 256 ^ l.length := by
 have := beVal_from l 0 h (Int.le_refl _)
 unfold beVal
 simp only [Int.zero_mul, Int.zero_add, Int.one_mul] at this
 exact this
theorem pow256_le {k n : Nat} (h : k <= n) : (256 : Int) ^ k <= 256 ^ n := by
 obtain ⟨d, rfl⟩ : ∃ d, n = k + d := ⟨n - k, by omega⟩
 rw [Int.pow_add]
 have h1 : (0 : Int) < 256 ^ k := Int.pow_pos (by omega)
 have h2 : (0 : Int) < 256 ^ d := Int.pow_pos (by omega)
 have := Int.mul_le_mul_of_nonneg_left (show (1 : Int) <= 256 ^ d by omega) (Int.le_of_lt h1)
 omega
theorem or8 (x c : Int) (hx : 0 <= x /\ x < 72057594037927936) (hc : 0 <= c /\ c < 256) : bits .or .u64 (shlI .u64 x 8) (IntKind.u64.wrap c) = x * 256 + c := by
 rw [shl8 x hx, show IntKind.u64.wrap c = c from IntWalk.u64_in _ (by omega), u64_or _ _ (by omega) (by omega) (by omega) (by omega)]
 rw [nat_join 8 _ _ (by omega) (by omega)]
 omega
def uintF (b : List Int) (at_ n : Int) : Int × Bool := if 1 <= n /\ n <= 8 /\ 0 <= at_ /\ at_ <= b.length - n then (beVal ((b.drop at_.toNat).take n.toNat), true) else (0, false)
def encUB (r : Int × Bool) : FV := .tup [.c (.int .u64 r.1), .c (.bool r.2)]
theorem getD_dt (b : List Int) (a n k : Nat) (hk : k < n) (h : a + n <= b.length) : ((b.drop a).take n).getD k default = b.getD (a + k) default := by
 rw [List.getD_eq_getElem?_getD, List.getD_eq_getElem?_getD, List.getElem?_take, if_pos hk, List.getElem?_drop]
theorem take_snocI {l : List Int} {k : Nat} (h : k < l.length) : l.take (k + 1) = l.take k ++ [l.getD k default] := by
 rw [List.take_succ_eq_append_getElem h, List.getD_eq_getElem?_getD, List.getElem?_eq_getElem h]; rfl
theorem ouint_ok (b : List Int) (a n : Int) (hb : BL b) (hl : b.length <= 70368744177664) :
 PureOk Try.prog 74 [(cSl eB eB_sz).enc b, (cI .i64).enc a, (cI .i64).enc n] (encUB (uintF b a n)) := by
 by_cases hr : 1 <= n /\ n <= 8 /\ 0 <= a /\ a <= b.length - n
 . obtain ⟨m, rfl⟩ : ∃ m : Nat, n = m := ⟨n.toNat, by omega⟩
   obtain ⟨p, rfl⟩ : ∃ p : Nat, a = p := ⟨a.toNat, by omega⟩
   obtain ⟨w, hw⟩ : ∃ w, w = (b.drop p).take m := ⟨_, rfl⟩
   have hwl : w.length = m := by rw [hw]; simp; omega
   have hwB : BL w := by rw [hw]; exact (hb.drop p).take m
   have hsp : uintF b p m = (beVal w, true) := by unfold uintF; rw [if_pos hr, hw]; rfl
   rw [hsp]
   have e1 : IntKind.i64.wrap ((b.length : Int) - m) = b.length - m := IntWalk.i64_in _ (by omega)
   have e2 : IntKind.i64.wrap ((p : Int) + m) = p + m := IntWalk.i64_in _ (by omega)
   have e3 : (IntKind.i64.wrap ((p : Int) + m)).toNat - (p : Int).toNat = m := by omega
   refine pure_intro (wd := 1) (Q := mkQ LE0) (by decide) tysOk (q_of LE0_ok) mixed Try.func74 rfl _ (by show 3 <= _; decide) _ ?_
   repeat' (first | (apply And.intro <;> intro hc <;> (first | exact Bool.noConfusion hc | (simp only [zb0] at hc) | skip)) | (refine And.intro zp0 ?_) | (apply And.intro) | (intro s hs))
   all_goals first
    | (exfalso; omega)
    | omega
    | skip
   refine loop_intro (mono_of LE0_ok) (fun s : {k : Nat // k <= m} => (⟨[(8, one (.int .u64 (beVal (w.take s.1)))), (34, one (.sl false w.length eB.sz (rowF eB w))), (35, one (.int .i64 m)), (36, one (.int .i64 (s.1 : Int)))], [], 0⟩ : Hd)) (fun s => m - s.1) (fun _ => rfl) ?_ ⟨0, by omega⟩ [] ?_
   . rintro ⟨k, hk⟩
     dsimp only at hk ⊢
     have hv := beVal_lt (w.take k) (hwB.take k)
     repeat' (first | (apply And.intro <;> intro hc <;> (first | exact Bool.noConfusion hc | (simp only [zb0] at hc) | skip)) | (refine And.intro zp0 ?_) | (apply And.intro) | (intro s hs))
     all_goals first
      | omega
      | skip
     . have hc' : k < m := by omega
       have hx := hwB.get k
       refine ⟨⟨k + 1, by omega⟩, [], by dsimp only <;> omega, rfl, ?_, ?_⟩
       . repeat' (first | exact zw0 | refine leF_int ?_ | refine leF_bool ?_ | exact zw1 | apply And.intro)
         . have hp := pow256_le (show (w.take k).length <= 7 by simp; omega)
           refine (or8 _ _ ⟨hv.1, by omega⟩ hx).trans ?_
           show _ = beVal (w.take (k + 1))
           rw [take_snocI (by omega), beVal_snoc]
           try rfl
         . exact zaw
       . repeat' (first | exact zw0 | refine leF_int ?_ | refine leF_bool ?_ | exact zw1 | apply And.intro)
     . refine Done.mk (leF_tup ?_)
       have hkm : k = m := by omega
       refine ⟨leE_c (leC_int ?_), leE_c (leC_bool rfl), trivial⟩
       show beVal (w.take k) = beVal w
       rw [List.take_of_length_le (by omega)]
   . refine ⟨rfl, ?_, ?_⟩
     . repeat' (first | exact zw0 | refine leF_int ?_ | refine leF_bool ?_ | exact zw1 | apply And.intro)
       . refine leF_c (leC_sl (fun h => by cases h) ?_ rfl fun i hi j hj => ?_)
         . rw [hwl]; exact e3
         . refine leC_cell (E := eB) ?_
           rw [hw, getD_dt _ _ _ _ (by omega) (by omega)]; rfl
       . show ((_ : Nat) : Int) = m
         rw [e3]
     . repeat' (first | exact zw0 | refine leF_int ?_ | refine leF_bool ?_ | exact zw1 | apply And.intro)
 . have hsp : uintF b a n = (0, false) := by unfold uintF; rw [if_neg hr]
   rw [hsp]
   have e1 : 1 <= n -> n <= 8 -> IntKind.i64.wrap ((b.length : Int) - n) = b.length - n := fun _ _ => IntWalk.i64_in _ (by omega)
   refine pure_intro (wd := 1) (Q := mkQ LE0) (by decide) tysOk (q_of LE0_ok) mixed Try.func74 rfl _ (by show 3 <= _; decide) _ ?_
   repeat' (first | (apply And.intro <;> intro hc <;> (first | exact Bool.noConfusion hc | (simp only [zb0] at hc) | skip)) | (refine And.intro zp0 ?_) | (apply And.intro) | (intro s hs))
   all_goals first
    | exact Done.mk (leF_tup ⟨leE_c (leC_int rfl), leE_c (leC_bool rfl), trivial⟩)
    | (exfalso; have := e1 (by omega) (by omega); omega)
abbrev uintA : AC (List Int × Int × Int × Unit) := AC.cons (cSl eB eB_sz) (AC.cons (cI .i64) (AC.cons (cI .i64) AC.nil))
abbrev uintE : Entry := pureE uintA (fun a => BL a.1 /\ a.1.length <= 70368744177664) (fun a => uintF a.1 a.2.1 a.2.2.1) encUB
theorem ouintE_ok : EntOk Try.prog 74 uintE := pureE_ok ⟨_, Try.func74, rfl, by kernel_rfl⟩ fun a h => ouint_ok a.1 a.2.1 a.2.2.1 h.1 h.2
theorem ruint_ok (b : List Int) (a n : Int) (hb : BL b) (hl : b.length <= 70368744177664) :
 PureOk Try.prog 146 [(cSl eB eB_sz).enc b, (cI .i64).enc a, (cI .i64).enc n] (encUB (uintF b a n)) := by
 by_cases hr : 1 <= n /\ n <= 8 /\ 0 <= a /\ a <= b.length - n
 . obtain ⟨m, rfl⟩ : ∃ m : Nat, n = m := ⟨n.toNat, by omega⟩
   obtain ⟨p, rfl⟩ : ∃ p : Nat, a = p := ⟨a.toNat, by omega⟩
   obtain ⟨w, hw⟩ : ∃ w, w = (b.drop p).take m := ⟨_, rfl⟩
   have hwl : w.length = m := by rw [hw]; simp; omega
   have hwB : BL w := by rw [hw]; exact (hb.drop p).take m
   have hsp : uintF b p m = (beVal w, true) := by unfold uintF; rw [if_pos hr, hw]; rfl
   rw [hsp]
   have e1 : IntKind.i64.wrap ((b.length : Int) - p) = b.length - p := IntWalk.i64_in _ (by omega)
   refine pure_intro (wd := 1) (Q := mkQ LE0) (by decide) tysOk (q_of LE0_ok) mixed Try.func146 rfl _ (by show 3 <= _; decide) _ ?_
   repeat' (first | (apply And.intro <;> intro hc <;> (first | exact Bool.noConfusion hc | (simp only [zb0] at hc) | skip)) | (refine And.intro zp0 ?_) | (apply And.intro) | (intro s hs))
   all_goals first
    | (exfalso; omega)
    | omega
    | skip
   refine loop_intro (mono_of LE0_ok) (fun s : {k : Nat // k <= m} => (⟨[(0, one (.sl false b.length eB.sz (rowF eB b))), (1, one (.int .i64 p)), (2, one (.int .i64 m)), (8, one (.int .u64 (beVal (w.take s.1)))), (9, one (.int .i64 (s.1 : Int)))], [], 0⟩ : Hd)) (fun s => m - s.1) (fun _ => rfl) ?_ ⟨0, by omega⟩ [] ?_
   . rintro ⟨k, hk⟩
     dsimp only at hk ⊢
     have hv := beVal_lt (w.take k) (hwB.take k)
     have hp := pow256_le (show (w.take k).length <= k by simp; omega)
     have e2 : IntKind.i64.wrap ((p : Int) + k) = p + k := IntWalk.i64_in _ (by omega)
     repeat' (first | (apply And.intro <;> intro hc <;> (first | exact Bool.noConfusion hc | (simp only [zb0] at hc) | skip)) | (refine And.intro zp0 ?_) | (apply And.intro) | (intro s hs))
     all_goals first
      | omega
      | skip
     . have hc' : k < m := by omega
       have hp7 := pow256_le (show k <= 7 by omega)
       have hx := hb.get (p + k)
       refine ⟨⟨k + 1, by omega⟩, [], by dsimp only <;> omega, rfl, ?_, ?_⟩
       . repeat' (first | exact zw0 | refine leF_int ?_ | refine leF_bool ?_ | exact zw1 | apply And.intro)
         . rw [e2, show ((p : Int) + k).toNat = p + k by omega]
           rw [shl8 _ ⟨hv.1, by omega⟩, show IntKind.u64.wrap (b.getD (p + k) default) = b.getD (p + k) default from IntWalk.u64_in _ (by omega), IntWalk.u64_in _ (by omega)]
           show _ = beVal (w.take (k + 1))
           rw [take_snocI (by omega), beVal_snoc, hw, getD_dt _ _ _ _ (by omega) (by omega)]
         . exact zaw
       . repeat' (first | exact zw0 | refine leF_int ?_ | refine leF_bool ?_ | exact zw1 | apply And.intro)
     . refine Done.mk (leF_tup ?_)
       have hkm : k = m := by omega
       refine ⟨leE_c (leC_int ?_), leE_c (leC_bool rfl), trivial⟩
       show beVal (w.take k) = beVal w
       rw [List.take_of_length_le (by omega)]
   . refine ⟨rfl, ?_, ?_⟩
     . repeat' (first | exact zw0 | refine leF_int ?_ | refine leF_bool ?_ | exact zw1 | apply And.intro)
     . repeat' (first | exact zw0 | refine leF_int ?_ | refine leF_bool ?_ | exact zw1 | apply And.intro)
 . have hsp : uintF b a n = (0, false) := by unfold uintF; rw [if_neg hr]
   rw [hsp]
   have e1 : 0 <= a -> a <= b.length -> IntKind.i64.wrap ((b.length : Int) - a) = b.length - a := fun _ _ => IntWalk.i64_in _ (by omega)
   refine pure_intro (wd := 1) (Q := mkQ LE0) (by decide) tysOk (q_of LE0_ok) mixed Try.func146 rfl _ (by show 3 <= _; decide) _ ?_
   repeat' (first | (apply And.intro <;> intro hc <;> (first | exact Bool.noConfusion hc | (simp only [zb0] at hc) | skip)) | (refine And.intro zp0 ?_) | (apply And.intro) | (intro s hs))
   all_goals first
    | exact Done.mk (leF_tup ⟨leE_c (leC_int rfl), leE_c (leC_bool rfl), trivial⟩)
    | (exfalso; have := e1 (by omega) (by omega); omega)
theorem ruintE_ok : EntOk Try.prog 146 uintE := pureE_ok ⟨_, Try.func146, rfl, by kernel_rfl⟩ fun a h => ruint_ok a.1 a.2.1 a.2.2.1 h.1 h.2
structure SmS (a b : List Int) where
 i : Nat
 hi : i <= a.length
 h : a.take i = b.take i
theorem take_eq_of {a b : List Int} {i : Nat} (h : a.take i = b.take i) (ha : i < a.length) (hl : a.length = b.length) : (a.getD i default = b.getD i default ↔ a.take (i + 1) = b.take (i + 1)) := by
 rw [take_snocI ha, take_snocI (by omega), h]
 constructor
 . intro e; rw [e]
 . intro e; simpa using e
theorem same_ok (a b : List Int) (hl : a.length <= 9223372036854775806) : PureOk Try.prog 27 [(cSl eB eB_sz).enc a, (cSl eB eB_sz).enc b] (cB.enc (decide (a = b))) := by
 by_cases hab : a.length = b.length
 . refine pure_intro (wd := 1) (Q := mkQ LE0) (by decide) tysOk (q_of LE0_ok) mixed Try.func27 rfl _ (by show 2 <= _; decide) _ ?_
   repeat' (first | (apply And.intro <;> intro hc <;> (first | exact Bool.noConfusion hc | (simp only [zb0] at hc) | skip)) | (refine And.intro zp0 ?_) | (apply And.intro) | (intro s hs))
   all_goals first
    | (exfalso; omega)
    | skip
   refine loop_intro (mono_of LE0_ok) (fun s : SmS a b => (⟨[(0, one (.sl false a.length eB.sz (rowF eB a))), (1, one (.sl false b.length eB.sz (rowF eB b))), (5, one (.int .i64 (s.i : Int)))], [], 0⟩ : Hd)) (fun s => a.length - s.i) (fun _ => rfl) ?_ ⟨0, by omega, rfl⟩ [] ?_
   . rintro ⟨i, hi, h⟩
     dsimp only at hi h ⊢
     repeat' (first | (apply And.intro <;> intro hc <;> (first | exact Bool.noConfusion hc | (simp only [zb0] at hc) | skip)) | (refine And.intro zp0 ?_) | (apply And.intro) | (intro s hs))
     all_goals first
      | omega
      | skip
     . refine Done.mk (leF_bool ?_)
       symm
       rw [decide_eq_false_iff_not]
       intro e
       subst e
       exact hc rfl
     . refine ⟨⟨i + 1, by omega, (take_eq_of h (by omega) hab).1 hc⟩, [], by dsimp only <;> omega, rfl, ?_, ?_⟩
       . repeat' (first | exact zw0 | refine leF_int ?_ | refine leF_bool ?_ | exact zw1 | apply And.intro)
         exact zaw
       . repeat' (first | exact zw0 | refine leF_int ?_ | refine leF_bool ?_ | exact zw1 | apply And.intro)
     . refine Done.mk (leF_bool ?_)
       symm
       rw [decide_eq_true_eq]
       rw [List.take_of_length_le (by omega), List.take_of_length_le (by omega)] at h
       exact h
   . refine ⟨rfl, ?_, ?_⟩
     . repeat' (first | exact zw0 | refine leF_int ?_ | refine leF_bool ?_ | exact zw1 | apply And.intro)
     . repeat' (first | exact zw0 | refine leF_int ?_ | refine leF_bool ?_ | exact zw1 | apply And.intro)
 . have e : decide (a = b) = false := by rw [decide_eq_false_iff_not]; intro e; rw [e] at hab; exact hab rfl
   rw [e]
   refine pure_intro (wd := 1) (Q := mkQ LE0) (by decide) tysOk (q_of LE0_ok) mixed Try.func27 rfl _ (by show 2 <= _; decide) _ ?_
   repeat' (first | (apply And.intro <;> intro hc <;> (first | exact Bool.noConfusion hc | (simp only [zb0] at hc) | skip)) | (refine And.intro zp0 ?_) | (apply And.intro) | (intro s hs))
   all_goals first
    | exact Done.mk (leF_bool rfl)
    | (exfalso; omega)
abbrev sameE : Entry := pureE (AC.cons (cSl eB eB_sz) (AC.cons (cSl eB eB_sz) AC.nil)) (fun a => a.1.length <= 9223372036854775806) (fun a => decide (a.1 = a.2.1)) cB.enc
theorem sameE_ok : EntOk Try.prog 27 sameE := pureE_ok ⟨_, Try.func27, rfl, by kernel_rfl⟩ fun a h => same_ok a.1 a.2.1 h
theorem wf_u8 {n : Int} (h : (Lit.int .u8 n).wf = true) : 0 <= n /\ n < 256 := by
 simp [Lit.wf, IntKind.min, IntKind.max, IntKind.bits, IntKind.signed] at h
 omega
theorem rowB_rel {w : World} {a : Option Addr} {len cap : Nat} {zs : List Int} (h : IsRow .u8 w a len cap zs) :
 (FV.e (.c (CV.sl true len 1 (rowF eB zs)))).rel (fun _ => none) (fun _ => False) (fun _ => False) w (.slice a len cap) := by
 rcases h with ⟨rfl, rfl, rfl, rfl⟩ | ⟨ad, rfl, hl, hm, hz, hcell, hwz⟩
 . exact ⟨none, 0, rfl, Nat.le_refl _, fun h => absurd h (Nat.lt_irrefl _)⟩
 . refine ⟨some ad, cap, rfl, hl, fun h0 => ?_⟩
   have h1 := hcell 0 (by omega)
   rw [add_zero_] at h1
   have hsp : ad.spot = none := spot_none h1
   refine ⟨ad, rfl, hsp, fun h => h, fun _ h => h, cell_lt h1, fun i hi j hj => ?_⟩
   have : j = 0 := by omega
   subst this
   have h2 := hcell i (by omega)
   rw [addS hsp] at h2
   exact ⟨_, by rw [show i * 1 + 0 = i by omega]; exact h2, rfl⟩
theorem rowB_all {w : World} {a : Option Addr} {len cap : Nat} {zs : List Int} (h : IsRow .u8 w a len cap zs) : (∀ z ∈ zs, 0 <= z /\ z < 256) /\ len <= zs.length /\ len <= cap := by
 rcases h with ⟨rfl, rfl, rfl, rfl⟩ | ⟨ad, rfl, hl, hm, hz, hcell, hwz⟩
 . exact ⟨fun z hz => (by cases hz), Nat.le_refl _, Nat.le_refl _⟩
 . exact ⟨fun z hz => wf_u8 (hwz z hz), by omega, hl⟩
theorem rowB_cut {w : World} {a : Option Addr} {len cap : Nat} {zs : List Int} (h : IsRow .u8 w a len cap zs) :
 ∃ b : List Int, BL b /\ b.length = len /\ (FV.e (.c (CV.sl true b.length 1 (rowF eB b)))).rel (fun _ => none) (fun _ => False) (fun _ => False) w (.slice a len cap) := by
 obtain ⟨h1, h2, h3⟩ := rowB_all h
 have e : (zs.take len).length = len := by rw [List.length_take]; omega
 refine ⟨zs.take len, ⟨fun x hx => h1 x (List.mem_of_mem_take hx)⟩, e, ?_⟩
 rw [e]
 have hr := rowB_rel h
 obtain ⟨x, cap', hv, c1, c2⟩ := hr
 refine ⟨x, cap', hv, c1, fun h0 => ?_⟩
 obtain ⟨ad, g1, g2, g3, g4, g5, g6⟩ := c2 h0
 refine ⟨ad, g1, g2, g3, g4, g5, fun i hi j hj => ?_⟩
 obtain ⟨u, k1, k2⟩ := g6 i hi j hj
 refine ⟨u, k1, ?_⟩
 have e2 : rowF eB (zs.take len) i j = rowF eB zs i j := by
  unfold rowF
  rw [List.getD_eq_getElem?_getD, List.getD_eq_getElem?_getD, List.getElem?_take, if_pos hi]
 rw [e2]; exact k2
def normK : Hp -> List Nat -> Hp -> (Hp -> Prop) -> Prop
 | [], _, acc, k => k acc
 | (t, v) :: l, seen, acc, k => bif memN seen t then normK l seen acc k else normK l (t :: seen) ((t, v) :: acc) k
def killH (H : Hp) : Hp := H.map fun p => (p.1, none)
theorem memN_iff {l : List Nat} {t : Nat} : memN l t = true ↔ t ∈ l := by
 constructor
 . intro h
   obtain ⟨x, hx, hb⟩ := List.any_eq_true.1 h
   rw [Nat.eq_of_beq_eq_true hb]; exact hx
 . exact memN_of
def normL : Hp -> List Nat -> Hp -> Hp
 | [], _, acc => acc
 | (t, v) :: l, seen, acc => bif memN seen t then normL l seen acc else normL l (t :: seen) ((t, v) :: acc)
theorem normK_L : ∀ (l : Hp) (seen : List Nat) (acc : Hp) (k : Hp -> Prop), normK l seen acc k = k (normL l seen acc) := by
 intro l
 induction l with
 | nil => intro seen acc k; rfl
 | cons p l ih =>
   intro seen acc k
   obtain ⟨t0, v⟩ := p
   unfold normK normL
   cases memN seen t0 with
   | true => exact ih _ _ _
   | false => exact ih _ _ _
theorem normL_eq : ∀ (l : Hp) (seen : List Nat) (acc : Hp), (∀ t, t ∈ seen ↔ hasKey acc t = true) ->
 (∀ t, hasKey (normL l seen acc) t = (hasKey acc t || hasKey l t)) /\ ∀ t, look none (normL l seen acc) t = look none (acc ++ l) t := by
 intro l
 induction l with
 | nil => intro seen acc _; exact ⟨fun t => by simp [hasKey, normL], fun t => by simp [normL]⟩
 | cons p l ih =>
   intro seen acc hs
   obtain ⟨t0, v⟩ := p
   cases hb : memN seen t0 with
   | true =>
     obtain ⟨h2, h3⟩ := ih seen acc hs
     have hk : hasKey acc t0 = true := (hs t0).1 (memN_iff.1 hb)
     have hL : normL ((t0, v) :: l) seen acc = normL l seen acc := by show (bif memN seen t0 then _ else _) = _; rw [hb]; rfl
     rw [hL]
     refine ⟨fun t => ?_, fun t => ?_⟩
     . rw [h2 t, hasKey_cons]
       by_cases ht : t0 = t
       . subst ht; rw [hk]; simp
       . have : Nat.beq t0 t = false := by
          cases h : Nat.beq t0 t with
          | false => rfl
          | true => exact absurd (Nat.eq_of_beq_eq_true h) ht
         rw [this]; simp
     . rw [h3 t, look_append, look_append]
       cases hkt : hasKey acc t with
       | true => rfl
       | false =>
         have ht : t ≠ t0 := fun h => by subst h; rw [hk] at hkt; cases hkt
         rw [cond_false, cond_false]
         exact (look_cons_ne _ _ _ ht).symm
   | false =>
     have hk : hasKey acc t0 = false := by
      cases h : hasKey acc t0 with
      | false => rfl
      | true => have := memN_iff.2 ((hs t0).2 h); rw [hb] at this; cases this
     have hL : normL ((t0, v) :: l) seen acc = normL l (t0 :: seen) ((t0, v) :: acc) := by show (bif memN seen t0 then _ else _) = _; rw [hb]; rfl
     rw [hL]
     obtain ⟨h2, h3⟩ := ih (t0 :: seen) ((t0, v) :: acc) (fun t => by
      rw [hasKey_cons, List.mem_cons, hs t, Bool.or_eq_true]
      constructor
      . rintro (rfl | h)
        . exact .inl (by simp)
        . exact .inr h
      . rintro (h | h)
        . exact .inl (Nat.eq_of_beq_eq_true h).symm
        . exact .inr h)
     refine ⟨fun t => ?_, fun t => ?_⟩
     . rw [h2 t, hasKey_cons, hasKey_cons]
       cases Nat.beq t0 t <;> cases hasKey acc t <;> rfl
     . rw [h3 t]
       show look none (((t0, v) :: acc) ++ l) t = look none (acc ++ (t0, v) :: l) t
       rw [look_append, look_append, hasKey_cons]
       by_cases ht : t = t0
       . subst ht
         rw [hk, show Nat.beq t t = true by simp, Bool.true_or, cond_true, cond_false, look_cons_eq, look_cons_eq]
       . have e1 : Nat.beq t0 t = false := by
          cases h : Nat.beq t0 t with
          | false => rfl
          | true => exact absurd (Nat.eq_of_beq_eq_true h).symm ht
         rw [e1, Bool.false_or, look_cons_ne _ _ _ ht, look_cons_ne _ _ _ ht]
def inEnd (H Hf : Hp) (nf top : Nat) (k : Hp -> Prop) : Prop := Nat.ble nf top = true /\ normK (Hf ++ killH H) [] [] k
theorem inEnd_eq {H Hf : Hp} {nf top : Nat} {k : Hp -> Prop} (h : inEnd H Hf nf top k) : nf <= top /\ ∃ L, k L /\ ∀ t, hget (L ++ H) t = hget Hf t := by
 refine ⟨Nat.le_of_ble_eq_true h.1, ?_⟩
 obtain ⟨h2, h3⟩ := normL_eq (Hf ++ killH H) [] [] (fun t => by simp [hasKey])
 refine ⟨normL (Hf ++ killH H) [] [], by have := h.2; rw [normK_L] at this; exact this, fun t => ?_⟩
 have hkill : ∀ (H : Hp) t, hasKey (killH H) t = hasKey H t := fun H t => by
  unfold hasKey killH
  rw [List.any_map]; rfl
 have hnone : ∀ (H : Hp) t, look none (killH H) t = none := by
  intro H
  induction H with
  | nil => intro t; rfl
  | cons p H ih =>
    intro t
    show (bif Nat.beq t p.1 then none else look none (killH H) t) = none
    cases Nat.beq t p.1 with
    | true => rfl
    | false => exact ih t
 show look none (normL (Hf ++ killH H) [] [] ++ H) t = look none Hf t
 rw [look_append, h2 t, h3 t]
 have e0 : hasKey ([] : Hp) t = false := rfl
 have e1 : hasKey (Hf ++ killH H) t = (hasKey Hf t || hasKey H t) := by
  unfold hasKey; rw [List.any_append]; exact congrArg (_ || ·) (hkill H t)
 rw [e0, e1, Bool.false_or, List.nil_append, look_append]
 cases h4 : hasKey Hf t with
 | true => rfl
 | false =>
   have look_no : ∀ (H : Hp), hasKey H t = false -> look none H t = none := by
    intro H
    induction H with
    | nil => intro _; rfl
    | cons p H ih =>
      obtain ⟨k, v⟩ := p
      intro h
      rw [hasKey_cons] at h
      simp only [Bool.or_eq_false_iff] at h
      have : Nat.beq t k = false := by rw [beq_comm']; exact h.1
      show (bif Nat.beq t k then v else look none H t) = none
      rw [this]; exact ih h.2
   rw [cond_false, Bool.false_or, hnone, look_no Hf h4]
   cases h5 : hasKey H t with
   | true => rfl
   | false => rw [cond_false, look_no H h5]
def inlE (T : Tys) (Q : Qs) (wi nt : Nat) (rv : List ResultVar) (c : Code) : Entry := fun args H nm wd => some fun K =>
 Nat.ble args.length nt = true /\ exec T Q wi nt nm c (argFr args 0) H nm (endH T rv fun x Hf nf => inEnd H Hf nf (nm + wd) fun e => K x e [ALLN])
theorem endH_mono {T : Tys} {rv : List ResultVar} {p p' : FV -> Hp -> Nat -> Prop} (h : ∀ x H n, p x H n -> p' x H n) : ∀ e fr H nx, endH T rv p e fr H nx -> endH T rv p' e fr H nx := by
 intro e fr H nx hp
 cases e with
 | ret =>
   simp only [endH] at hp ⊢
   split at hp
   . exact h _ _ _ hp
   . exact hp.elim
 | normal =>
   simp only [endH] at hp ⊢
   split at hp
   . exact h _ _ _ hp
   . exact hp.elim
 | exit => exact hp.elim
 | goto => exact hp.elim
 | panic => exact hp.elim
 | outgrown => exact hp.elim
theorem gl_in {cx : Cx} {r : Ren} {H : Hp} {w : World} (st : St cx r H w) : GlobOk (fun b => cx.X b \/ (∃ k x, r k = some x /\ x.b = b) \/ wr r H b) w := fun p hp => by
 obtain ⟨h1, h2, h3⟩ := (st_xw st).2 p hp
 refine ⟨h1, ?_, h3⟩
 rintro (h | ⟨k, x, hk, hb⟩ | h)
 . exact h2 (.inl h)
 . obtain ⟨g1, g2, _⟩ := st.xlt.gl p hp
   rcases (st.dom k x hk).2.1 with hd | hd
   . omega
   . exact g2 (.inr (.inl (by rw [<- hb]; exact hd)))
 . exact h2 (.inr h)
theorem inlE_ok {P : Program} {T : Tys} {Q : Qs} {wi : Nat} (hwi : 0 < wi) (hT : TysOk P T) (hQ : QsOk P Q) (hM : QsMono Q) (hm : P.follows .mixedOrders = true) {f : FuncId} {fn : Func} {c : Code} (hf : P.funcs[f]? = some fn) (hb : fn.body = some c) (hnm : (fn.name == "runtime.NumGoroutine") = false) : EntOk P f (inlE T Q wi fn.ntmps fn.results.toList c) := by
 refine ⟨fun args H nm wd q hwd hq K hK => ?_, fun args H nm wd q hq K K' hKK hK => ?_⟩
 . injection hq with hq
   subst hq
   obtain ⟨hn, hK⟩ := hK
   have hn := Nat.le_of_ble_eq_true hn
   obtain ⟨⟨x, Hf, nf⟩, hend, hex⟩ := exec_some (α := FV × Hp × Nat) (post := fun a x H n => x = a.1 /\ H = a.2.1 /\ n = a.2.2) (S := fun a => inEnd H a.2.1 a.2.2 (nm + wd) fun e => K a.1 e [ALLN]) hwi hQ
    (exec_mono hM c _ _ (endH_mono fun x Hf nf h => ⟨(x, Hf, nf), h, rfl, rfl, rfl⟩) _ _ _ hK)
   obtain ⟨hle, L, hKL, hL⟩ := inEnd_eq hend
   refine ⟨x, L, [ALLN], ⟨⟨fn, hf, by rw [hb]; rfl, hnm⟩, fun H' hh cx r w vals st hfr hw hrel => ?_⟩, hKL⟩
   obtain ⟨w1, w2⟩ := hw (List.mem_singleton.2 rfl)
   have w1' : ∀ k, hget H' k = hget H k := fun k => (w1 k).symm
   have st := st.congr w1'
   rw [wr_congr (r := r) w1'] at hrel
   have w3 : ∀ k, nm <= k -> r k = none /\ hget H k = none := fun k hk => ⟨(w2 k hk).1, by rw [w1]; exact (w2 k hk).2⟩
   have hG := gl_in st
   refine (fn_run (np := nm) (cx := ⟨w, fun b => ∃ k x, r k = some x /\ x.b = b, wr r H, cx.X, fun k => if k < nm then r k else none⟩) hwi hT (QR_ok P) hm hf hb hn hex (fun k b hk => ?_)
    ⟨rfl, rfl, rfl, Nat.le_refl _, fun _ _ _ => rfl, ⟨fun b hb => Nat.lt_of_lt_of_le (st.xlt.lt b hb) st.size, hG⟩, fun k x hk => ⟨(st.dom k x hk).1, .inr ⟨k, x, hk, rfl⟩, (st.dom k x hk).2.2⟩, fun k e x he hx => .inr ⟨k, e, x, he, hx, rfl⟩, st.inj, fun k b hk => ?_, st.blk⟩ hrel w3).mono fun e w' he => ?_
   . by_cases h : k < nm
     . exact h
     . have hk' : (if k < nm then r k else none) = some b := hk
       rw [if_neg h] at hk'; cases hk'
   . by_cases h : k < nm
     . have hk' : (if k < nm then r k else none) = some b := hk
       rw [if_pos h] at hk'; exact hk'
     . have hk' : (if k < nm then r k else none) = some b := hk
       rw [if_neg h] at hk'; cases hk'
   . obtain ⟨v, r', x', Hf', nf', rfl, ⟨e1, e2, e3⟩, st', hn', hx, hlow⟩ := he
     dsimp only at e1 e2 e3
     rw [e2] at st' hx
     rw [e1] at hx
     rw [e2, e3] at hn'
     clear e1 e2 e3
     have hG : ∀ t, hget (L ++ H') t = hget Hf t := fun t => by
      rw [<- hL t]
      show look none (L ++ H') t = look none (L ++ H) t
      rw [look_append, look_append]
      cases hasKey L t with
      | true => rfl
      | false => exact w1' t
     have hle2 : ∀ k, nm + wd <= k -> r' k = none /\ hget Hf k = none := fun k hk => hn' k (Nat.le_trans hle hk)
     have stF : St cx r' Hf w' := by
      refine ⟨st'.os.trans st.os, st'.tape.trans st.tape, st'.output.trans st.output, Nat.le_trans st.size st'.size, fun b hb hE => ?_, st.xlt, fun k y hk => ?_, fun k e y he hy => ?_, st'.inj, fun k b hk => ?_, st'.blk⟩
      . rw [<- st.kept b hb hE]
        refine st'.kept b (Nat.lt_of_lt_of_le hb st.size) ?_
        rintro ⟨k, e, y, he, hy, rfl⟩
        rcases st.ow k e y he hy with h | h
        . omega
        . exact hE h
      . obtain ⟨d1, d2, d3⟩ := st'.dom k y hk
        refine ⟨d1, ?_, d3⟩
        rcases d2 with d2 | ⟨k0, x0, d4, d5⟩
        . exact .inl (Nat.le_trans st.size d2)
        . rw [<- d5]; exact (st.dom k0 x0 d4).2.1
      . rcases st'.ow k e y he hy with h | ⟨k0, e0, x0, h1, h2, h3⟩
        . exact .inl (Nat.le_trans st.size h)
        . rw [<- h3]; exact st.ow k0 e0 x0 h1 h2
      . have hr := st.pin k b hk
        have : k < nm := by
         rcases Nat.lt_or_ge k nm with h | h
         . exact h
         . rw [(w3 k h).1] at hr; cases hr
        rw [hlow k this]; exact hr
     have hwr : wr r' (L ++ H') = wr r' Hf := wr_congr hG
     have hwr0 : wr r H' = wr r H := wr_congr w1'
     refine ⟨v, rfl, r', ⟨fun k b hk => ?_, st'.size, fun b hb hW => st'.kept b hb (by rw [<- hwr0]; exact hW), fun b hb hW => ?_⟩, stF.congr fun t => (hG t).symm, fun k hk => ?_, fun k e hk => ?_, by rw [hwr]; exact hx⟩
     . have : k < nm := by
        rcases Nat.lt_or_ge k nm with h | h
        . exact h
        . rw [(w3 k h).1] at hk; cases hk
       rw [hlow k this]; exact hk
     . rw [hwr] at hW
       rw [hwr0]
       obtain ⟨k, e, y, he, hy, rfl⟩ := hW
       rcases st'.ow k e y he hy with h | h
       . have : w.heap.size <= y.b := h
         omega
       . exact h
     . rcases hk with hk | hk
       . exact hlow k hk
       . rw [(hle2 k hk).1, (w3 k (by omega)).1]
     . refine .inl ⟨.inr (List.mem_singleton.2 rfl), ?_⟩
       rcases Nat.lt_or_ge k (nm + wd) with h | h
       . exact h
       . have hk' : hget (L ++ H') k = some e := hk
         rw [hG k, (hle2 k h).2] at hk'; cases hk'
 . injection hq with hq
   subst hq
   refine ⟨hK.1, exec_mono hM c _ _ (endH_mono fun x Hf nf h => ⟨h.1, ?_⟩) _ _ _ hK.2⟩
   have h2 := h.2
   rw [normK_L] at h2 ⊢
   exact hKK _ _ _ h2
def FlatF (x : FV) : Prop := ∀ r r' X X' W W' w w' v, x.rel r X W w v -> x.rel r' X' W' w' v
def FlatE (x : EV) : Prop := ∀ r r' X X' W W' w w' v, x.rel r X W w v -> x.rel r' X' W' w' v
theorem flatE_c {x : CV} (h : FlatC x) : FlatE (.c x) := fun r r' X X' W W' w w' v hv => h r r' X X' W W' w w' v hv
theorem flatE_agg {n : Nat} {g : Nat -> CV} (h : ∀ i, FlatC (g i)) : FlatE (.agg n g) := by
 rintro r r' X X' W W' w w' v ⟨cs, rfl, h1, h2⟩
 exact ⟨cs, rfl, h1, fun i u hu => h i _ _ _ _ _ _ _ _ _ (h2 i u hu)⟩
theorem flatF_e {x : EV} (h : FlatE x) : FlatF (.e x) := h
theorem flatF_tup {l : List EV} (h : ∀ x ∈ l, FlatE x) : FlatF (.tup l) := by
 rintro r r' X X' W W' w w' v ⟨vs, rfl, h1, h2⟩
 exact ⟨vs, rfl, h1, fun i x u hx hu => h x (List.mem_of_getElem? hx) _ _ _ _ _ _ _ _ _ (h2 i x u hx hu)⟩
theorem flatF_nff {x : FV} (h : FlatF x) : NFF x := fun r r' X W w v hv => h r r' X X W W w w v hv
theorem callR_rd {P : Program} {f : FuncId} (hb : hasBody P f) {k : Nat} {s : Bool} {rest rest' : List FV} {H : Hp} {rd : List Nat} {nm wd : Nat} {e eT eT' e' : Ent} {val : FV} (hk : hget H k = some e) (hv : e.v = true) (hkr : k ∉ rd)
 (hin : ∀ r X W w o hp X' W', (∀ b, X' b -> W b) -> (∀ b, W' b -> W b) -> EntIn r X W w e o hp -> EntIn (fun _ => none) X' W' w eT o hp)
 (hout : ∀ r X X2 W W' w o hp, (∀ b, W b -> W' b) -> EntIn (fun _ => none) X W' w eT' o hp -> EntIn r X2 W w e' o hp) (hfl : FlatF val)
 (hbo : ∀ H', (∀ k ∈ rd, hget H k = hget H' k) -> BoL H' rd rest rest') (h : MethOk P f rest' eT val eT') : CallR P f (.e (.c (.ptr k 0 0 s)) :: rest) H nm wd ⟨none, val, [(k, some e')], k :: rd⟩ := by
 refine ⟨hb, fun H' hh cx r w vals st hfr _ hrel => ?_⟩
 obtain ⟨h1, h2⟩ := hbo H' (fun k hk => hh k (List.mem_cons_of_mem _ hk))
 have hk' : hget H' k = some e := by rw [<- hh k (List.mem_cons_self ..)]; exact hk
 have hblk := st.blk k e hk'
 obtain ⟨g1, g2, g3⟩ := hblk
 rcases g3 with ⟨_, g4⟩ | ⟨x, cs, c1, c2, c3, c4, c5, c6⟩ | ⟨hfit, _⟩
 . have := g2 hv; omega
 . obtain ⟨d1, d2, d3⟩ := st.dom k x c1
   have hXx : ¬ (wrBut r H' [k] x.b) := by
    rintro ⟨k2, e2, y, he2, hy, hyb, hne⟩
    have := st.inj k2 k e2 e y x he2 hk' hy c1 hyb
    exact hne (by rw [this]; exact List.mem_singleton.2 rfl)
   have hsubX : ∀ b, wrBut r H' [k] b -> wr r H' b := by
    rintro b ⟨k2, e2, y, he2, hy, hyb, _⟩
    exact ⟨k2, e2, y, he2, hy, hyb⟩
   have hsubW : ∀ b, b = x.b -> wr r H' b := fun b hb => ⟨k, e, x, hk', c1, hb.symm⟩
   have hXlt : Xw (fun b => wrBut r H' [k] b \/ b = x.b) w := xw_more (st_xw st) fun b hb => .inr (hb.elim (hsubX b) (hsubW b))
   refine (h (fun b => wrBut r H' [k] b) w x vals d1 hXx hXlt ?_ ⟨by rw [hrel.1]; simp [h1], fun i y u hy hu => ?_⟩).mono fun en w' he => ?_
   . exact hin r cx.X (wr r H') w (some x) w.heap _ _ hsubX hsubW ⟨g1, g2, .inr (.inl ⟨x, cs, rfl, c2, c3, c4, c5, c6⟩)⟩
   . cases i with
     | zero =>
       simp only [List.getElem?_cons_zero, Option.some.injEq] at hy
       subst hy
       obtain ⟨z, hz, hzv⟩ := hrel.2 0 _ u rfl hu
       have hz1 := hz.1
       rw [c1] at hz1; injection hz1 with hz1; subst hz1
       exact ⟨x, ⟨if_pos rfl, hz.2⟩, hzv⟩
     | succ i =>
       have hy' : rest'[i]? = some y := by simpa using hy
       have hi : i < rest.length := by rw [h1]; exact (List.getElem?_eq_some_iff.1 hy').1
       have h3 := h2 i _ y (List.getElem?_eq_getElem hi) hy' cx r w u st (hrel.2 (i + 1) _ u (by simp [List.getElem?_eq_getElem hi]) hu)
       have h4 : y.rel (at0 (some x)) (fun b => cx.X b \/ wr r H' b) (wrBut r H' rd) w u := FV.rel_ext ⟨fun _ _ h => (by cases h), Nat.le_refl _, fun _ _ _ => rfl, fun _ _ h => h⟩ _ _ h3
       have h5 : y.rel (at0 (some x)) (fun b => cx.X b \/ wr r H' b) (fun b => b = x.b) w u := FV.rel_w (fun b hb => ⟨k, e, x, hk', c1, hb.symm, hkr⟩) _ _ h4
       have hs : ∀ b, wrBut r H' [k] b -> (cx.X b \/ wr r H' b) \/ b = x.b := fun b hb => .inl (.inr (hsubX b hb))
       cases y with
       | top => trivial
       | e y =>
         cases y with
         | c y => exact CV.rel_sub hs (fun b hb => hb) _ _ h5
         | agg n g => obtain ⟨cs', e1, e2, e3⟩ := h5; exact ⟨cs', e1, e2, fun i u hu => CV.rel_sub hs (fun b hb => hb) _ _ (e3 i u hu)⟩
       | tup l =>
         obtain ⟨vs, e1, e2, e3⟩ := h5
         refine ⟨vs, e1, e2, fun i z u hz hu => ?_⟩
         have := e3 i z u hz hu
         cases z with
         | c z => exact CV.rel_sub hs (fun b hb => hb) _ _ this
         | agg n g => obtain ⟨cs', e1, e2, e3⟩ := this; exact ⟨cs', e1, e2, fun i u hu => CV.rel_sub hs (fun b hb => hb) _ _ (e3 i u hu)⟩
   . obtain ⟨v, rfl, o1, o2, o3, o4, o5, o6, o7⟩ := he
     have hY : ∀ b, wr r H' b -> orB (fun b => wrBut r H' [k] b) (some x) b := by
      rintro b ⟨k2, e2, y, he2, hy, hyb⟩
      by_cases hk2 : k2 = k
      . subst hk2; rw [c1] at hy; injection hy with hy; subst hy; exact .inr ⟨x, rfl, hyb⟩
      . exact .inl ⟨k2, e2, y, he2, hy, hyb, fun hm => hk2 (List.mem_singleton.1 hm)⟩
     have hl0 : hget ((k, some e') :: H') k = some e' := look_cons_eq _ _ _ _
     have hl : ∀ j, j ≠ k -> hget ((k, some e') :: H') j = hget H' j := fun j hj => look_cons_ne _ _ _ hj
     have live : ∀ j e1, hget ((k, some e') :: H') j = some e1 -> ∃ e2, hget H' j = some e2 := fun j e1 hj => by
      by_cases hjk : j = k
      . subst hjk; exact ⟨e, hk'⟩
      . rw [hl j hjk] at hj; exact ⟨e1, hj⟩
     have hwr2 : ∀ b, wr r ((k, some e') :: H') b -> wr r H' b := by
      rintro b ⟨j, e1, y, h1, h2, h3⟩
      obtain ⟨e2, h1⟩ := live j e1 h1
      exact ⟨j, e2, y, h1, h2, h3⟩
     have hE : Ext r (wr r H') w r (wr r ((k, some e') :: H')) w' := ⟨fun _ _ h => h, o4, fun b hb hw => o5 b hb fun hbx => hw ⟨k, e, x, hk', c1, hbx.symm⟩, fun b _ hb => hwr2 b hb⟩
     refine ⟨v, rfl, r, hE, ⟨o1.trans st.os, o2.trans st.tape, o3.trans st.output, Nat.le_trans st.size o4, fun b hb hne => ?_, st.xlt, fun j y hy => ?_, fun j e1 y hj hy => ?_, fun n m e1 e2 y z h1 h2 hy hz hyz => ?_, st.pin, fun j e1 hj => ?_⟩, fun _ _ => rfl, fun j e1 hj => .inr (live j e1 hj), ?_⟩
     . rw [<- st.kept b hb hne]
       refine o5 b (Nat.lt_of_lt_of_le hb st.size) fun hbx => ?_
       rcases st.ow k e x hk' c1 with h | h
       . omega
       . exact hne (hbx ▸ h)
     . obtain ⟨a1, a2, a3⟩ := st.dom j y hy
       exact ⟨Nat.lt_of_lt_of_le a1 o4, a2, a3⟩
     . obtain ⟨e2, hj⟩ := live j e1 hj
       exact st.ow j e2 y hj hy
     . obtain ⟨e1', h1⟩ := live n e1 h1
       obtain ⟨e2', h2⟩ := live m e2 h2
       exact st.inj n m e1' e2' y z h1 h2 hy hz hyz
     . have hj' : hget ((k, some e') :: H') j = some e1 := hj
       by_cases hjk : j = k
       . subst hjk
         rw [hl0] at hj'; injection hj' with hj'; subst hj'
         rw [c1]
         exact hout r _ cx.X (wr r ((j, some e') :: H')) _ w' (some x) w'.heap (fun b hb => hY b (hwr2 b hb)) o6
       . rw [hl j hjk] at hj'
         have hold := st.old hj' rfl (w' := w') fun y hy => o5 _ (st.dom j y hy).1 fun hyx => hjk (st.inj j k e1 e y x hj' hk' hy c1 hyx)
         exact hold.ext hE
     . exact hfl _ _ _ _ _ _ _ _ _ o7
 . have hf : e.v = false := hfit.1
   rw [hv] at hf; cases hf
theorem sl_in {sh : Bool} {n : Nat} {b : List Int} {r : Ren} {X W X' W' : Nat -> Prop} {w : World} {v : Value} (hX : ∀ b, X' b -> W b) (hW : ∀ b, W' b -> W b) (h : (CV.sl sh n 1 (rowF eB b)).rel r X W w v) : (CV.sl true n 1 (rowF eB b)).rel (fun _ => none) X' W' w v := by
 obtain ⟨a, cap, rfl, h1, h2⟩ := h
 refine ⟨a, cap, rfl, h1, fun h0 => ?_⟩
 obtain ⟨ad, rfl, hs, ho, hx, hlt, hc⟩ := h2 h0
 refine ⟨ad, rfl, hs, fun h => ho (hW _ h), fun _ h => ho (hX _ h), hlt, fun i hi j hj => ?_⟩
 obtain ⟨u, hu, hr⟩ := hc i hi j hj
 exact ⟨u, hu, (eB.flat _ _) _ _ _ _ _ _ _ _ _ hr⟩
theorem sl_out {n : Nat} {b : List Int} {r : Ren} {X X2 W W' : Nat -> Prop} {w : World} {v : Value} (hW : ∀ b, W b -> W' b) (h : (CV.sl true n 1 (rowF eB b)).rel (fun _ => none) X W' w v) : (CV.sl false n 1 (rowF eB b)).rel r X2 W w v := by
 obtain ⟨a, cap, rfl, h1, h2⟩ := h
 refine ⟨a, cap, rfl, h1, fun h0 => ?_⟩
 obtain ⟨ad, rfl, hs, ho, hx, hlt, hc⟩ := h2 h0
 refine ⟨ad, rfl, hs, fun h => ho (hW _ h), (fun h => by cases h), hlt, fun i hi j hj => ?_⟩
 obtain ⟨u, hu, hr⟩ := hc i hi j hj
 exact ⟨u, hu, (eB.flat _ _) _ _ _ _ _ _ _ _ _ hr⟩
theorem sl_keep {sh : Bool} {n : Nat} {b : List Int} : NF (.sl sh n 1 (rowF eB b)) := nf_sl fun i _ j _ => nf_int
theorem entIn_map {r r' : Ren} {X X' W W' : Nat -> Prop} {w : World} {e e' : Ent} {o : Option Bi} {hp : Array Obj} (ht : e.t = e'.t) (hn : e.n = e'.n) (hz : e.sz = e'.sz) (hv : e.v = e'.v) (hf : ∀ i, i < e.n -> ∀ j, j < e.sz -> ∀ u, (e.f i j).rel r X W w u -> (e'.f i j).rel r' X' W' w u) (h : EntIn r X W w e o hp) : EntIn r' X' W' w e' o hp := by
 exact h.map ht hn hz hv rfl (fun _ _ => rfl) hf
def rdN (sh : Bool) (b : List Int) (q : Int) : Ent := ⟨138, 1, 2, true, fun _ j => bif Nat.beq j 0 then .sl sh b.length 1 (rowF eB b) else .int .i64 q⟩
theorem rdN_nf {sh : Bool} {b : List Int} {q : Int} : ∀ i, i < (rdN sh b q).n -> ∀ j, j < (rdN sh b q).sz -> NF ((rdN sh b q).f i j) := by
 intro i _ j _
 show NF (bif Nat.beq j 0 then _ else _)
 cases Nat.beq j 0 with
 | true => exact sl_keep
 | false => exact nf_int
theorem meth_congr {P : Program} {fid : FuncId} {rest : List FV} {e e1 : Ent} {val : FV} {e' : Ent} (ht : e1.t = e.t) (hn : e1.n = e.n) (hz : e1.sz = e.sz) (hv : e1.v = e.v) (hf : ∀ i, i < e1.n -> ∀ j, j < e1.sz -> e1.f i j = e.f i j) (h : MethOk P fid rest e val e') : MethOk P fid rest e1 val e' := by
 intro X w x vals a1 a2 a3 hent hrel
 exact h X w x vals a1 a2 a3 (entIn_map ht hn hz hv (fun i hi j hj u hu => by rw [<- hf i hi j hj]; exact hu) hent) hrel
def rdE {α R : Type} (A : AC α) (p : List Int -> Int -> α -> Prop) (F : List Int -> Int -> α -> R × Int) (enc : R -> FV) : Entry := fun args H _ _ =>
 match args with
 | .e (.c (.ptr k 0 0 _)) :: rest =>
   match hget H k with
   | some ⟨t, en, es, v, g⟩ =>
     match g 0 0, g 0 1 with
     | .sl sh n s f, .int .i64 q =>
       match A.dec H rest with
       | some (a, pq, rd) => bif Nat.beq t 138 && Nat.beq en 1 && Nat.beq es 2 && v && Nat.beq s 1 && !(rd.any (Nat.beq k)) then
          some fun K => pAnd pq (∃ b : List Int, (n = b.length /\ f = rowF eB b /\ p b q a) /\ ∀ s, s = F b q a -> K (enc s.1) [(k, some (rdN sh b s.2))] (k :: rd)) else none
       | none => none
     | _, _ => none
   | none => none
 | _ => none
theorem j2 {i j : Nat} (hi : i < 1) (hj : j < 2) : i = 0 /\ (j = 0 \/ j = 1) := by omega
theorem rdE_ok {α R : Type} {A : AC α} {p : List Int -> Int -> α -> Prop} {F : List Int -> Int -> α -> R × Int} {enc : R -> FV} {P : Program} {f : FuncId} (hb : hasBody P f) (hfl : ∀ r, FlatF (enc r))
 (h : ∀ b q a, p b q a -> MethOk P f (A.enc a) (rdN true b q) (enc (F b q a).1) (rdN true b (F b q a).2)) : EntOk P f (rdE A p F enc) := by
 refine ⟨fun args H nm wd q _ hq K hK => ?_, fun args H nm wd q hq K K' hKK hK => ?_⟩
 . unfold rdE at hq
   split at hq
   . rename_i k s rest
     split at hq
     . rename_i t en es v g he
       split at hq
       . rename_i sh n s f q0 hg0 hg1
         split at hq
         . rename_i a pr rd hd
           obtain ⟨hc, hq⟩ := cond_some hq
           subst hq
           simp only [Bool.and_eq_true, Bool.not_eq_true'] at hc
           obtain ⟨⟨⟨⟨⟨c1, c2⟩, c3⟩, c4⟩, c5⟩, c6⟩ := hc
           have c1 := Nat.eq_of_beq_eq_true c1
           have c2 := Nat.eq_of_beq_eq_true c2
           have c3 := Nat.eq_of_beq_eq_true c3
           have c5 := Nat.eq_of_beq_eq_true c5
           subst c1 c2 c3 c4 c5
           have hkr : k ∉ rd := fun hm => by
            have : rd.any (Nat.beq k) = true := List.any_eq_true.2 ⟨k, hm, by simp⟩
            rw [c6] at this; cases this
           obtain ⟨h1, b, ⟨h2, h3, h4⟩, h5⟩ := pAnd_iff.1 hK
           subst h2 h3
           have hm := h b q0 a h4
           have hnf : ∀ i, i < 1 -> ∀ j, j < 2 -> NF (g i j) := fun i hi j hj => by
            obtain ⟨rfl, rfl | rfl⟩ := j2 hi hj
            . rw [hg0]; exact sl_keep
            . rw [hg1]; exact nf_int
           cases sh with
           | true =>
             refine ⟨_, _, _, callR_meth (e := ⟨138, 1, 2, true, g⟩) hb he rfl hkr hnf (fun H' hh => A.sound H H' rest a pr rd hd h1 hh) (meth_congr (e := rdN true b q0) rfl rfl rfl rfl (fun i hi j hj => ?_) hm) rfl, h5 _ rfl⟩
             obtain ⟨rfl, rfl | rfl⟩ := j2 hi hj
             . exact hg0
             . exact hg1
           | false =>
             refine ⟨_, _, _, callR_rd (e := ⟨138, 1, 2, true, g⟩) (eT := rdN true b q0) (eT' := rdN true b (F b q0 a).2) (e' := rdN false b (F b q0 a).2) hb he rfl hkr ?_ ?_ (hfl _) (fun H' hh => A.sound H H' rest a pr rd hd h1 hh) hm, h5 _ rfl⟩
             . intro r X W w o hp X' W' hX hW hE
               refine entIn_map (e := ⟨138, 1, 2, true, g⟩) (e' := rdN true b q0) rfl rfl rfl rfl (fun i hi j hj u hu => ?_) hE
               obtain ⟨rfl, rfl | rfl⟩ := j2 hi hj
               . have hu' : (CV.sl false b.length 1 (rowF eB b)).rel r X W w u := by rw [<- hg0]; exact hu
                 exact sl_in hX hW hu'
               . have hu' : (CV.int .i64 q0).rel r X W w u := by rw [<- hg1]; exact hu
                 exact hu'
             . intro r X X2 W W' w o hp hW hE
               refine entIn_map (e := rdN true b (F b q0 a).2) (e' := rdN false b (F b q0 a).2) rfl rfl rfl rfl (fun i hi j hj u hu => ?_) hE
               obtain ⟨rfl, rfl | rfl⟩ := j2 hi hj
               . exact sl_out hW hu
               . exact hu
         . cases hq
       . cases hq
     . cases hq
   . cases hq
 . unfold rdE at hq
   split at hq
   . split at hq
     . split at hq
       . split at hq
         . obtain ⟨hc, hq⟩ := cond_some hq
           subst hq
           obtain ⟨h1, b, h2, h3⟩ := pAnd_iff.1 hK
           exact pAnd_iff.2 ⟨h1, b, h2, fun s hs => hKK _ _ _ (h3 s hs)⟩
         . cases hq
       . cases hq
     . cases hq
   . cases hq
theorem rdN_le {c : Wc} {b : List Int} {q q' : Int} (h : q = q') : LeN c (rdN true b q) (rdN true b q') :=
 leN_var ⟨⟨trivial, leC_sl (fun _ => rfl) rfl rfl fun i _ j _ => leC_cell rfl⟩, leC_int h⟩
end Go.Proofs.Ytjknkfjhcapocaa.AX
namespace Go.Proofs.Ytjknkfjhcapocaa.AX
structure Ctx where
 id : Int
 ip : Fin 16 -> Int
 bits : Int
 comp : Bool
 til : Int
instance : Inhabited Ctx := ⟨⟨0, fun _ => 0, 0, false, 0⟩⟩
structure Pfx where
 ip : Fin 16 -> Int
 bits : Int
def eCtxC (x : Ctx) (j : Nat) : CV := bif Nat.beq j 0 then .int .i64 x.id else bif Nat.blt j 17 then .int .u8 (vget x.ip (j - 1)) else bif Nat.beq j 17 then .int .i64 x.bits else bif Nat.beq j 18 then .bool x.comp else (.int .i64 x.til)
def eCtx : Elem Ctx where
 sz := 20
 cell := eCtxC
 rd g := ⟨valI (g 0), fun q => valI (g (1 + q.1)), valI (g 17), valB (g 18), valI (g 19)⟩
 ok g := isK .i64 (g 0) && okA .u8 g 1 16 && isK .i64 (g 17) && isB (g 18) && isK .i64 (g 19)
 ok_eq g h j hj := by
  simp only [Bool.and_eq_true] at h
  unfold eCtxC
  by_cases c0 : j < 1
  . have e : j = 0 := by omega
    subst e
    exact isK_eq h.1.1.1.1
  by_cases c1 : j < 17
  . have e := okA_at h.1.1.1.2 (j - 1) (by omega)
    rw [show 1 + (j - 1) = j by omega] at e
    have b0 : Nat.beq j 0 = false := by cases hb : Nat.beq j 0 with | false => rfl | true => have := Nat.eq_of_beq_eq_true hb; omega
    rw [b0, cond_false, show Nat.blt j 17 = true from Nat.ble_eq_true_of_le c1, cond_true]
    rw [show vget (fun q : Fin 16 => valI (g (1 + q.1))) (j - 1) = valI (g (1 + (j - 1))) from vget_lt _ (by omega)]
    rw [show 1 + (j - 1) = j by omega]
    exact e
  by_cases c2 : j < 18
  . have e : j = 17 := by omega
    subst e
    exact isK_eq h.1.1.2
  by_cases c3 : j < 19
  . have e : j = 18 := by omega
    subst e
    exact isB_eq h.1.2
  by_cases c4 : j < 20
  . have e : j = 19 := by omega
    subst e
    exact isK_eq h.2
  omega
 flat a j := by
  unfold eCtxC
  cases Nat.beq j 0 with
  | true => exact flat_int
  | false =>
  cases Nat.blt j 17 with
  | true => exact flat_int
  | false =>
  cases Nat.beq j 17 with
  | true => exact flat_int
  | false =>
  cases Nat.beq j 18 with
  | true => exact flat_bool
  | false =>
  exact flat_int
theorem eCtx_sz : 0 < eCtx.sz := by decide
theorem eCtx_ip_at (x : Ctx) (q : Nat) (h : q < 16) : eCtx.cell x (1 + q) = .int .u8 (vget x.ip q) := by
 show eCtxC x (1 + q) = _
 unfold eCtxC
 rw [show Nat.beq (1 + q) 0 = false from by cases hb : Nat.beq (1 + q) 0 with | false => rfl | true => have := Nat.eq_of_beq_eq_true hb; omega, cond_false]
 rw [show Nat.blt (1 + q) 17 = true from Nat.ble_eq_true_of_le (by omega), cond_true]
 rw [show 1 + q - 1 = q by omega]
theorem eCtx_ip (x : Ctx) : (fun q : Fin 16 => valI (eCtx.cell x (1 + q.1))) = x.ip := by
 funext q
 rw [eCtx_ip_at x q.1 q.2]
 exact vget_lt _ q.2
theorem eCtx_rd (x : Ctx) : eCtx.rd (eCtx.cell x) = x := by
 show (⟨x.id, fun q => valI (eCtx.cell x (1 + q.1)), x.bits, x.comp, x.til⟩ : Ctx) = x
 rw [eCtx_ip]
def ePfxC (x : Pfx) (j : Nat) : CV := bif Nat.blt j 16 then .int .u8 (vget x.ip (j - 0)) else (.int .i64 x.bits)
def ePfx : Elem Pfx where
 sz := 17
 cell := ePfxC
 rd g := ⟨fun q => valI (g (0 + q.1)), valI (g 16)⟩
 ok g := okA .u8 g 0 16 && isK .i64 (g 16)
 ok_eq g h j hj := by
  simp only [Bool.and_eq_true] at h
  unfold ePfxC
  by_cases c0 : j < 16
  . have e := okA_at h.1 (j - 0) (by omega)
    rw [show 0 + (j - 0) = j by omega] at e
    rw [show Nat.blt j 16 = true from Nat.ble_eq_true_of_le c0, cond_true]
    rw [show vget (fun q : Fin 16 => valI (g (0 + q.1))) (j - 0) = valI (g (0 + (j - 0))) from vget_lt _ (by omega)]
    rw [show 0 + (j - 0) = j by omega]
    exact e
  by_cases c1 : j < 17
  . have e : j = 16 := by omega
    subst e
    exact isK_eq h.2
  omega
 flat a j := by
  unfold ePfxC
  cases Nat.blt j 16 with
  | true => exact flat_int
  | false =>
  exact flat_int
theorem ePfx_ip_at (x : Pfx) (q : Nat) (h : q < 16) : ePfx.cell x (0 + q) = .int .u8 (vget x.ip q) := by
 show ePfxC x (0 + q) = _
 unfold ePfxC
 rw [show Nat.blt (0 + q) 16 = true from Nat.ble_eq_true_of_le (by omega), cond_true]
 rw [show 0 + q - 0 = q by omega]
theorem ePfx_ip (x : Pfx) : (fun q : Fin 16 => valI (ePfx.cell x (0 + q.1))) = x.ip := by
 funext q
 rw [ePfx_ip_at x q.1 q.2]
 exact vget_lt _ q.2
theorem ePfx_rd (x : Pfx) : ePfx.rd (ePfx.cell x) = x := by
 show (⟨fun q => valI (ePfx.cell x (0 + q.1)), x.bits⟩ : Pfx) = x
 rw [ePfx_ip]
def vt (t : Int) : Bool := decide (0 <= t) && decide (t <= 1099511627776)
theorem vt_ok (t : Int) : PureOk Try.prog 140 [(cI .i64).enc t] (cB.enc (vt t)) := by
 refine pure_intro (wd := 1) (Q := mkQ LE0) (by decide) tysOk (q_of LE0_ok) mixed Try.func140 rfl _ (by show 1 <= _; decide) _ ?_
 repeat' (first | (apply And.intro <;> intro hc <;> (first | exact Bool.noConfusion hc | (simp only [zb0] at hc) | skip)) | (refine And.intro zp0 ?_) | (apply And.intro) | (intro s hs))
 all_goals (refine Done.mk (leF_bool ?_); simp [vt, *])
def compr (c : Ctx) (now : Int) : Bool := c.comp && decide (now < c.til)
theorem compr_ok (c : Ctx) (now : Int) : PureOk Try.prog 148 [(cE eCtx).enc c, (cI .i64).enc now] (cB.enc (compr c now)) := by
 refine pure_intro (wd := 1) (Q := mkQ LE0) (by decide) tysOk (q_of LE0_ok) mixed Try.func148 rfl _ (by show 2 <= _; decide) _ ?_
 repeat' (first | (apply And.intro <;> intro hc <;> (first | exact Bool.noConfusion hc | (simp only [zb0] at hc) | skip)) | (refine And.intro zp0 ?_) | (apply And.intro) | (intro s hs))
 all_goals (refine Done.mk (leF_bool ?_); simp [compr, *])
def decom (c : Ctx) (now : Int) : Bool := decide (now < IntKind.i64.wrap (c.til + 32))
theorem decom_ok (c : Ctx) (now : Int) : PureOk Try.prog 141 [(cE eCtx).enc c, (cI .i64).enc now] (cB.enc (decom c now)) := by
 refine pure_intro (wd := 1) (Q := mkQ LE0) (by decide) tysOk (q_of LE0_ok) mixed Try.func141 rfl _ (by show 2 <= _; decide) _ ?_
 repeat' (first | (apply And.intro <;> intro hc <;> (first | exact Bool.noConfusion hc | (simp only [zb0] at hc) | skip)) | (refine And.intro zp0 ?_) | (apply And.intro) | (intro s hs))
 all_goals (refine Done.mk (leF_bool ?_); simp [decom, *])
def clampI (b lo hi : Int) : Int := if hi < (if b < lo then lo else b) then hi else (if b < lo then lo else b)
def keepAt (b : Int) (i : Nat) : Int := clampI (b - 8 * i) 0 8
def maskB (a : Fin 16 -> Int) (b : Int) (i : Nat) : Int := bits .andNot .u8 (vget a i) (shrI .u8 255 (keepAt b i))
def maskP (a : Fin 16 -> Int) (b : Int) : Pfx := ⟨fun q => maskB a (clampI b 0 128) q.1, clampI b 0 128⟩
def maskS (a : Fin 16 -> Int) (b : Int) (i : Nat) (j : Nat) : CV := bif Nat.blt j 16 then .int .u8 (if j < i then maskB a b j else 0) else .int .i64 b
theorem upd_step (i j : Nat) (v : Int) (m : Nat -> Int) (h : v = m i) : (bif Nat.ble (0 + i * 1) j && Nat.blt j (0 + i * 1 + 1) then v else (if j < i then m j else 0)) = if j < i + 1 then m j else 0 := by
 rw [Nat.mul_one, Nat.zero_add]
 by_cases h1 : j = i
 . subst h1
   have : (Nat.ble j j && Nat.blt j (j + 1)) = true := by simp [Nat.blt]
   rw [this, cond_true, if_pos (by omega), h]
 . have : (Nat.ble i j && Nat.blt j (i + 1)) = false := by
    cases hb : (Nat.ble i j && Nat.blt j (i + 1)) with
    | false => rfl
    | true =>
      simp only [Bool.and_eq_true] at hb
      have := Nat.le_of_ble_eq_true hb.1
      have := Nat.le_of_ble_eq_true hb.2
      omega
   rw [this, cond_false]
   by_cases h2 : j < i
   . rw [if_pos h2, if_pos (by omega)]
   . rw [if_neg h2, if_neg (by omega)]
theorem clampI_in (b : Int) {lo hi : Int} (h : lo <= hi) : lo <= clampI b lo hi /\ clampI b lo hi <= hi := by unfold clampI; split <;> split <;> omega
theorem mask_ok (a : Fin 16 -> Int) (b : Int) : PureOk Try.prog 149 [(cE (eA .u8 16)).enc a, (cI .i64).enc b] ((cE ePfx).enc (maskP a b)) := by
 have hb := clampI_in b (lo := 0) (hi := 128) (by omega)
 refine pure_intro (wd := 1) (Q := mkQ LE0) (by decide) tysOk (q_of LE0_ok) mixed Try.func149 rfl _ (by show 2 <= _; decide) _ ?_
 refine loop_intro (mono_of LE0_ok) (fun i : {i : Nat // i <= 16} => (⟨[(2, one (.ptr 0 0 0 false)), (4, one (.ptr 1 0 0 false)), (5, one (.ptr 6 0 0 false)), (12, one (.int .i64 (i.1 : Int)))],
  [(0, some ⟨24, 1, 16, true, fun _ => (eA .u8 16).cell a⟩), (1, some ⟨73, 1, 17, true, fun _ _ => .top⟩), (6, some ⟨73, 1, 17, true, fun _ => maskS a (clampI b 0 128) i.1⟩)], 9⟩ : Hd)) (fun i => 16 - i.1) (fun _ => rfl) ?_ ⟨0, by omega⟩ [] ?_
 . rintro ⟨i, hi⟩
   dsimp only
   have hv : bits .andNot .u8 (vget a (0 + (i : Int).toNat * 1 + 0)) (shrI .u8 255 (clampI (IntKind.i64.wrap (clampI b 0 128 - IntKind.i64.wrap (8 * (i : Int)))) 0 8)) = maskB a (clampI b 0 128) i := by
    have h1 : IntKind.i64.wrap (8 * (i : Int)) = 8 * i := IntWalk.i64_in _ (by omega)
    have h2 : IntKind.i64.wrap (clampI b 0 128 - 8 * (i : Int)) = clampI b 0 128 - 8 * i := IntWalk.i64_in _ (by omega)
    simp [maskB, keepAt, h1, h2]
   repeat' (first | (apply And.intro <;> intro hc <;> (first | exact Bool.noConfusion hc | (simp only [zb0] at hc) | skip)) | (refine And.intro zp0 ?_) | (apply And.intro) | (intro s hs))
   . refine ⟨⟨i + 1, by omega⟩, [], by dsimp only; omega, rfl, ?_, ?_⟩
     . repeat' (first | exact zw0 | refine leF_int ?_ | refine leF_bool ?_ | exact zw1 | apply And.intro)
       exact zaw
     . repeat' (first | exact zw0 | refine leF_int ?_ | refine leF_bool ?_ | exact zw1 | apply And.intro)
       refine leN_var ?_
       repeat' (first | exact trivial | exact leC_int (upd_step i _ _ _ hv) | exact leC_int rfl | apply And.intro)
       refine cond_out (b := Nat.ble (0 + (i : Int).toNat * 1) 16 && Nat.blt 16 (0 + (i : Int).toNat * 1 + 1)) (y := .int .i64 (clampI b 0 128)) (z := .int .i64 (clampI b 0 128)) ?_ ?_
       . refine rng_out (i := 0 + (i : Int).toNat * 1) (j := 16) (n := 1) ?_
         simp
         omega
       . exact leC_int rfl
   . refine Done.mk (leF_e (leE_all ?_))
     have h16 : i = 16 := by omega
     subst h16
     repeat' (first | exact trivial | exact leC_int rfl | apply And.intro)
 . refine ⟨rfl, ?_, ?_⟩
   . repeat' (first | exact zw0 | refine leF_int ?_ | refine leF_bool ?_ | exact zw1 | apply And.intro)
   . repeat' (first | exact zw0 | refine leF_int ?_ | refine leF_bool ?_ | exact zw1 | apply And.intro)
     refine leN_var ?_
     repeat' (first | exact trivial | exact leC_int rfl | apply And.intro)
def ipEq (a b : Fin 16 -> Int) : Bool := (List.range 16).all fun j => vget a j == vget b j
theorem ipEq_iff {a b : Fin 16 -> Int} : ipEq a b = true ↔ a = b := by
 simp only [ipEq, List.all_eq_true, List.mem_range, beq_iff_eq]
 constructor
 . intro h
   funext q
   have := h q.1 q.2
   rw [vget_lt _ q.2, vget_lt _ q.2] at this
   exact this
 . rintro rfl j _; rfl
def pEq (p q : Pfx) : Bool := ipEq p.ip q.ip && decide (p.bits = q.bits)
theorem pEq_iff {p q : Pfx} : pEq p q = true ↔ p = q := by
 simp only [pEq, Bool.and_eq_true, ipEq_iff, decide_eq_true_eq]
 constructor
 . rintro ⟨h1, h2⟩
   obtain ⟨a, b⟩ := p
   obtain ⟨c, d⟩ := q
   simp only at h1 h2
   rw [h1, h2]
 . rintro rfl; exact ⟨rfl, rfl⟩
theorem pEq_from (p q : Pfx) : eqFrom (ePfx.cell p) (ePfx.cell q) 17 0 = pEq p q := by
 rw [Bool.eq_iff_iff, eqFrom_iff, pEq_iff]
 simp only [Nat.zero_add]
 constructor
 . intro h
   obtain ⟨a, b⟩ := p
   obtain ⟨c, d⟩ := q
   have h1 : a = c := by
    funext j
    have := h j.1 (by omega)
    rw [<- Nat.zero_add j.1, ePfx_ip_at _ _ j.2, ePfx_ip_at _ _ j.2] at this
    simp only [eqCell, beq_iff_eq] at this
    rw [vget_lt _ j.2, vget_lt _ j.2] at this
    exact this
   have h2 : b = d := by
    have := h 16 (by omega)
    have e1 : ∀ x : Pfx, ePfx.cell x 16 = .int .i64 x.bits := fun x => rfl
    rw [e1, e1] at this
    simpa [eqCell] using this
   rw [h1, h2]
 . rintro rfl j hj
   by_cases h16 : j < 16
   . rw [<- Nat.zero_add j, ePfx_ip_at _ _ h16]; simp [eqCell]
   . have : j = 16 := by omega
     subst this
     have e1 : ∀ x : Pfx, ePfx.cell x 16 = .int .i64 x.bits := fun x => rfl
     rw [e1]; simp [eqCell]
def vpf (p : Pfx) : Bool := decide (0 <= p.bits) && decide (p.bits <= 128) && pEq (maskP p.ip p.bits) p
def LE1 : CsL := (149, some (pureE (AC.cons (cE (eA .u8 16)) (AC.cons (cI .i64) AC.nil)) (fun _ => True) (fun a => maskP a.1 a.2.1) (cE ePfx).enc)) :: []
theorem LE1_ok : AllOk Try.prog LE1 := ⟨pureE_ok ⟨_, Try.func149, rfl, by kernel_rfl⟩ fun a _ => mask_ok a.1 a.2.1, trivial⟩
theorem vpf_ok (p : Pfx) : PureOk Try.prog 147 [(cE ePfx).enc p] (cB.enc (vpf p)) := by
 refine pure_intro (wd := 1) (Q := mkQ LE1) (by decide) tysOk (q_of LE1_ok) mixed Try.func147 rfl _ (by show 1 <= _; decide) _ ?_
 repeat' (first | (apply And.intro <;> intro hc <;> (first | exact Bool.noConfusion hc | (simp only [zb0] at hc) | skip)) | (refine And.intro zp0 ?_) | (apply And.intro) | (intro s hs))
 . refine Done.mk (leF_bool ?_)
   refine (show _ = eqFrom (ePfx.cell s) (ePfx.cell p) 17 0 from by simp only [Nat.zero_add]; rfl).trans ?_
   rw [pEq_from, hs]
   have e : ((eA .u8 16).rd fun q => (fun x => ePfx.cell p) 0 (0 + 0 + q)) = p.ip := by
    have := ePfx_ip p
    simp only [Nat.zero_add] at this ⊢
    exact this
   rw [e]
   simp [vpf, *]
 all_goals (refine Done.mk (leF_bool ?_); simp [vpf, *])
def pfxOf (c : Ctx) : Pfx := ⟨c.ip, c.bits⟩
theorem pfx_of_ctx (c : Ctx) : ePfx.rd (fun q => eCtx.cell c (1 + q)) = pfxOf c := by
 show (⟨fun q => valI (eCtx.cell c (1 + (0 + q.1))), valI (eCtx.cell c (1 + 16))⟩ : Pfx) = _
 have := eCtx_ip c
 simp only [Nat.zero_add]
 rw [this]
 rfl
def validFrom : Int -> List Ctx -> Bool
 | _, [] => true
 | b, c :: l => decide (b < c.id) && decide (c.id < 16) && vpf (pfxOf c) && vt c.til && validFrom c.id l
def validT (l : List Ctx) : Bool := validFrom (-1) l
def LE2 : CsL := (147, some (pureE (AC.cons (cE ePfx) AC.nil) (fun _ => True) (fun a => vpf a.1) cB.enc)) ::
 (140, some (pureE (AC.cons (cI .i64) AC.nil) (fun _ => True) (fun a => vt a.1) cB.enc)) ::
 (148, some (pureE (AC.cons (cE eCtx) (AC.cons (cI .i64) AC.nil)) (fun _ => True) (fun a => compr a.1 a.2.1) cB.enc)) ::
 (141, some (pureE (AC.cons (cE eCtx) (AC.cons (cI .i64) AC.nil)) (fun _ => True) (fun a => decom a.1 a.2.1) cB.enc)) :: LE1
theorem LE2_ok : AllOk Try.prog LE2 := ⟨pureE_ok ⟨_, Try.func147, rfl, by kernel_rfl⟩ fun a _ => vpf_ok a.1, pureE_ok ⟨_, Try.func140, rfl, by kernel_rfl⟩ fun a _ => vt_ok a.1, pureE_ok ⟨_, Try.func148, rfl, by kernel_rfl⟩ fun a _ => compr_ok a.1 a.2.1, pureE_ok ⟨_, Try.func141, rfl, by kernel_rfl⟩ fun a _ => decom_ok a.1 a.2.1, LE1_ok⟩
theorem valid_step {l : List Ctx} {i : Nat} (b : Int) (h : i < l.length) : validFrom b (l.drop i) = (decide (b < (l.getD i default).id) && decide ((l.getD i default).id < 16) && vpf (pfxOf (l.getD i default)) && vt (l.getD i default).til && validFrom (l.getD i default).id (l.drop (i + 1))) := by
 have : l.drop i = l.getD i default :: l.drop (i + 1) := by
  rw [List.drop_eq_getElem_cons h, List.getD_eq_getElem?_getD, List.getElem?_eq_getElem h]
  rfl
 rw [this, validFrom]
theorem valid_ok (l : List Ctx) (hl : l.length <= 9223372036854775807) : PureOk Try.prog 112 [(cSl eCtx eCtx_sz).enc l] (cB.enc (validT l)) := by
 refine pure_intro (wd := 1) (Q := mkQ LE2) (by decide) tysOk (q_of LE2_ok) mixed Try.func112 rfl _ (by show 1 <= _; decide) _ ?_
 refine loop_intro (mono_of LE2_ok) (fun s : {s : Nat × Int // s.1 <= l.length /\ validT l = validFrom s.2 (l.drop s.1)} => (⟨[(3, one (.int .i64 s.1.2)), (6, one (.sl false l.length eCtx.sz (rowF eCtx l))), (7, one (.int .i64 (l.length : Int))), (8, one (.int .i64 (s.1.1 : Int)))], [], 5⟩ : Hd)) (fun s => l.length - s.1.1) (fun _ => rfl) ?_ ⟨(0, -1), by simp, rfl⟩ [] ?_
 . rintro ⟨⟨i, b⟩, hi, hv⟩
   dsimp only at hi hv ⊢
   repeat' (first | (apply And.intro <;> intro hc <;> (first | exact Bool.noConfusion hc | (simp only [zb0] at hc) | skip)) | (refine And.intro zp0 ?_) | (apply And.intro) | (intro s hs))
   . have h := valid_step b (l := l) (i := i) (by omega)
     simp only [Int.toNat_natCast] at *
     refine Done.mk (leF_bool ?_)
     rw [hv, h, decide_eq_false (p := b < _) (by omega)]
     rfl
   . have h := valid_step b (l := l) (i := i) (by omega)
     simp only [Int.toNat_natCast] at *
     refine Done.mk (leF_bool ?_)
     rw [hv, h, decide_eq_false (p := _ < (16 : Int)) (by omega)]
     simp
   . have h := valid_step b (l := l) (i := i) (by omega)
     have hs' : s = vpf (pfxOf (l.getD i default)) := by
      rw [hs, <- pfx_of_ctx]
      simp only [Int.toNat_natCast, Nat.zero_add]
      rfl
     have hf : s = false := by assumption
     refine Done.mk (leF_bool ?_)
     rw [hv, h, <- hs', hf]
     simp
   . have h := valid_step b (l := l) (i := i) (by omega)
     have hs' : s = vt (l.getD i default).til := hs
     refine Done.mk (leF_bool ?_)
     rw [hv, h, <- hs', hc]
     simp
   . have h := valid_step b (l := l) (i := i) (by omega)
     rename_i s1 hs1 hc1
     have hs1' : s1 = vpf (pfxOf (l.getD i default)) := by
      rw [hs1, <- pfx_of_ctx]
      simp only [Int.toNat_natCast, Nat.zero_add]
      rfl
     have hs' : s = vt (l.getD i default).til := hs
     have hd1 : ¬ (l.getD i default).id <= b := by assumption
     have hd2 : ¬ 16 <= (l.getD i default).id := by assumption
     refine ⟨⟨(i + 1, (l.getD i default).id), by dsimp only; omega, ?_⟩, [], by dsimp only; omega, rfl, ?_, ?_⟩
     . dsimp only
       have d1 : decide (b < (l.getD i default).id) = true := decide_eq_true (by omega)
       have d2 : decide ((l.getD i default).id < 16) = true := decide_eq_true (by omega)
       rw [hv, h, <- hs', <- hs1', hc, hc1, d1, d2]
       rfl
     . repeat' (first | exact zw0 | refine leF_int ?_ | refine leF_bool ?_ | exact zw1 | apply And.intro)
       refine (IntWalk.i64_in _ ?_).trans ?_
       . constructor <;> omega
       . dsimp only
         omega
     . repeat' (first | exact zw0 | refine leF_int ?_ | refine leF_bool ?_ | exact zw1 | apply And.intro)
   . refine Done.mk (leF_bool ?_)
     have : i = l.length := by omega
     subst this
     rw [hv, List.drop_length]
     rfl
 . refine ⟨rfl, ?_, ?_⟩
   . repeat' (first | exact zw0 | refine leF_int ?_ | refine leF_bool ?_ | exact zw1 | apply And.intro)
   . repeat' (first | exact zw0 | refine leF_int ?_ | refine leF_bool ?_ | exact zw1 | apply And.intro)
def LE3 : CsL := (112, some (pureE (AC.cons (cSl eCtx eCtx_sz) AC.nil) (fun a => a.1.length <= 9223372036854775807) (fun a => validT a.1) cB.enc)) :: LE2
theorem LE3_ok : AllOk Try.prog LE3 := ⟨pureE_ok ⟨_, Try.func112, rfl, by kernel_rfl⟩ fun a h => valid_ok a.1 h, LE2_ok⟩
def findDec (id now : Int) : List Ctx -> Ctx × Bool
 | [] => (default, false)
 | c :: l => if c.id = id /\ decom c now = true then (c, true) else findDec id now l
def forDec (l : List Ctx) (id now : Int) : Ctx × Bool := if validT l = true /\ vt now = true then findDec id now l else (default, false)
def encCB (r : Ctx × Bool) : FV := .tup [.agg eCtx.sz (eCtx.cell r.1), .c (.bool r.2)]
theorem toL_ctx (l : List Ctx) : toL eCtx l.length (rowF eCtx l) = l := toL_row eCtx_rd l
theorem forDec_ok (l : List Ctx) (id now : Int) (hl : l.length <= 9223372036854775807) : PureOk Try.prog 102 [(cSl eCtx eCtx_sz).enc l, (cI .i64).enc id, (cI .i64).enc now] (encCB (forDec l id now)) := by
 refine pure_intro (wd := 1) (Q := mkQ LE3) (by decide) tysOk (q_of LE3_ok) mixed Try.func102 rfl _ (by show 3 <= _; decide) _ ?_
 repeat' (first | (apply And.intro <;> intro hc <;> (first | exact Bool.noConfusion hc | (simp only [zb0] at hc) | skip)) | (refine And.intro zp0 ?_) | (apply And.intro) | (intro s hs))
 . show (toL eCtx l.length (rowF eCtx l)).length <= _
   rw [toL_ctx]; exact hl
 . have hs' : s = validT l := by rw [hs, toL_ctx]
   have hf : s = false := by assumption
   have e : forDec l id now = (default, false) := by simp [forDec, <- hs', hf]
   rw [e]
   refine Done.mk (leF_tup ?_)
   repeat' (first | exact zw2 | refine leE_all ?_ | exact leC_bool (by assumption) | apply And.intro)
 . have hs' : s = vt now := hs
   have e : forDec l id now = (default, false) := by simp [forDec, <- hs', hc]
   rw [e]
   refine Done.mk (leF_tup ?_)
   repeat' (first | exact zw2 | refine leE_all ?_ | exact leC_bool (by assumption) | apply And.intro)
 . rename_i s1 hs1 hc1
   have hs1' : s1 = validT l := by rw [hs1, toL_ctx]
   have hs' : s = vt now := hs
   have e : forDec l id now = findDec id now l := by simp [forDec, <- hs', <- hs1', hc, hc1]
   rw [e]
   clear hs hs1 hs' hs1' hc hc1 e
   refine loop_intro (mono_of LE3_ok) (fun i : {i : Nat // i <= l.length /\ findDec id now l = findDec id now (l.drop i)} => (⟨[(1, one (.int .i64 id)), (2, one (.int .i64 now)), (6, one (.ptr 0 0 0 false)), (19, one (.sl false l.length eCtx.sz (rowF eCtx l))), (20, one (.int .i64 (l.length : Int))), (21, one (.int .i64 (i.1 : Int)))],
    [(0, some ⟨82, 1, 20, true, fun _ _ => .top⟩)], 13⟩ : Hd)) (fun i => l.length - i.1) (fun _ => rfl) ?_ ⟨0, by omega, rfl⟩ [] ?_
   . rintro ⟨i, hi, hv⟩
     dsimp only at hi hv ⊢
     repeat' (first | (apply And.intro <;> intro hc <;> (first | exact Bool.noConfusion hc | (simp only [zb0] at hc) | skip)) | (refine And.intro zp0 ?_) | (apply And.intro) | (intro s hs))
     . have hs' : s = decom (l.getD i default) now := by
        rw [hs]
        simp only [Int.toNat_natCast, Nat.zero_add]
        show decom (eCtx.rd (eCtx.cell (l.getD i default))) now = _
        rw [eCtx_rd]
       have hid : (l.getD i default).id = id := by assumption
       have e : findDec id now l = (l.getD i default, true) := by
        rw [hv, drop_at (by omega), findDec, if_pos ⟨hid, by rw [<- hs']; exact hc⟩]
       rw [e]
       refine Done.mk (leF_tup ?_)
       repeat' (first | exact zw2 | refine leE_all ?_ | exact leC_bool (by assumption) | apply And.intro)
     . have hs' : s = decom (l.getD i default) now := by
        rw [hs]
        simp only [Int.toNat_natCast, Nat.zero_add]
        show decom (eCtx.rd (eCtx.cell (l.getD i default))) now = _
        rw [eCtx_rd]
       refine ⟨⟨i + 1, by omega, ?_⟩, [], by dsimp only; omega, rfl, ?_, ?_⟩
       . rw [hv, drop_at (by omega), findDec, if_neg]
         rw [<- hs', hc]; simp
       . repeat' (first | exact zw0 | refine leF_int ?_ | refine leF_bool ?_ | exact zw1 | apply And.intro)
         refine (IntWalk.i64_in _ ?_).trans ?_
         . constructor <;> omega
         . dsimp only
           omega
       . repeat' (first | exact zw0 | refine leF_int ?_ | refine leF_bool ?_ | exact zw1 | apply And.intro)
     . have hid : (l.getD i default).id ≠ id := by assumption
       refine ⟨⟨i + 1, by omega, ?_⟩, [], by dsimp only; omega, rfl, ?_, ?_⟩
       . rw [hv, drop_at (by omega), findDec, if_neg]
         exact fun h => hid h.1
       . repeat' (first | exact zw0 | refine leF_int ?_ | refine leF_bool ?_ | exact zw1 | apply And.intro)
         refine (IntWalk.i64_in _ ?_).trans ?_
         . constructor <;> omega
         . dsimp only
           omega
       . repeat' (first | exact zw0 | refine leF_int ?_ | refine leF_bool ?_ | exact zw1 | apply And.intro)
     . have hil : i = l.length := by omega
       have e : findDec id now l = (default, false) := by rw [hv, hil, List.drop_length]; rfl
       rw [e]
       refine Done.mk (leF_tup ?_)
       repeat' (first | exact zw2 | refine leE_all ?_ | exact leC_bool (by assumption) | apply And.intro)
   . refine ⟨rfl, ?_, ?_⟩
     . repeat' (first | exact zw0 | refine leF_int ?_ | refine leF_bool ?_ | exact zw1 | apply And.intro)
     . repeat' (first | exact zw0 | refine leF_int ?_ | refine leF_bool ?_ | exact zw1 | apply And.intro)
def better (a : Fin 16 -> Int) (now : Int) (r : Ctx × Bool) (c : Ctx) : Bool := compr c now && pEq (maskP a c.bits) (pfxOf c) && (!r.2 || decide (r.1.bits < c.bits))
def foldC (a : Fin 16 -> Int) (now : Int) : Ctx × Bool -> List Ctx -> Ctx × Bool
 | r, [] => r
 | r, c :: l => foldC a now (if better a now r c = true then (c, true) else r) l
def forCom (l : List Ctx) (a : Fin 16 -> Int) (now : Int) : Ctx × Bool := if validT l = true /\ vt now = true then foldC a now (default, false) l else (default, false)
theorem eqFrom_congr {f f' g g' : Nat -> CV} {n : Nat} (h1 : ∀ j, j < n -> f j = f' j) (h2 : ∀ j, j < n -> g j = g' j) : eqFrom f g n 0 = eqFrom f' g' n 0 := by
 rw [Bool.eq_iff_iff, eqFrom_iff, eqFrom_iff]
 simp only [Nat.zero_add]
 constructor
 . intro h i hi; rw [<- h1 i hi, <- h2 i hi]; exact h i hi
 . intro h i hi; rw [h1 i hi, h2 i hi]; exact h i hi
theorem ctx_pfx_cell (c : Ctx) : ∀ j, j < 17 -> eCtx.cell c (1 + j) = ePfx.cell (pfxOf c) j := by
 intro j hj
 by_cases h : j < 16
 . rw [eCtx_ip_at _ _ h]
   have := ePfx_ip_at (pfxOf c) j h
   rw [Nat.zero_add] at this
   rw [this]; rfl
 . have : j = 16 := by omega
   subst this; rfl
theorem fold_step {l : List Ctx} {i : Nat} (a : Fin 16 -> Int) (now : Int) (r : Ctx × Bool) (h : i < l.length) : foldC a now r (l.drop i) = foldC a now (if better a now r (l.getD i default) = true then (l.getD i default, true) else r) (l.drop (i + 1)) := by
 rw [drop_at h, foldC]
theorem rd_ctx (c : Ctx) : eCtx.rd (fun q => eCtx.cell c (0 + q)) = c := by
 simp only [Nat.zero_add]; exact eCtx_rd c
theorem rd_ip (a : Fin 16 -> Int) : (eA .u8 16).rd (fun q => (eA .u8 16).cell a (0 + q)) = a := by
 simp only [Nat.zero_add]; exact eA_rd a
theorem eq_pfx (s : Pfx) (c : Ctx) : eqFrom (ePfx.cell s) (fun q => eCtx.cell c (0 + 1 + q)) 17 0 = pEq s (pfxOf c) := by
 rw [<- pEq_from]
 exact eqFrom_congr (fun _ _ => rfl) (fun j hj => by rw [Nat.zero_add]; exact ctx_pfx_cell c j hj)
theorem forCom_ok (l : List Ctx) (a : Fin 16 -> Int) (now : Int) (hl : l.length <= 9223372036854775807) : PureOk Try.prog 117 [(cSl eCtx eCtx_sz).enc l, (cE (eA .u8 16)).enc a, (cI .i64).enc now] (encCB (forCom l a now)) := by
 refine pure_intro (wd := 1) (Q := mkQ LE3) (by decide) tysOk (q_of LE3_ok) mixed Try.func117 rfl _ (by show 3 <= _; decide) _ ?_
 repeat' (first | (apply And.intro <;> intro hc <;> (first | exact Bool.noConfusion hc | (simp only [zb0] at hc) | skip)) | (refine And.intro zp0 ?_) | (apply And.intro) | (intro s hs))
 . show (toL eCtx l.length (rowF eCtx l)).length <= _
   rw [toL_ctx]; exact hl
 . have hs' : s = validT l := by rw [hs, toL_ctx]
   have hf : s = false := by assumption
   have e : forCom l a now = (default, false) := by simp [forCom, <- hs', hf]
   rw [e]
   refine Done.mk (leF_tup ?_)
   repeat' (first | exact zw2 | refine leE_all ?_ | exact leC_bool (by assumption) | apply And.intro)
 . have hs' : s = vt now := hs
   have e : forCom l a now = (default, false) := by simp [forCom, <- hs', hc]
   rw [e]
   refine Done.mk (leF_tup ?_)
   repeat' (first | exact zw2 | refine leE_all ?_ | exact leC_bool (by assumption) | apply And.intro)
 . rename_i s1 hs1 hc1
   have hs1' : s1 = validT l := by rw [hs1, toL_ctx]
   have hs' : s = vt now := hs
   have e : forCom l a now = foldC a now (default, false) l := by simp [forCom, <- hs', <- hs1', hc, hc1]
   rw [e]
   clear hs hs1 hs' hs1' hc hc1 e
   refine loop_intro (mono_of LE3_ok) (fun s : {s : Nat × Ctx × Bool // s.1 <= l.length /\ foldC a now (default, false) l = foldC a now s.2 (l.drop s.1)} => (⟨[(2, one (.int .i64 now)), (4, one (.ptr 0 0 0 false)), (6, one (.ptr 1 0 0 false)), (8, one (.ptr 12 0 0 false)), (9, one (.bool s.1.2.2)), (22, one (.sl false l.length eCtx.sz (rowF eCtx l))), (23, one (.int .i64 (l.length : Int))), (24, one (.int .i64 (s.1.1 : Int)))],
    [(0, some ⟨24, 1, 16, true, fun _ => (eA .u8 16).cell a⟩), (1, some ⟨82, 1, 20, true, fun _ _ => .top⟩), (12, some ⟨82, 1, 20, true, fun _ => eCtx.cell s.1.2.1⟩)], 18⟩ : Hd)) (fun s => l.length - s.1.1) (fun _ => rfl) ?_ ⟨(0, default, false), by simp, rfl⟩ [] ?_
   . rintro ⟨⟨i, best, found⟩, hi, hv⟩
     dsimp only at hi hv ⊢
     repeat' (first | (apply And.intro <;> intro hc <;> (first | exact Bool.noConfusion hc | (simp only [zb0] at hc) | skip)) | (refine And.intro zp0 ?_) | (apply And.intro) | (intro s hs))
     . have hf : s = false := by assumption
       have hs0 : s = compr (l.getD i default) now := by
        refine hs.trans ?_
        show compr (eCtx.rd fun q => eCtx.cell (l.getD i default) (0 + q)) now = _
        rw [rd_ctx]
       refine ⟨⟨(i + 1, best, found), by dsimp only; omega, ?_⟩, [], by dsimp only; omega, rfl, ?_, ?_⟩
       . dsimp only
         rw [hv, fold_step _ _ _ (by omega), if_neg (by simp only [better, <- hs0, hf, Bool.false_and]; decide)]
       . repeat' (first | exact zw0 | refine leF_int ?_ | refine leF_bool ?_ | exact zw1 | apply And.intro)
         refine (IntWalk.i64_in _ ?_).trans ?_
         . constructor <;> omega
         . dsimp only
           omega
       . repeat' (first | exact zw0 | refine leF_int ?_ | refine leF_bool ?_ | exact zw1 | apply And.intro)
         all_goals (refine leN_var ?_; repeat' (first | exact zw2 | refine leE_all ?_ | exact leC_bool (by assumption) | apply And.intro))
     . rename_i s0 h0 c0
       have hs0 : s0 = compr (l.getD i default) now := by
        refine h0.trans ?_
        show compr (eCtx.rd fun q => eCtx.cell (l.getD i default) (0 + q)) now = _
        rw [rd_ctx]
       have hm : s = maskP a (l.getD i default).bits := by
        refine hs.trans ?_
        show maskP ((eA .u8 16).rd fun q => (eA .u8 16).cell a (0 + q)) (l.getD i default).bits = _
        rw [rd_ip]
       have hq : pEq s (pfxOf (l.getD i default)) = false := by
        rw [<- eq_pfx]; exact hc
       refine ⟨⟨(i + 1, best, found), by dsimp only; omega, ?_⟩, [], by dsimp only; omega, rfl, ?_, ?_⟩
       . dsimp only
         rw [hv, fold_step _ _ _ (by omega), if_neg (by simp only [better, <- hm, hq, Bool.and_false, Bool.false_and]; decide)]
       . repeat' (first | exact zw0 | refine leF_int ?_ | refine leF_bool ?_ | exact zw1 | apply And.intro)
         refine (IntWalk.i64_in _ ?_).trans ?_
         . constructor <;> omega
         . dsimp only
           omega
       . repeat' (first | exact zw0 | refine leF_int ?_ | refine leF_bool ?_ | exact zw1 | apply And.intro)
         all_goals (refine leN_var ?_; repeat' (first | exact zw2 | refine leE_all ?_ | exact leC_bool (by assumption) | apply And.intro))
     . rename_i s0 h0 c0 c1 c2
       have hs0 : s0 = compr (l.getD i default) now := by
        refine h0.trans ?_
        show compr (eCtx.rd fun q => eCtx.cell (l.getD i default) (0 + q)) now = _
        rw [rd_ctx]
       have hm : s = maskP a (l.getD i default).bits := by
        refine hs.trans ?_
        show maskP ((eA .u8 16).rd fun q => (eA .u8 16).cell a (0 + q)) (l.getD i default).bits = _
        rw [rd_ip]
       have hq : pEq s (pfxOf (l.getD i default)) = true := by
        rw [<- eq_pfx]; exact c1
       refine ⟨⟨(i + 1, l.getD i default, true), by dsimp only; omega, ?_⟩, [], by dsimp only; omega, rfl, ?_, ?_⟩
       . dsimp only
         rw [hv, fold_step _ _ _ (by omega), if_pos (by simp only [better, <- hm, hq, <- hs0, c0, c2]; rfl)]
       . repeat' (first | exact zw0 | refine leF_int ?_ | refine leF_bool ?_ | exact zw1 | apply And.intro)
         refine (IntWalk.i64_in _ ?_).trans ?_
         . constructor <;> omega
         . dsimp only
           omega
       . repeat' (first | exact zw0 | refine leF_int ?_ | refine leF_bool ?_ | exact zw1 | apply And.intro)
         all_goals (refine leN_var ?_; repeat' (first | exact zw2 | refine leE_all ?_ | exact leC_bool (by assumption) | apply And.intro))
     . rename_i s0 h0 c0 c1 c2
       have hs0 : s0 = compr (l.getD i default) now := by
        refine h0.trans ?_
        show compr (eCtx.rd fun q => eCtx.cell (l.getD i default) (0 + q)) now = _
        rw [rd_ctx]
       have hm : s = maskP a (l.getD i default).bits := by
        refine hs.trans ?_
        show maskP ((eA .u8 16).rd fun q => (eA .u8 16).cell a (0 + q)) (l.getD i default).bits = _
        rw [rd_ip]
       have hq : pEq s (pfxOf (l.getD i default)) = true := by
        rw [<- eq_pfx]; exact c1
       have hc' : best.bits < (l.getD i default).bits := hc
       refine ⟨⟨(i + 1, l.getD i default, true), by dsimp only; omega, ?_⟩, [], by dsimp only; omega, rfl, ?_, ?_⟩
       . dsimp only
         rw [hv, fold_step _ _ _ (by omega), if_pos (by simp only [better, <- hm, hq, <- hs0, c0, decide_eq_true hc', Bool.or_true]; rfl)]
       . repeat' (first | exact zw0 | refine leF_int ?_ | refine leF_bool ?_ | exact zw1 | apply And.intro)
         refine (IntWalk.i64_in _ ?_).trans ?_
         . constructor <;> omega
         . dsimp only
           omega
       . repeat' (first | exact zw0 | refine leF_int ?_ | refine leF_bool ?_ | exact zw1 | apply And.intro)
         all_goals (refine leN_var ?_; repeat' (first | exact zw2 | refine leE_all ?_ | exact leC_bool (by assumption) | apply And.intro))
     . rename_i s0 h0 c0 c1 c2
       have hs0 : s0 = compr (l.getD i default) now := by
        refine h0.trans ?_
        show compr (eCtx.rd fun q => eCtx.cell (l.getD i default) (0 + q)) now = _
        rw [rd_ctx]
       have hm : s = maskP a (l.getD i default).bits := by
        refine hs.trans ?_
        show maskP ((eA .u8 16).rd fun q => (eA .u8 16).cell a (0 + q)) (l.getD i default).bits = _
        rw [rd_ip]
       have hq : pEq s (pfxOf (l.getD i default)) = true := by
        rw [<- eq_pfx]; exact c1
       have hc' : ¬ best.bits < (l.getD i default).bits := hc
       refine ⟨⟨(i + 1, best, found), by dsimp only; omega, ?_⟩, [], by dsimp only; omega, rfl, ?_, ?_⟩
       . dsimp only
         rw [hv, fold_step _ _ _ (by omega), if_neg (by simp only [better, c2, decide_eq_false hc', Bool.not_true, Bool.or_false, Bool.and_false]; decide)]
       . repeat' (first | exact zw0 | refine leF_int ?_ | refine leF_bool ?_ | exact zw1 | apply And.intro)
         refine (IntWalk.i64_in _ ?_).trans ?_
         . constructor <;> omega
         . dsimp only
           omega
       . repeat' (first | exact zw0 | refine leF_int ?_ | refine leF_bool ?_ | exact zw1 | apply And.intro)
         all_goals (refine leN_var ?_; repeat' (first | exact zw2 | refine leE_all ?_ | exact leC_bool (by assumption) | apply And.intro))
     . have hil : i = l.length := by omega
       have e : foldC a now (default, false) l = (best, found) := by rw [hv, hil, List.drop_length]; rfl
       rw [e]
       refine Done.mk (leF_tup ?_)
       repeat' (first | exact zw2 | refine leE_all ?_ | exact leC_bool (by assumption) | apply And.intro)
   . refine ⟨rfl, ?_, ?_⟩
     . repeat' (first | exact zw0 | refine leF_int ?_ | refine leF_bool ?_ | exact zw1 | apply And.intro)
     . repeat' (first | exact zw0 | refine leF_int ?_ | refine leF_bool ?_ | exact zw1 | apply And.intro)
       all_goals (refine leN_var ?_; repeat' (first | exact zw2 | refine leE_all ?_ | exact leC_bool (by assumption) | apply And.intro))
end Go.Proofs.Ytjknkfjhcapocaa.AX
namespace Go.Proofs.Ytjknkfjhcapocaa.AX
open Go.RowKit
def bt (x : Int) (j : Int) : Int := bits .and .u8 (shrI .u8 x (7 - j)) 1
def mb (x : Int) (k : Int) : Int := bits .andNot .u8 x (shrI .u8 255 k)
theorem byt_step : ∀ x : Fin 256, ∀ k : Fin 8, bits .or .u8 (mb (x.1 : Nat) (k.1 : Nat)) (shlI .u8 (bt (x.1 : Nat) (k.1 : Nat)) (7 - (k.1 : Nat))) = mb (x.1 : Nat) ((k.1 : Nat) + 1) := by decide +kernel
theorem byt_zero : ∀ x : Fin 256, mb (x.1 : Nat) 0 = 0 := by decide +kernel
theorem byt_rng : ∀ x : Fin 256, ∀ k : Fin 9, 0 <= mb (x.1 : Nat) (k.1 : Nat) /\ mb (x.1 : Nat) (k.1 : Nat) < 256 := by decide +kernel
theorem byt_bit : ∀ x : Fin 256, ∀ k : Fin 9, ∀ j : Fin 8, bt (mb (x.1 : Nat) (k.1 : Nat)) (j.1 : Nat) = if j.1 < k.1 then bt (x.1 : Nat) (j.1 : Nat) else 0 := by decide +kernel
theorem byt_sum : ∀ x : Fin 256, ((x.1 : Nat) : Int) = bt (x.1 : Nat) 0 * 128 + bt (x.1 : Nat) 1 * 64 + bt (x.1 : Nat) 2 * 32 + bt (x.1 : Nat) 3 * 16 + bt (x.1 : Nat) 4 * 8 + bt (x.1 : Nat) 5 * 4 + bt (x.1 : Nat) 6 * 2 + bt (x.1 : Nat) 7 := by decide +kernel
structure byteOk (a : Fin 16 -> Int) : Prop where
 q : ∀ q, 0 <= a q /\ a q < 256
theorem byte_nat {x : Int} (h : 0 <= x /\ x < 256) : ∃ y : Fin 256, x = (y.1 : Nat) := ⟨⟨x.toNat, by omega⟩, by show x = (x.toNat : Int); omega⟩
def bitF (a : Fin 16 -> Int) (i : Nat) : Int := bt (vget a (i / 8)) ((i % 8 : Nat) : Int)
theorem byteOk.v {a : Fin 16 -> Int} (h : byteOk a) (j : Nat) : 0 <= vget a j /\ vget a j < 256 := by
 unfold vget
 split
 . exact h.q _
 . omega
theorem byte_ext {x y : Int} (hx : 0 <= x /\ x < 256) (hy : 0 <= y /\ y < 256) (h : ∀ j, j < 8 -> bt x (j : Nat) = bt y (j : Nat)) : x = y := by
 obtain ⟨x, rfl⟩ := byte_nat hx
 obtain ⟨y, rfl⟩ := byte_nat hy
 rw [byt_sum x, byt_sum y]
 have h0 := h 0 (by omega)
 have h1 := h 1 (by omega)
 have h2 := h 2 (by omega)
 have h3 := h 3 (by omega)
 have h4 := h 4 (by omega)
 have h5 := h 5 (by omega)
 have h6 := h 6 (by omega)
 have h7 := h 7 (by omega)
 rw [show bt (x.1 : Nat) 0 = bt (y.1 : Nat) 0 from h0, show bt (x.1 : Nat) 1 = bt (y.1 : Nat) 1 from h1, show bt (x.1 : Nat) 2 = bt (y.1 : Nat) 2 from h2, show bt (x.1 : Nat) 3 = bt (y.1 : Nat) 3 from h3, show bt (x.1 : Nat) 4 = bt (y.1 : Nat) 4 from h4, show bt (x.1 : Nat) 5 = bt (y.1 : Nat) 5 from h5, show bt (x.1 : Nat) 6 = bt (y.1 : Nat) 6 from h6, show bt (x.1 : Nat) 7 = bt (y.1 : Nat) 7 from h7]
theorem ip_ext {a b : Fin 16 -> Int} (ha : byteOk a) (hb : byteOk b) (h : ∀ i, i < 128 -> bitF a i = bitF b i) : a = b := by
 funext q
 refine byte_ext (ha.q q) (hb.q q) fun j hj => ?_
 have := h (8 * q.1 + j) (by omega)
 unfold bitF at this
 rw [show (8 * q.1 + j) / 8 = q.1 by omega, show (8 * q.1 + j) % 8 = j by omega, vget_lt _ q.2, vget_lt _ q.2] at this
 exact this
theorem keepAt_in (b : Int) (i : Nat) : ∃ k : Fin 9, keepAt b i = (k.1 : Nat) := by
 have := clampI_in (b - 8 * i) (lo := 0) (hi := 8) (by omega)
 exact ⟨⟨(keepAt b i).toNat, by unfold keepAt; omega⟩, by show keepAt b i = ((keepAt b i).toNat : Int); unfold keepAt; omega⟩
theorem mask_byteOk {a : Fin 16 -> Int} (ha : byteOk a) (b : Int) : byteOk (maskP a b).ip := by
 refine ⟨fun q => ?_⟩
 show 0 <= mb (vget a q.1) (keepAt (clampI b 0 128) q.1) /\ mb (vget a q.1) (keepAt (clampI b 0 128) q.1) < 256
 obtain ⟨x, hx⟩ := byte_nat (ha.v q.1)
 obtain ⟨k, hk⟩ := keepAt_in (clampI b 0 128) q.1
 rw [hx, hk]
 exact byt_rng x k
theorem mask_bit {a : Fin 16 -> Int} (ha : byteOk a) {b : Int} (h0 : 0 <= b) (h1 : b <= 128) {i : Nat} (hi : i < 128) : bitF (maskP a b).ip i = if (i : Int) < b then bitF a i else 0 := by
 have hcl : clampI b 0 128 = b := by unfold clampI; split <;> split <;> omega
 unfold bitF
 rw [vget_lt _ (show i / 8 < 16 by omega)]
 show bt (mb (vget a (i / 8)) (keepAt (clampI b 0 128) (i / 8))) _ = _
 rw [hcl]
 obtain ⟨x, hx⟩ := byte_nat (ha.v (i / 8))
 obtain ⟨k, hk⟩ := keepAt_in b (i / 8)
 rw [hx, hk, byt_bit x k ⟨i % 8, by omega⟩]
 have e : (i % 8 < k.1) ↔ ((i : Int) < b) := by
  have : keepAt b (i / 8) = clampI (b - 8 * ((i / 8 : Nat) : Int)) 0 8 := rfl
  rw [this] at hk
  unfold clampI at hk
  split at hk <;> split at hk <;> omega
 by_cases h : i % 8 < k.1
 . rw [if_pos h, if_pos (e.1 h)]
 . rw [if_neg h, if_neg (fun h' => h (e.2 h'))]
theorem clamp_id {b : Int} (h0 : 0 <= b) (h1 : b <= 128) : clampI b 0 128 = b := by unfold clampI; split <;> split <;> omega
theorem mask_iff {a : Fin 16 -> Int} {p : Pfx} (ha : byteOk a) (hp : byteOk p.ip) : maskP a p.bits = p ↔ (0 <= p.bits /\ p.bits <= 128) /\ ∀ i, i < 128 -> bitF p.ip i = if (i : Int) < p.bits then bitF a i else 0 := by
 constructor
 . intro h
   have hb : (maskP a p.bits).bits = p.bits := by rw [h]
   have hb' : clampI p.bits 0 128 = p.bits := hb
   have := clampI_in p.bits (lo := 0) (hi := 128) (by omega)
   refine ⟨by omega, fun i hi => ?_⟩
   have hm := mask_bit ha (b := p.bits) (by omega) (by omega) hi
   rw [h] at hm
   exact hm
 . rintro ⟨⟨h0, h1⟩, h⟩
   have hip : (maskP a p.bits).ip = p.ip := ip_ext (mask_byteOk ha _) hp fun i hi => by rw [mask_bit ha h0 h1 hi, h i hi]
   have hbb : (maskP a p.bits).bits = p.bits := clamp_id h0 h1
   obtain ⟨pi, pb⟩ := p
   cases hm : maskP a pb with
   | mk x y =>
     simp only [hm] at hip hbb
     rw [hip, hbb]
theorem vpf_iff {p : Pfx} (hp : byteOk p.ip) : vpf p = true ↔ (0 <= p.bits /\ p.bits <= 128) /\ ∀ i : Nat, i < 128 -> p.bits <= (i : Int) -> bitF p.ip i = 0 := by
 unfold vpf
 simp only [Bool.and_eq_true, decide_eq_true_eq, pEq_iff]
 rw [mask_iff hp hp]
 constructor
 . rintro ⟨h, _, h2⟩
   refine ⟨h, fun i hi hb => ?_⟩
   have := h2 i hi
   rw [if_neg (by omega)] at this
   exact this
 . rintro ⟨h, h2⟩
   refine ⟨h, h, fun i hi => ?_⟩
   by_cases hb : (i : Int) < p.bits
   . rw [if_pos hb]
   . rw [if_neg hb]; exact h2 i hi (by omega)
theorem mask_vpf {a : Fin 16 -> Int} (ha : byteOk a) (b : Int) : vpf (maskP a b) = true := by
 rw [vpf_iff (mask_byteOk ha b)]
 have hc := clampI_in b (lo := 0) (hi := 128) (by omega)
 have e : maskP a b = maskP a (clampI b 0 128) := by
  unfold maskP
  rw [clamp_id hc.1 hc.2]
 have eb : (maskP a b).bits = clampI b 0 128 := rfl
 refine ⟨by rw [eb]; exact hc, fun i hi h => ?_⟩
 rw [e, mask_bit ha hc.1 hc.2 hi, if_neg (by rw [eb] at h; omega)]
def cmn (a b : Fin 16 -> Int) : Nat -> Nat -> Nat
 | 0, n => n
 | k + 1, n => if bitF a n = bitF b n then cmn a b k (n + 1) else n
theorem cmn_ge {a b : Fin 16 -> Int} {m : Nat} : ∀ (k n : Nat), m <= cmn a b k n ↔ m <= n \/ (m <= n + k /\ ∀ i, n <= i -> i < m -> bitF a i = bitF b i) := by
 intro k
 induction k with
 | zero => intro n; simp only [cmn]; constructor
           . exact fun h => .inl h
           . rintro (h | h)
             . exact h
             . omega
 | succ k ih =>
   intro n
   simp only [cmn]
   by_cases h : bitF a n = bitF b n
   . rw [if_pos h, ih]
     constructor
     . rintro (h1 | ⟨h1, h2⟩)
       . by_cases h3 : m <= n
         . exact .inl h3
         . refine .inr ⟨by omega, fun i hi hm => ?_⟩
           have : i = n := by omega
           subst this; exact h
       . by_cases h3 : m <= n
         . exact .inl h3
         . refine .inr ⟨by omega, fun i hi hm => ?_⟩
           by_cases hin : i = n
           . subst hin; exact h
           . exact h2 i (by omega) hm
     . rintro (h1 | ⟨h1, h2⟩)
       . exact .inl (by omega)
       . by_cases h3 : m <= n + 1
         . exact .inl h3
         . exact .inr ⟨by omega, fun i hi hm => h2 i (by omega) hm⟩
   . rw [if_neg h]
     constructor
     . exact fun h => .inl h
     . rintro (h1 | ⟨h1, h2⟩)
       . exact h1
       . by_cases h3 : m <= n
         . exact h3
         . exact absurd (h2 n (Nat.le_refl _) (by omega)) h
def common (a b : Fin 16 -> Int) : Nat := cmn a b 128 0
def containsF (p : Pfx) (a : Fin 16 -> Int) : Bool := pEq (maskP a p.bits) p
theorem contains_iff {p : Pfx} {a : Fin 16 -> Int} (hp : byteOk p.ip) (ha : byteOk a) : (vpf p = true /\ p.bits <= (common p.ip a : Int)) ↔ containsF p a = true := by
 unfold containsF
 rw [pEq_iff, mask_iff ha hp, vpf_iff hp]
 unfold common
 constructor
 . rintro ⟨⟨h, h2⟩, h3⟩
   refine ⟨h, fun i hi => ?_⟩
   have h4 : p.bits.toNat <= cmn p.ip a 128 0 := by omega
   rw [cmn_ge] at h4
   by_cases hb : (i : Int) < p.bits
   . rw [if_pos hb]
     rcases h4 with h4 | ⟨_, h4⟩
     . omega
     . exact h4 i (by omega) (by omega)
   . rw [if_neg hb]; exact h2 i hi (by omega)
 . rintro ⟨h, h2⟩
   refine ⟨⟨h, fun i hi hb => ?_⟩, ?_⟩
   . have := h2 i hi
     rw [if_neg (by omega)] at this
     exact this
   . have : p.bits.toNat <= cmn p.ip a 128 0 := by
      rw [cmn_ge]
      refine .inr ⟨by omega, fun i _ hi => ?_⟩
      have := h2 i (by omega)
      rw [if_pos (by omega)] at this
      exact this
     omega
end Go.Proofs.Ytjknkfjhcapocaa.AX
namespace Go.Proofs.Ytjknkfjhcapocaa.AX
def mt (a : Fin 16 -> Int) (now : Int) (c : Ctx) : Bool := compr c now && pEq (maskP a c.bits) (pfxOf c)
theorem valid_cons {b : Int} {c : Ctx} {l : List Ctx} : validFrom b (c :: l) = true ↔ b < c.id /\ c.id < 16 /\ vpf (pfxOf c) = true /\ vt c.til = true /\ validFrom c.id l = true := by
 simp only [validFrom, Bool.and_eq_true, decide_eq_true_eq, and_assoc]
theorem valid_lt {c : Ctx} : ∀ {l : List Ctx} {b : Int}, validFrom b l = true -> c ∈ l -> b < c.id /\ vt c.til = true /\ c.id < 16 /\ vpf (pfxOf c) = true := by
 intro l
 induction l with
 | nil => intro b _ h; cases h
 | cons d l ih =>
   intro b hv hm
   obtain ⟨h1, h2, h3, h4, h5⟩ := valid_cons.1 hv
   rcases List.mem_cons.1 hm with rfl | hm
   . exact ⟨h1, h4, h2, h3⟩
   . obtain ⟨g1, g2⟩ := ih h5 hm
     exact ⟨by omega, g2⟩
theorem fold_spec (a : Fin 16 -> Int) (now : Int) : ∀ (l : List Ctx) (r : Ctx × Bool) (b : Int), validFrom b l = true -> (r.2 = true -> r.1.id <= b) ->
 (r.2 = true -> (foldC a now r l).2 = true /\ (foldC a now r l = r \/ r.1.bits < (foldC a now r l).1.bits)) /\
 (∀ c ∈ l, mt a now c = true -> (foldC a now r l).2 = true /\ (c.bits < (foldC a now r l).1.bits \/ (c.bits = (foldC a now r l).1.bits /\ (foldC a now r l).1.id <= c.id))) /\
 (foldC a now r l = r \/ ((foldC a now r l).2 = true /\ (foldC a now r l).1 ∈ l /\ mt a now (foldC a now r l).1 = true)) := by
 intro l
 induction l with
 | nil => intro r b _ _; exact ⟨fun h => ⟨h, .inl rfl⟩, (fun c h => by cases h), .inl rfl⟩
 | cons c l ih =>
   intro r b hv hr
   obtain ⟨h1, h2, h3, h4, h5⟩ := valid_cons.1 hv
   rw [foldC]
   by_cases hb : better a now r c = true
   . rw [if_pos hb]
     obtain ⟨i1, i2, i3⟩ := ih (c, true) c.id h5 (fun _ => Int.le_refl _)
     have hmt : mt a now c = true := by
      unfold better at hb
      simp only [Bool.and_eq_true] at hb
      unfold mt
      rw [hb.1.1, hb.1.2]; rfl
     have hlt : r.2 = true -> r.1.bits < c.bits := fun h => by
      unfold better at hb
      simp only [Bool.and_eq_true, h, Bool.not_true, Bool.false_or, decide_eq_true_eq] at hb
      exact hb.2
     obtain ⟨j1, j2⟩ := i1 rfl
     refine ⟨fun h => ⟨j1, .inr ?_⟩, fun d hd hm => ?_, .inr ?_⟩
     . rcases j2 with j2 | j2
       . rw [j2]; exact hlt h
       . have := hlt h
         have j2' : c.bits < (foldC a now (c, true) l).1.bits := j2
         omega
     . rcases List.mem_cons.1 hd with rfl | hd
       . refine ⟨j1, ?_⟩
         rcases j2 with j2 | j2
         . rw [j2]; exact .inr ⟨rfl, Int.le_refl _⟩
         . exact .inl j2
       . exact i2 d hd hm
     . rcases i3 with i3 | ⟨g1, g2, g3⟩
       . rw [i3]; exact ⟨rfl, List.mem_cons_self .., hmt⟩
       . exact ⟨g1, List.mem_cons_of_mem _ g2, g3⟩
   . rw [if_neg hb]
     obtain ⟨i1, i2, i3⟩ := ih r c.id h5 (fun h => by have := hr h; omega)
     refine ⟨i1, fun d hd hm => ?_, ?_⟩
     . rcases List.mem_cons.1 hd with rfl | hd
       . have hn : r.2 = true /\ ¬ r.1.bits < d.bits := by
          unfold mt at hm
          unfold better at hb
          simp only [Bool.and_eq_true] at hm
          rw [hm.1, hm.2] at hb
          simp only [Bool.true_and, Bool.or_eq_true, Bool.not_eq_true', decide_eq_true_eq, not_or, Bool.not_eq_false] at hb
          exact hb
         obtain ⟨j1, j2⟩ := i1 hn.1
         refine ⟨j1, ?_⟩
         have := hr hn.1
         rcases j2 with j2 | j2
         . rw [j2]
           by_cases e : d.bits = r.1.bits
           . exact .inr ⟨e, by omega⟩
           . exact .inl (by omega)
         . exact .inl (by omega)
       . exact i2 d hd hm
     . rcases i3 with i3 | ⟨g1, g2, g3⟩
       . exact .inl i3
       . exact .inr ⟨g1, List.mem_cons_of_mem _ g2, g3⟩
theorem forCom_eq {l : List Ctx} {a : Fin 16 -> Int} {now : Int} (hv : validT l = true) (ht : vt now = true) : forCom l a now = foldC a now (default, false) l := if_pos ⟨hv, ht⟩
end Go.Proofs.Ytjknkfjhcapocaa.AX
namespace Go.Proofs.Ytjknkfjhcapocaa.AX
open Go.RowKit
theorem bit_ok (a : Fin 16 -> Int) (i : Int) (h0 : 0 <= i) (h1 : i < 128) : PureOk Try.prog 123 [(cE (eA .u8 16)).enc a, (cI .i64).enc i] ((cI .u8).enc (bitF a i.toNat)) := by
 have hq : IntKind.i64.wrap (i.tdiv 8) = i / 8 := by rw [Int.tdiv_eq_ediv_of_nonneg h0]; exact IntWalk.i64_in _ (by omega)
 have hr : IntKind.u64.wrap (i.tmod 8) = i % 8 := by rw [Int.tmod_eq_emod_of_nonneg h0]; exact IntWalk.u64_in _ (by omega)
 have hs : IntKind.u64.wrap (7 - IntKind.u64.wrap (i.tmod 8)) = 7 - i % 8 := by rw [hr]; exact IntWalk.u64_in _ (by omega)
 refine pure_intro (wd := 1) (Q := mkQ LE0) (by decide) tysOk (q_of LE0_ok) mixed Try.func123 rfl _ (by show 2 <= _; decide) _ ?_
 repeat' (first | (apply And.intro <;> intro hc <;> (first | exact Bool.noConfusion hc | (simp only [zb0] at hc) | skip)) | (refine And.intro zp0 ?_) | (apply And.intro) | (intro s hs))
 . rw [hq]; show 1 <= 16 - _; omega
 refine Done.mk (leF_int ?_)
 show bits .and .u8 (shrI .u8 (vget a (0 + (IntKind.i64.wrap (i.tdiv 8)).toNat * 1 + 0)) (IntKind.u64.wrap (7 - IntKind.u64.wrap (i.tmod 8)))) 1 = _
 rw [hs, hq]
 unfold bitF bt
 rw [show 0 + (i / 8).toNat * 1 + 0 = i.toNat / 8 by omega, show ((i.toNat % 8 : Nat) : Int) = i % 8 by omega]
theorem bit_rd (a : Fin 16 -> Int) (n : Nat) : bitF ((eA .u8 16).rd fun q => (eA .u8 16).cell a (0 + q)) ((n : Int)).toNat = bitF a n := by
 rw [Int.toNat_natCast, rd_ip]
def LR0 : CsL := (123, some (pureE (AC.cons (cE (eA .u8 16)) (AC.cons (cI .i64) AC.nil)) (fun a => 0 <= a.2.1 /\ a.2.1 < 128) (fun a => bitF a.1 a.2.1.toNat) (cI .u8).enc)) :: []
theorem LR0_ok : AllOk Try.prog LR0 := ⟨pureE_ok ⟨_, Try.func123, rfl, by kernel_rfl⟩ fun a h => bit_ok a.1 a.2.1 h.1 h.2, trivial⟩
theorem common_ok (a b : Fin 16 -> Int) : PureOk Try.prog 155 [(cE (eA .u8 16)).enc a, (cE (eA .u8 16)).enc b] ((cI .i64).enc (common a b : Nat)) := by
 refine pure_intro (wd := 1) (Q := mkQ LR0) (by decide) tysOk (q_of LR0_ok) mixed Try.func155 rfl _ (by show 2 <= _; decide) _ ?_
 refine loop_intro (mono_of LR0_ok) (fun n : {n : Nat // n <= 128 /\ common a b = cmn a b (128 - n) n} => (⟨[(2, one (.ptr 0 0 0 false)), (3, one (.ptr 1 0 0 false)), (5, one (.int .i64 (n.1 : Int)))],
  [(0, some ⟨24, 1, 16, true, fun _ => (eA .u8 16).cell a⟩), (1, some ⟨24, 1, 16, true, fun _ => (eA .u8 16).cell b⟩)], 5⟩ : Hd)) (fun n => 128 - n.1) (fun _ => rfl) ?_ ⟨0, by omega, by unfold common; rw [Nat.sub_zero]⟩ [] ?_
 . rintro ⟨n, hn, hv⟩
   dsimp only at hn hv ⊢
   repeat' (first | (apply And.intro <;> intro hc <;> (first | exact Bool.noConfusion hc | (simp only [zb0] at hc) | skip)) | (refine And.intro zp0 ?_) | (apply And.intro) | (intro s hs))
   . rename_i hlt s1 hs1
     have e1 : s1 = bitF a n := hs1.trans (bit_rd a n)
     have e2 : s = bitF b n := hs.trans (bit_rd b n)
     refine ⟨⟨n + 1, by omega, ?_⟩, [], by dsimp only; omega, rfl, ?_, ?_⟩
     . rw [hv, show 128 - n = (128 - (n + 1)) + 1 by omega, cmn, if_pos (by rw [<- e1, <- e2]; exact hc)]
     . repeat' (first | exact zw0 | refine leF_int ?_ | refine leF_bool ?_ | exact zw1 | apply And.intro)
       refine (IntWalk.i64_in _ ?_).trans ?_
       . constructor <;> omega
       . dsimp only
         omega
     . repeat' (first | exact zw0 | refine leF_int ?_ | refine leF_bool ?_ | exact zw1 | apply And.intro)
   . rename_i hlt s1 hs1
     have e1 : s1 = bitF a n := hs1.trans (bit_rd a n)
     have e2 : s = bitF b n := hs.trans (bit_rd b n)
     refine Done.mk (leF_int ?_)
     rw [hv, show 128 - n = (128 - (n + 1)) + 1 by omega, cmn, if_neg (by rw [<- e1, <- e2]; exact hc)]
   . have : n = 128 := by omega
     subst this
     refine Done.mk (leF_int ?_)
     rw [hv]; rfl
 . refine ⟨rfl, ?_, ?_⟩
   . repeat' (first | exact zw0 | refine leF_int ?_ | refine leF_bool ?_ | exact zw1 | apply And.intro)
   . repeat' (first | exact zw0 | refine leF_int ?_ | refine leF_bool ?_ | exact zw1 | apply And.intro)
theorem bit_rdP (p : Pfx) (n : Nat) : bitF ((eA .u8 16).rd fun q => ePfx.cell p (0 + 0 + q)) ((n : Int)).toNat = bitF p.ip n := by
 rw [Int.toNat_natCast]
 have := ePfx_ip p
 simp only [Nat.zero_add] at this ⊢
 exact congrArg (bitF · n) this
theorem rvpf_ok (p : Pfx) (hp : byteOk p.ip) : PureOk Try.prog 86 [(cE ePfx).enc p] (cB.enc (vpf p)) := by
 refine pure_intro (wd := 1) (Q := mkQ LR0) (by decide) tysOk (q_of LR0_ok) mixed Try.func86 rfl _ (by show 1 <= _; decide) _ ?_
 repeat' (first | (apply And.intro <;> intro hc <;> (first | exact Bool.noConfusion hc | (simp only [zb0] at hc) | skip)) | (refine And.intro zp0 ?_) | (apply And.intro) | (intro s hs))
 . refine Done.mk (leF_bool ?_)
   simp [vpf]; omega
 . refine Done.mk (leF_bool ?_)
   simp [vpf]; omega
 . refine loop_intro (mono_of LR0_ok) (fun i : {i : Nat // p.bits <= i /\ i <= 128 /\ ∀ j : Nat, j < i -> p.bits <= j -> bitF p.ip j = 0} => (⟨[(1, one (.ptr 0 0 0 false)), (3, one (.int .i64 (i.1 : Int)))],
    [(0, some ⟨73, 1, 17, true, fun _ => ePfx.cell p⟩)], 14⟩ : Hd)) (fun i => 128 - i.1) (fun _ => rfl) ?_ ⟨p.bits.toNat, by omega, by omega, fun j h1 h2 => by omega⟩ [] ?_
   . rintro ⟨i, h1, h2, hv⟩
     dsimp only at h1 h2 hv ⊢
     repeat' (first | (apply And.intro <;> intro hc <;> (first | exact Bool.noConfusion hc | (simp only [zb0] at hc) | skip)) | (refine And.intro zp0 ?_) | (apply And.intro) | (intro s hs))
     . have e1 : s = bitF p.ip i := hs.trans (bit_rdP p i)
       have hcc : s ≠ 0 := hc
       refine Done.mk (leF_bool ?_)
       symm
       rw [Bool.eq_false_iff]
       intro h
       rw [vpf_iff hp] at h
       exact hcc (e1.trans (h.2 i (by omega) h1))
     . have e1 : s = bitF p.ip i := hs.trans (bit_rdP p i)
       refine ⟨⟨i + 1, by omega, by omega, fun j hj hb => ?_⟩, [], by dsimp only; omega, rfl, ?_, ?_⟩
       . by_cases hji : j = i
         . subst hji; rw [<- e1]; assumption
         . exact hv j (by omega) hb
       . repeat' (first | exact zw0 | refine leF_int ?_ | refine leF_bool ?_ | exact zw1 | apply And.intro)
         refine (IntWalk.i64_in _ ?_).trans ?_
         . constructor <;> omega
         . dsimp only
           omega
       . repeat' (first | exact zw0 | refine leF_int ?_ | refine leF_bool ?_ | exact zw1 | apply And.intro)
     . refine Done.mk (leF_bool ?_)
       symm
       rw [vpf_iff hp]
       exact ⟨by omega, fun j hj hb => hv j (by omega) hb⟩
   . refine ⟨rfl, ?_, ?_⟩
     . repeat' (first | exact zw0 | refine leF_int ?_ | refine leF_bool ?_ | exact zw1 | apply And.intro)
       show p.bits = ((p.bits.toNat : Nat) : Int)
       omega
     . repeat' (first | exact zw0 | refine leF_int ?_ | refine leF_bool ?_ | exact zw1 | apply And.intro)
theorem maskB_ne {a : Fin 16 -> Int} {i j : Nat} (h : j ≠ i / 8) : maskB a ((i + 1 : Nat) : Int) j = maskB a (i : Int) j := by
 unfold maskB
 have : keepAt ((i + 1 : Nat) : Int) j = keepAt (i : Int) j := by
  unfold keepAt clampI
  (repeat' split) <;> omega
 rw [this]
theorem maskB_at {a : Fin 16 -> Int} (ha : byteOk a) (i : Nat) : bits .or .u8 (maskB a (i : Int) (i / 8)) (shlI .u8 (bitF a i) (7 - ((i % 8 : Nat) : Int))) = maskB a ((i + 1 : Nat) : Int) (i / 8) := by
 obtain ⟨x, hx⟩ := byte_nat (ha.v (i / 8))
 have h := byt_step x ⟨i % 8, by omega⟩
 have k1 : keepAt (i : Int) (i / 8) = ((i % 8 : Nat) : Int) := by
  unfold keepAt clampI; split <;> split <;> omega
 have k2 : keepAt ((i + 1 : Nat) : Int) (i / 8) = ((i % 8 : Nat) : Int) + 1 := by
  unfold keepAt clampI; split <;> split <;> omega
 unfold maskB bitF
 rw [k1, k2, hx]
 exact h
theorem rm_step {a : Fin 16 -> Int} {i off j : Nat} {V : Int} (ho : off = i / 8) (hV : V = maskB a ((i + 1 : Nat) : Int) (i / 8)) : (bif Nat.ble off j && Nat.blt j (off + 1) then V else maskB a (i : Int) j) = maskB a ((i + 1 : Nat) : Int) j := by
 by_cases h : j = i / 8
 . rw [rng_in (by omega), cond_true, hV, h]
 . rw [rng_out (by omega), cond_false, maskB_ne h]
theorem maskB_zero {a : Fin 16 -> Int} (ha : byteOk a) (j : Nat) : maskB a ((0 : Nat) : Int) j = 0 := by
 obtain ⟨x, hx⟩ := byte_nat (ha.v j)
 unfold maskB
 rw [hx, show keepAt ((0 : Nat) : Int) j = 0 by unfold keepAt clampI; split <;> split <;> omega]
 exact byt_zero x
theorem rmask_ok (a : Fin 16 -> Int) (b : Int) (ha : byteOk a) : PureOk Try.prog 84 [(cE (eA .u8 16)).enc a, (cI .i64).enc b] ((cE ePfx).enc (maskP a b)) := by
 have hb := clampI_in b (lo := 0) (hi := 128) (by omega)
 refine pure_intro (wd := 1) (Q := mkQ LR0) (by decide) tysOk (q_of LR0_ok) mixed Try.func84 rfl _ (by show 2 <= _; decide) _ ?_
 refine loop_intro (mono_of LR0_ok) (fun i : {i : Nat // (i : Int) <= clampI b 0 128} => (⟨[(1, one (.int .i64 (clampI b 0 128))), (2, one (.ptr 0 0 0 false)), (4, one (.ptr 1 0 0 false)), (5, one (.ptr 8 0 0 false)), (6, one (.int .i64 (i.1 : Int)))],
  [(0, some ⟨24, 1, 16, true, fun _ => (eA .u8 16).cell a⟩), (1, some ⟨73, 1, 17, true, fun _ _ => .top⟩), (8, some ⟨73, 1, 17, true, fun _ j => .int (bif Nat.blt j 16 then .u8 else .i64) (bif Nat.blt j 16 then maskB a i.1 j else clampI b 0 128)⟩)], 11⟩ : Hd)) (fun i => 128 - i.1) (fun _ => rfl) ?_ ⟨0, by omega⟩ [] ?_
 . rintro ⟨i, hi⟩
   dsimp only at hi ⊢
   have hq : IntKind.i64.wrap ((i : Int).tdiv 8) = (i : Int) / 8 := by rw [Int.tdiv_eq_ediv_of_nonneg (by omega)]; exact IntWalk.i64_in _ (by omega)
   have hr : IntKind.u64.wrap ((i : Int).tmod 8) = (i : Int) % 8 := by rw [Int.tmod_eq_emod_of_nonneg (by omega)]; exact IntWalk.u64_in _ (by omega)
   have hsh : IntKind.u64.wrap (7 - IntKind.u64.wrap ((i : Int).tmod 8)) = 7 - (i : Int) % 8 := by rw [hr]; exact IntWalk.u64_in _ (by omega)
   have hk : (i : Int) < clampI b 0 128 -> Nat.blt (0 + 0 + (IntKind.i64.wrap ((i : Int).tdiv 8)).toNat * 1 + 0) 16 = true := fun h => by rw [hq]; exact Nat.ble_eq_true_of_le (by omega)
   repeat' (first | (apply And.intro <;> intro hc <;> (first | exact Bool.noConfusion hc | (simp only [zb0] at hc) | skip)) | (refine And.intro zp0 ?_) | (apply And.intro) | (intro s hs))
   . rw [hk hc]
     repeat' (first | (apply And.intro <;> intro hc <;> (first | exact Bool.noConfusion hc | (simp only [zb0] at hc) | skip)) | (refine And.intro zp0 ?_) | (apply And.intro) | (intro s hs))
     . have e1 : s = bitF a i := hs.trans (bit_rd a i)
       have ho : 0 + 0 + (IntKind.i64.wrap ((i : Int).tdiv 8)).toNat * 1 = i / 8 := by rw [hq]; omega
       have hV : bits .or .u8 (maskB a (i : Int) (0 + 0 + (IntKind.i64.wrap ((i : Int).tdiv 8)).toNat * 1 + 0)) (shlI .u8 s (IntKind.u64.wrap (7 - IntKind.u64.wrap ((i : Int).tmod 8)))) = maskB a ((i + 1 : Nat) : Int) (i / 8) := by
        rw [Nat.add_zero, ho, hsh, e1, <- maskB_at ha i, show ((i % 8 : Nat) : Int) = (i : Int) % 8 by omega]
       refine ⟨⟨i + 1, by omega⟩, [], by dsimp only; omega, rfl, ?_, ?_⟩
       . repeat' (first | exact zw0 | refine leF_int ?_ | refine leF_bool ?_ | exact zw1 | apply And.intro)
         refine (IntWalk.i64_in _ ?_).trans ?_
         . constructor <;> omega
         . dsimp only
           omega
       . repeat' (first | exact zw0 | refine leF_int ?_ | refine leF_bool ?_ | exact zw1 | apply And.intro)
         refine leN_var ?_
         repeat' (first | exact trivial | exact leC_int (rm_step ho hV) | apply And.intro)
         refine cond_out (b := Nat.ble (0 + 0 + (IntKind.i64.wrap ((i : Int).tdiv 8)).toNat * 1) 16 && Nat.blt 16 (0 + 0 + (IntKind.i64.wrap ((i : Int).tdiv 8)).toNat * 1 + 1)) (y := .int .i64 (clampI b 0 128)) (z := .int .i64 (clampI b 0 128)) ?_ ?_
         . exact rng_out (by rw [ho]; omega)
         . exact leC_int rfl
   . have hib : (i : Int) = clampI b 0 128 := by omega
     refine Done.mk (leF_e (leE_all ?_))
     rw [hib]
     repeat' (first | exact trivial | exact leC_int rfl | apply And.intro)
 . refine ⟨rfl, ?_, ?_⟩
   . repeat' (first | exact zw0 | refine leF_int ?_ | refine leF_bool ?_ | exact zw1 | apply And.intro)
   . repeat' (first | exact zw0 | refine leF_int ?_ | refine leF_bool ?_ | exact zw1 | apply And.intro)
     refine leN_var ?_
     repeat' (first | exact trivial | exact leC_int (maskB_zero ha _).symm | exact leC_int rfl | apply And.intro)
def LR1 : CsL := (86, some (pureE (AC.cons (cE ePfx) AC.nil) (fun a => byteOk a.1.ip) (fun a => vpf a.1) cB.enc)) ::
 (155, some (pureE (AC.cons (cE (eA .u8 16)) (AC.cons (cE (eA .u8 16)) AC.nil)) (fun _ => True) (fun a => ((common a.1 a.2.1 : Nat) : Int)) (cI .i64).enc)) ::
 (84, some (pureE (AC.cons (cE (eA .u8 16)) (AC.cons (cI .i64) AC.nil)) (fun a => byteOk a.1) (fun a => maskP a.1 a.2.1) (cE ePfx).enc)) :: LR0
theorem LR1_ok : AllOk Try.prog LR1 := ⟨pureE_ok ⟨_, Try.func86, rfl, by kernel_rfl⟩ fun a h => rvpf_ok a.1 h, pureE_ok ⟨_, Try.func155, rfl, by kernel_rfl⟩ fun a _ => common_ok a.1 a.2.1, pureE_ok ⟨_, Try.func84, rfl, by kernel_rfl⟩ fun a h => rmask_ok a.1 a.2.1 h, LR0_ok⟩
theorem rd_pfx (p : Pfx) : ePfx.rd (fun q => ePfx.cell p (0 + q)) = p := by
 simp only [Nat.zero_add]; exact ePfx_rd p
theorem contains_ok (p : Pfx) (a : Fin 16 -> Int) (hp : byteOk p.ip) (ha : byteOk a) : PureOk Try.prog 152 [(cE ePfx).enc p, (cE (eA .u8 16)).enc a] (cB.enc (containsF p a)) := by
 have hip : ((eA .u8 16).rd fun q => ePfx.cell p (0 + 0 + q)) = p.ip := by
  have := ePfx_ip p
  simp only [Nat.zero_add] at this ⊢
  exact this
 refine pure_intro (wd := 1) (Q := mkQ LR1) (by decide) tysOk (q_of LR1_ok) mixed Try.func152 rfl _ (by show 2 <= _; decide) _ ?_
 repeat' (first | (apply And.intro <;> intro hc <;> (first | exact Bool.noConfusion hc | (simp only [zb0] at hc) | skip)) | (refine And.intro zp0 ?_) | (apply And.intro) | (intro s hs))
 . show byteOk (ePfx.rd fun q => ePfx.cell p (0 + q)).ip
   rw [rd_pfx]; exact hp
 . rename_i s1 hs1
   have hc1 : s1 = true := by assumption
   have e1 : s1 = vpf p := hs1.trans (congrArg vpf (rd_pfx p))
   have e2 : s = ((common p.ip a : Nat) : Int) := hs.trans (by
    show ((common ((eA .u8 16).rd fun q => ePfx.cell p (0 + 0 + q)) ((eA .u8 16).rd fun q => (eA .u8 16).cell a (0 + q)) : Nat) : Int) = _
    rw [hip, rd_ip])
   refine Done.mk (leF_bool ?_)
   rw [Bool.eq_iff_iff, <- contains_iff hp ha, <- e2, <- e1, hc1]
   show decide (p.bits <= s) = true ↔ _
   simp
 . have e1 : s = vpf p := hs.trans (congrArg vpf (rd_pfx p))
   refine Done.mk (leF_bool ?_)
   symm
   rw [Bool.eq_false_iff]
   intro h
   have := (contains_iff hp ha).2 h
   rw [<- e1] at this
   simp_all
def ofB (x y : Int) (j : Nat) : Int := IntKind.u8.wrap (shrI .u64 (bif Nat.blt j 8 then x else y) (56 - 8 * ((j % 8 : Nat) : Int)))
def ofF (x y : Int) : Fin 16 -> Int := fun q => ofB x y q.1
theorem of_byteOk (x y : Int) : byteOk (ofF x y) := by
 refine ⟨fun q => ?_⟩
 have h : ∀ z, 0 <= IntKind.u8.wrap z /\ IntKind.u8.wrap z < 256 := fun z => by
  simp only [IntKind.wrap, IntKind.signed, IntKind.bits]
  constructor
  . exact Int.emod_nonneg _ (by decide)
  . exact Int.emod_lt_of_pos _ (by decide)
 exact h _
theorem of_step {x y v1 v2 : Int} {i off1 off2 j : Nat} (h1 : off1 = i) (h2 : off2 = 8 + i) (hi : i < 8) (hj : j < 16) (e1 : v1 = ofB x y i) (e2 : v2 = ofB x y (8 + i)) :
 (bif Nat.ble off2 j && Nat.blt j (off2 + 1) then v2 else (bif Nat.ble off1 j && Nat.blt j (off1 + 1) then v1 else if j % 8 < i then ofB x y j else 0)) = if j % 8 < i + 1 then ofB x y j else 0 := by
 by_cases a : j = 8 + i
 . rw [rng_in (by omega), cond_true, e2, if_pos (by omega), a]
 . rw [rng_out (by omega), cond_false]
   by_cases b : j = i
   . rw [rng_in (by omega), cond_true, e1, if_pos (by omega), b]
   . rw [rng_out (by omega), cond_false]
     by_cases c : j % 8 < i
     . rw [if_pos c, if_pos (by omega)]
     . rw [if_neg c, if_neg (by omega)]
theorem of_ok (x y : Int) : PureOk Try.prog 48 [(cI .u64).enc x, (cI .u64).enc y] ((cE (eA .u8 16)).enc (ofF x y)) := by
 refine pure_intro (wd := 1) (Q := mkQ LR0) (by decide) tysOk (q_of LR0_ok) mixed Try.func48 rfl _ (by show 2 <= _; decide) _ ?_
 refine loop_intro (mono_of LR0_ok) (fun i : {i : Nat // i <= 8} => (⟨[(0, one (.int .u64 x)), (1, one (.int .u64 y)), (4, one (.ptr 0 0 0 false)), (5, one (.ptr 1 0 0 false)), (6, one (.int .i64 (i.1 : Int)))],
  [(0, some ⟨24, 1, 16, true, fun _ _ => .top⟩), (1, some ⟨24, 1, 16, true, fun _ j => .int .u8 (if j % 8 < i.1 then ofB x y j else 0)⟩)], 3⟩ : Hd)) (fun i => 8 - i.1) (fun _ => rfl) ?_ ⟨0, by omega⟩ [] ?_
 . rintro ⟨i, hi⟩
   dsimp only at hi ⊢
   have h8 : IntKind.i64.wrap (8 + (i : Int)) = 8 + i := IntWalk.i64_in _ (by omega)
   have hu : IntKind.u64.wrap (i : Int) = i := IntWalk.u64_in _ (by omega)
   have hu8 : IntKind.u64.wrap (8 * IntKind.u64.wrap (i : Int)) = 8 * i := by rw [hu]; exact IntWalk.u64_in _ (by omega)
   have hsh : i < 8 -> IntKind.u64.wrap (56 - IntKind.u64.wrap (8 * IntKind.u64.wrap (i : Int))) = 56 - 8 * i := fun h => by rw [hu8]; exact IntWalk.u64_in _ (by omega)
   repeat' (first | (apply And.intro <;> intro hc <;> (first | exact Bool.noConfusion hc | (simp only [zb0] at hc) | skip)) | (refine And.intro zp0 ?_) | (apply And.intro) | (intro s hs))
   . have hs := hsh (by omega)
     have o1 : 0 + ((i : Int)).toNat * 1 = i := by omega
     have o2 : 0 + (IntKind.i64.wrap (8 + (i : Int))).toNat * 1 = 8 + i := by rw [h8]; omega
     have e1 : IntKind.u8.wrap (shrI .u64 x (IntKind.u64.wrap (56 - IntKind.u64.wrap (8 * IntKind.u64.wrap (i : Int))))) = ofB x y i := by
      unfold ofB
      rw [hs, show Nat.blt i 8 = true from Nat.ble_eq_true_of_le (by omega), show i % 8 = i by omega]; rfl
     have e2 : IntKind.u8.wrap (shrI .u64 y (IntKind.u64.wrap (56 - IntKind.u64.wrap (8 * IntKind.u64.wrap (i : Int))))) = ofB x y (8 + i) := by
      unfold ofB
      rw [hs, show Nat.blt (8 + i) 8 = false from by cases hb : Nat.blt (8 + i) 8 with
       | false => rfl
       | true => have := Nat.le_of_ble_eq_true hb; omega, show (8 + i) % 8 = i by omega]; rfl
     refine ⟨⟨i + 1, by omega⟩, [], by dsimp only; omega, rfl, ?_, ?_⟩
     . repeat' (first | exact zw0 | refine leF_int ?_ | refine leF_bool ?_ | exact zw1 | apply And.intro)
       refine (IntWalk.i64_in _ ?_).trans ?_
       . constructor <;> omega
       . dsimp only
         omega
     . repeat' (first | exact zw0 | refine leF_int ?_ | refine leF_bool ?_ | exact zw1 | apply And.intro)
       refine leN_varA fun j hj => ?_
       exact leC_int (of_step (j := j) o1 o2 (by omega) hj e1 e2)
   . have h8' : i = 8 := by omega
     subst h8'
     refine Done.mk (leF_e (leE_all ?_))
     repeat' (first | exact trivial | exact leC_int rfl | apply And.intro)
 . refine ⟨rfl, ?_, ?_⟩
   . repeat' (first | exact zw0 | refine leF_int ?_ | refine leF_bool ?_ | exact zw1 | apply And.intro)
   . repeat' (first | exact zw0 | refine leF_int ?_ | refine leF_bool ?_ | exact zw1 | apply And.intro)
     refine leN_var ?_
     repeat' (first | exact trivial | exact leC_int rfl | apply And.intro)
def LR2 : CsL := (152, some (pureE (AC.cons (cE ePfx) (AC.cons (cE (eA .u8 16)) AC.nil)) (fun a => byteOk a.1.ip /\ byteOk a.2.1) (fun a => containsF a.1 a.2.1) cB.enc)) ::
 (48, some (pureE (AC.cons (cI .u64) (AC.cons (cI .u64) AC.nil)) (fun _ => True) (fun a => ofF a.1 a.2.1) (cE (eA .u8 16)).enc)) :: LR1
theorem LR2_ok : AllOk Try.prog LR2 := ⟨pureE_ok ⟨_, Try.func152, rfl, by kernel_rfl⟩ fun a h => contains_ok a.1 a.2.1 h.1 h.2, pureE_ok ⟨_, Try.func48, rfl, by kernel_rfl⟩ fun a _ => of_ok a.1 a.2.1, LR1_ok⟩
def toU (l : List Int) : List UInt8 := l.map fun x => UInt8.ofNat x.toNat
theorem toU_app (l m : List Int) : toU (l ++ m) = toU l ++ toU m := by simp [toU]
theorem toU_len (l : List Int) : (toU l).length = l.length := by simp [toU]
theorem u8n {c : Int} (h : 0 <= c /\ c < 256) : ((UInt8.ofNat c.toNat).toNat : Int) = c := by
 rw [UInt8.toNat_ofNat', Nat.mod_eq_of_lt (by omega)]; omega
def totI (l : List Int) : Nat := tot true (toU l)
def inetF (l : List Int) : Int := 65535 - (foldN (totI l) : Int)
theorem totI_le (l : List Int) : totI l <= 32768 * l.length + 32768 := by have := tot_le (toU l); rw [toU_len] at this; exact this
theorem side_toU (l : List Int) : side true (toU l) = decide (l.length % 2 = 0) := by
 unfold side
 rw [toU_len]
 rcases Nat.mod_two_eq_zero_or_one l.length with h | h <;> simp [h]
theorem totI_snoc (l : List Int) (c : Int) (hc : 0 <= c /\ c < 256) : (totI (l ++ [c]) : Int) = totI l + if l.length % 2 = 0 then c * 256 else c := by
 unfold totI
 rw [toU_app, show toU [c] = [UInt8.ofNat c.toNat] from rfl, tot_snoc, side_toU]
 have := u8n hc
 by_cases h : l.length % 2 = 0
 . simp [h]; omega
 . simp [h]; omega
structure FdS (n : Nat) where
 x : Nat
 hx : x <= n
 h : foldN x = foldN n
theorem fold_ok (n : Nat) (hn : n <= 4611686018427387904) : PureOk Try.prog 143 [(cI .u64).enc n] ((cI .u16).enc (foldN n)) := by
 refine pure_intro (wd := 1) (Q := mkQ LE0) (by decide) tysOk (q_of LE0_ok) mixed Try.func143 rfl _ (by show 1 <= _; decide) _ ?_
 repeat' (first | (apply And.intro <;> intro hc <;> (first | exact Bool.noConfusion hc | (simp only [zb0] at hc) | skip)) | (refine And.intro zp0 ?_) | (apply And.intro) | (intro s hs))
 refine loop_intro (mono_of LE0_ok) (fun s : FdS n => (⟨[(0, one (.int .u64 (s.x : Int)))], [], 0⟩ : Hd)) (fun s => s.x) (fun _ => rfl) ?_ ⟨n, Nat.le_refl _, rfl⟩ [] ?_
 . rintro ⟨x, hx, h⟩
   dsimp only at hx h ⊢
   repeat' (first | (apply And.intro <;> intro hc <;> (first | exact Bool.noConfusion hc | (simp only [zb0] at hc) | skip)) | (refine And.intro zp0 ?_) | (apply And.intro) | (intro s hs))
   . have hc' : 65535 < x := by omega
     refine ⟨⟨x % 65536 + x / 65536, by omega, by rw [foldN_step hc']; exact h⟩, [], by dsimp only; omega, rfl, ?_, ?_⟩
     . repeat' (first | exact zw0 | refine leF_int ?_ | refine leF_bool ?_ | exact zw1 | apply And.intro)
       dsimp only
       rw [IntWalk.u64_in ((x : Int).tdiv 65536) (by rw [Int.tdiv_eq_ediv_of_nonneg (by omega)]; omega), IntWalk.u64_in _ (by rw [Int.tmod_eq_emod_of_nonneg (by omega), Int.tdiv_eq_ediv_of_nonneg (by omega)]; omega), Int.tmod_eq_emod_of_nonneg (by omega), Int.tdiv_eq_ediv_of_nonneg (by omega)]
       omega
     . repeat' (first | exact zw0 | refine leF_int ?_ | refine leF_bool ?_ | exact zw1 | apply And.intro)
   . refine Done.mk (leF_int ?_)
     rw [<- h, foldN_small (by omega)]
     exact IntWalk.u16_in _ (by omega)
 . refine ⟨rfl, ?_, ?_⟩
   . repeat' (first | exact zw0 | refine leF_int ?_ | refine leF_bool ?_ | exact zw1 | apply And.intro)
   . repeat' (first | exact zw0 | refine leF_int ?_ | refine leF_bool ?_ | exact zw1 | apply And.intro)
theorem rfold_ok (n : Nat) (hn : n <= 4611686018427387904) : PureOk Try.prog 145 [(cI .i64).enc n] ((cI .u16).enc (foldN n)) := by
 refine pure_intro (wd := 1) (Q := mkQ LE0) (by decide) tysOk (q_of LE0_ok) mixed Try.func145 rfl _ (by show 1 <= _; decide) _ ?_
 repeat' (first | (apply And.intro <;> intro hc <;> (first | exact Bool.noConfusion hc | (simp only [zb0] at hc) | skip)) | (refine And.intro zp0 ?_) | (apply And.intro) | (intro s hs))
 refine loop_intro (mono_of LE0_ok) (fun s : FdS n => (⟨[(0, one (.int .i64 (s.x : Int)))], [], 0⟩ : Hd)) (fun s => s.x) (fun _ => rfl) ?_ ⟨n, Nat.le_refl _, rfl⟩ [] ?_
 . rintro ⟨x, hx, h⟩
   dsimp only at hx h ⊢
   repeat' (first | (apply And.intro <;> intro hc <;> (first | exact Bool.noConfusion hc | (simp only [zb0] at hc) | skip)) | (refine And.intro zp0 ?_) | (apply And.intro) | (intro s hs))
   . have hc' : 65535 < x := by omega
     refine ⟨⟨x % 65536 + x / 65536, by omega, by rw [foldN_step hc']; exact h⟩, [], by dsimp only; omega, rfl, ?_, ?_⟩
     . repeat' (first | exact zw0 | refine leF_int ?_ | refine leF_bool ?_ | exact zw1 | apply And.intro)
       dsimp only
       rw [IntWalk.i64_in ((x : Int).tdiv 65536) (by rw [Int.tdiv_eq_ediv_of_nonneg (by omega)]; omega), IntWalk.i64_in _ (by rw [Int.tmod_eq_emod_of_nonneg (by omega), Int.tdiv_eq_ediv_of_nonneg (by omega)]; omega), Int.tmod_eq_emod_of_nonneg (by omega), Int.tdiv_eq_ediv_of_nonneg (by omega)]
       omega
     . repeat' (first | exact zw0 | refine leF_int ?_ | refine leF_bool ?_ | exact zw1 | apply And.intro)
   . refine Done.mk (leF_int ?_)
     rw [<- h, foldN_small (by omega)]
     exact IntWalk.u16_in _ (by omega)
 . refine ⟨rfl, ?_, ?_⟩
   . repeat' (first | exact zw0 | refine leF_int ?_ | refine leF_bool ?_ | exact zw1 | apply And.intro)
   . repeat' (first | exact zw0 | refine leF_int ?_ | refine leF_bool ?_ | exact zw1 | apply And.intro)
def hiB (l : List Int) : Bool := decide (l.length % 2 = 0)
theorem hiB_snoc (l : List Int) (c : Int) : hiB (l ++ [c]) = !hiB l := by
 unfold hiB
 rw [List.length_append, List.length_singleton]
 rcases Nat.mod_two_eq_zero_or_one l.length with h | h
 . have : (l.length + 1) % 2 = 1 := by omega
   simp [h, this]
 . have : (l.length + 1) % 2 = 0 := by omega
   simp [h, this]
theorem totI_hi (l : List Int) (c : Int) (hc : 0 <= c /\ c < 256) (h : hiB l = true) : (totI (l ++ [c]) : Int) = totI l + c * 256 := by
 rw [totI_snoc l c hc, if_pos (by simpa [hiB] using h)]
theorem totI_lo (l : List Int) (c : Int) (hc : 0 <= c /\ c < 256) (h : hiB l = false) : (totI (l ++ [c]) : Int) = totI l + c := by
 rw [totI_snoc l c hc, if_neg (by simpa [hiB] using h)]
theorem flat_take {L : List (List Int)} {k : Nat} (h : k < L.length) : (L.take (k + 1)).flatten = (L.take k).flatten ++ L.getD k [] := by
 rw [List.take_succ_eq_append_getElem h, List.flatten_append, List.getD_eq_getElem?_getD, List.getElem?_eq_getElem h]
 simp
structure BLL (L : List (List Int)) : Prop where
 m : ∀ l ∈ L, BL l
theorem BLL.get {L : List (List Int)} (h : BLL L) (k : Nat) : BL (L.getD k []) := by
 rcases Nat.lt_or_ge k L.length with hi | hi
 . rw [List.getD_eq_getElem?_getD, List.getElem?_eq_getElem hi]; exact h.m _ (List.getElem_mem hi)
 . rw [List.getD_eq_getElem?_getD, List.getElem?_eq_none hi]; exact BL.nil
theorem BLL.flat {L : List (List Int)} (h : BLL L) : BL L.flatten := ⟨fun x hx => by
 obtain ⟨l, hl, hxl⟩ := List.mem_flatten.1 hx
 exact (h.m l hl).m x hxl⟩
theorem flat_le (L : List (List Int)) (k : Nat) : (L.take k).flatten.length <= L.flatten.length := by
 have h : L.flatten = (L.take k).flatten ++ (L.drop k).flatten := by rw [<- List.flatten_append, List.take_append_drop]
 rw [h]; simp
structure TtS (L : List (List Int)) (k : Nat) where
 i : Nat
 hi : i <= (L.getD k []).length
theorem total_ok (L : List (List Int)) (hL : BLL L) (hn : L.length <= 4611686018427387904) (hf : L.flatten.length <= 281474976710000) : PureOk Try.prog 144 [(cLL eB eB_sz).enc L] ((cI .u64).enc (totI L.flatten)) := by
 refine pure_intro (wd := 1) (Q := mkQ LE0) (by decide) tysOk (q_of LE0_ok) mixed Try.func144 rfl _ (by show 1 <= _; decide) _ ?_
 repeat' (first | (apply And.intro <;> intro hc <;> (first | exact Bool.noConfusion hc | (simp only [zb0] at hc) | skip)) | (refine And.intro zp0 ?_) | (apply And.intro) | (intro s hs))
 refine loop_intro (mono_of LE0_ok) (fun s : {k : Nat // k <= L.length} => (⟨[(3, one (.int .u64 (totI (L.take s.1).flatten))), (4, one (.bool (hiB (L.take s.1).flatten))), (9, one (.sl false L.length 1 (rowFF eB L))), (10, one (.int .i64 (L.length : Int))), (11, one (.int .i64 (s.1 : Int)))], [], 0⟩ : Hd)) (fun s => L.length - s.1) (fun _ => rfl) ?_ ⟨0, by omega⟩ [] ?_
 . rintro ⟨k, hk⟩
   dsimp only at hk ⊢
   repeat' (first | (apply And.intro <;> intro hc <;> (first | exact Bool.noConfusion hc | (simp only [zb0] at hc) | skip)) | (refine And.intro zp0 ?_) | (apply And.intro) | (intro s hs))
   . have hk' : k < L.length := by omega
     obtain ⟨w, hw⟩ : ∃ w, L.getD k [] = w := ⟨_, rfl⟩
     have hwB : BL w := by rw [<- hw]; exact hL.get k
     obtain ⟨Q, hQ⟩ : ∃ Q, Q = (L.take k).flatten := ⟨_, rfl⟩
     have hQw : Q.length + w.length <= 281474976710000 := by
      have h1 := flat_le L (k + 1)
      rw [flat_take hk', List.length_append, hw, <- hQ] at h1
      omega
     rw [<- hQ]
     refine loop_intro (mono_of LE0_ok) (fun s : {i : Nat // i <= w.length} => (⟨[(3, one (.int .u64 (totI (Q ++ w.take s.1)))), (4, one (.bool (hiB (Q ++ w.take s.1)))), (9, one (.sl false L.length 1 (rowFF eB L))), (10, one (.int .i64 (L.length : Int))), (11, one (.int .i64 (k : Int))), (15, one (.sl false w.length eB.sz (rowF eB w))), (16, one (.int .i64 (w.length : Int))), (17, one (.int .i64 (s.1 : Int)))], [], 0⟩ : Hd)) (fun s => w.length - s.1) (fun _ => rfl) ?_ ⟨0, by omega⟩ [] ?_
     . rintro ⟨i, hi⟩
       dsimp only at hi ⊢
       have hx := hwB.get i
       obtain ⟨c, hcc⟩ : ∃ c, c = w.getD i default := ⟨_, rfl⟩
       rw [<- hcc] at hx
       have hle := totI_le (Q ++ w.take i)
       have hlen : (Q ++ w.take i).length <= 281474976710000 := by rw [List.length_append, List.length_take]; omega
       have hstep : i < w.length -> Q ++ w.take (i + 1) = (Q ++ w.take i) ++ [c] := fun h => by rw [take_snocI h, <- List.append_assoc, hcc]
       have e1 : IntKind.u64.wrap c = c := IntWalk.u64_in _ (by omega)
       have e2 : shlI .u64 (IntKind.u64.wrap c) 8 = c * 256 := by rw [e1]; exact shl8 c (by omega)
       repeat' (first | (apply And.intro <;> intro hc <;> (first | exact Bool.noConfusion hc | (simp only [zb0] at hc) | skip)) | (refine And.intro zp0 ?_) | (apply And.intro) | (intro s hs))
       . have hlt : i < w.length := by omega
         refine ⟨⟨i + 1, by omega⟩, [], by dsimp only <;> omega, rfl, ?_, ?_⟩
         . repeat' (first | exact zw0 | refine leF_int ?_ | refine leF_bool ?_ | exact zw1 | apply And.intro)
           . have ht := totI_hi (Q ++ w.take i) c hx (by assumption)
             show _ = ((totI (Q ++ w.take (i + 1)) : Nat) : Int)
             rw [hstep hlt, ht, <- e2]
             exact (congrArg _ (by rw [hcc]; rfl)).trans (IntWalk.u64_in _ (by omega))
           . show _ = hiB (Q ++ w.take (i + 1))
             rw [hstep hlt, hiB_snoc]
           . exact zaw
         . repeat' (first | exact zw0 | refine leF_int ?_ | refine leF_bool ?_ | exact zw1 | apply And.intro)
       . have hlt : i < w.length := by omega
         refine ⟨⟨i + 1, by omega⟩, [], by dsimp only <;> omega, rfl, ?_, ?_⟩
         . repeat' (first | exact zw0 | refine leF_int ?_ | refine leF_bool ?_ | exact zw1 | apply And.intro)
           . have ht := totI_lo (Q ++ w.take i) c hx (by assumption)
             show _ = ((totI (Q ++ w.take (i + 1)) : Nat) : Int)
             rw [hstep hlt, ht, <- e1]
             exact (congrArg _ (by rw [hcc]; rfl)).trans (IntWalk.u64_in _ (by omega))
           . show _ = hiB (Q ++ w.take (i + 1))
             rw [hstep hlt, hiB_snoc]
           . exact zaw
         . repeat' (first | exact zw0 | refine leF_int ?_ | refine leF_bool ?_ | exact zw1 | apply And.intro)
       . have hend : Q ++ w.take i = (L.take (k + 1)).flatten := by rw [List.take_of_length_le (by omega), flat_take hk', hw, hQ]
         refine ⟨⟨k + 1, by omega⟩, [], by dsimp only <;> omega, rfl, ?_, ?_⟩
         . repeat' (first | exact zw0 | refine leF_int ?_ | refine leF_bool ?_ | exact zw1 | apply And.intro)
           . show _ = ((totI (L.take (k + 1)).flatten : Nat) : Int)
             rw [hend]
           . show _ = hiB (L.take (k + 1)).flatten
             rw [hend]
           . exact zaw
         . repeat' (first | exact zw0 | refine leF_int ?_ | refine leF_bool ?_ | exact zw1 | apply And.intro)
     . refine ⟨rfl, ?_, ?_⟩
       . repeat' (first | exact zw0 | refine leF_int ?_ | refine leF_bool ?_ | exact zw1 | apply And.intro)
         . show _ = ((totI (Q ++ []) : Nat) : Int)
           rw [List.append_nil]
         . show _ = hiB (Q ++ [])
           rw [List.append_nil]
         . exact leF_c (leC_sl (fun h => by cases h) (by rw [<- hw]; rfl) rfl fun i hi j hj => leC_cell (E := eB) (by rw [<- hw]; rfl))
         . exact congrArg _ (congrArg _ hw)
       . repeat' (first | exact zw0 | refine leF_int ?_ | refine leF_bool ?_ | exact zw1 | apply And.intro)
   . refine Done.mk (leF_int ?_)
     rw [List.take_of_length_le (by omega)]
 . refine ⟨rfl, ?_, ?_⟩
   . repeat' (first | exact zw0 | refine leF_int ?_ | refine leF_bool ?_ | exact zw1 | apply And.intro)
   . repeat' (first | exact zw0 | refine leF_int ?_ | refine leF_bool ?_ | exact zw1 | apply And.intro)
def llE {R : Type} (p : List (List Int) -> Prop) (F : List (List Int) -> R) (enc : R -> FV) : Entry := fun args H _ _ =>
 match args with
 | [.e (.c (.sl _ n s f))] => bif Nat.beq s 1 then some fun K => ∃ L, (f = rowFF eB L /\ n = L.length) /\ p L /\ K (enc (F L)) [] [] else none
 | _ => none
theorem llE_ok {R : Type} {p : List (List Int) -> Prop} {F : List (List Int) -> R} {enc : R -> FV} {P : Program} {f : FuncId} (hb : hasBody P f) (h : ∀ L, p L -> PureOk P f [(cLL eB eB_sz).enc L] (enc (F L))) : EntOk P f (llE p F enc) := by
 refine ⟨fun args H nm wd q _ hq K hK => ?_, fun args H nm wd q hq K K' hKK hK => ?_⟩
 . unfold llE at hq
   split at hq
   . rename_i sh n s g
     obtain ⟨hs, hq⟩ := cond_some hq
     subst hq
     obtain ⟨L, ⟨rfl, rfl⟩, hp, hK⟩ := hK
     have hs := Nat.eq_of_beq_eq_true hs
     subst hs
     refine ⟨_, _, _, callR_pure hb (args' := [(cLL eB eB_sz).enc L]) (rd := []) (fun H' _ => ⟨rfl, fun i x y hx hy => ?_⟩) (h L hp), hK⟩
     cases i with
     | zero =>
       simp only [List.getElem?_cons_zero, Option.some.injEq] at hx hy
       subst hx hy
       rintro cx r w v st ⟨a, cap, rfl, h1, h2⟩
       refine ⟨a, cap, rfl, h1, fun h0 => ?_⟩
       obtain ⟨ad, rfl, hsp, ho, hX, hlt, hc⟩ := h2 h0
       refine ⟨ad, rfl, hsp, fun ⟨k, e, x, q1, q2, q3, _⟩ => ho ⟨k, e, x, q1, q2, q3⟩, (fun h => by cases h), hlt, fun i hi j hj => ?_⟩
       obtain ⟨u, hu, hr⟩ := hc i hi j hj
       refine ⟨u, hu, ?_⟩
       obtain ⟨a', cap', rfl, g1, g2⟩ := hr
       refine ⟨a', cap', rfl, g1, fun h0' => ?_⟩
       obtain ⟨ad', rfl, hsp', ho', hX', hlt', hc'⟩ := g2 h0'
       refine ⟨ad', rfl, hsp', fun ⟨k, e, x, q1, q2, q3, _⟩ => ho' ⟨k, e, x, q1, q2, q3⟩, (fun h => by cases h), hlt', fun i' hi' j' hj' => ?_⟩
       obtain ⟨u', hu', hr'⟩ := hc' i' hi' j' hj'
       exact ⟨u', hu', (eB.flat _ _) _ _ _ _ _ _ _ _ _ hr'⟩
     | succ i => cases i <;> cases hx
   . cases hq
 . unfold llE at hq
   split at hq
   . obtain ⟨hs, hq⟩ := cond_some hq
     subst hq
     obtain ⟨L, h1, h2, h3⟩ := hK
     exact ⟨L, h1, h2, hKK _ _ _ h3⟩
   . cases hq
def LSm0 : CsL := (144, some (llE (fun L => BLL L /\ L.length <= 4611686018427387904 /\ L.flatten.length <= 281474976710000) (fun L => (totI L.flatten : Int)) (cI .u64).enc)) ::
 (143, some (pureE (AC.cons (cI .u64) AC.nil) (fun a => 0 <= a.1 /\ a.1 <= 4611686018427387904) (fun a => (foldN a.1.toNat : Int)) (cI .u16).enc)) ::
 (145, some (pureE (AC.cons (cI .i64) AC.nil) (fun a => 0 <= a.1 /\ a.1 <= 4611686018427387904) (fun a => (foldN a.1.toNat : Int)) (cI .u16).enc)) :: []
theorem LSm0_ok : AllOk Try.prog LSm0 := ⟨llE_ok ⟨_, Try.func144, rfl, by kernel_rfl⟩ fun L h => total_ok L h.1 h.2.1 h.2.2,
 pureE_ok ⟨_, Try.func143, rfl, by kernel_rfl⟩ fun a h => by have := fold_ok a.1.toNat (by omega); rw [show ((a.1.toNat : Nat) : Int) = a.1 by omega] at this; exact this,
 pureE_ok ⟨_, Try.func145, rfl, by kernel_rfl⟩ fun a h => by have := rfold_ok a.1.toNat (by omega); rw [show ((a.1.toNat : Nat) : Int) = a.1 by omega] at this; exact this, trivial⟩
theorem inet_ok (L : List (List Int)) (hL : BLL L) (hn : L.length <= 16) (hf : L.flatten.length <= 70368744177664) : PureOk Try.prog 108 [(cLL eB eB_sz).enc L] ((cI .u16).enc (inetF L.flatten)) := by
 have ht := totI_le L.flatten
 have hF := foldN_le (totI L.flatten)
 refine pure_intro (wd := 1) (Q := mkQ LSm0) (by decide) tysOk (q_of LSm0_ok) mixed Try.func108 rfl _ (by show 1 <= _; decide) _ ?_
 refine ⟨L, ⟨rfl, rfl⟩, ⟨hL, by omega, by omega⟩, ?_⟩
 refine ⟨⟨by dsimp only; omega, by dsimp only; omega⟩, fun s hs => ?_⟩
 have hs' : s = (foldN (totI L.flatten) : Int) := hs
 subst hs'
 exact Done.mk (leF_int (IntWalk.u16_in _ (by omega)))
structure SuS (l : List Int) where
 k : Nat
 hk : k % 2 = 0
 hle : k <= l.length + 1
theorem hiB_take {l : List Int} {k : Nat} (h : k <= l.length) : hiB (l.take k) = decide (k % 2 = 0) := by unfold hiB; rw [List.length_take, Nat.min_eq_left h]
theorem totI_two {l : List Int} (hl : BL l) {k : Nat} (hk : k + 1 < l.length) (he : k % 2 = 0) : (totI (l.take (k + 2)) : Int) = totI (l.take k) + (256 * l.getD k default + l.getD (k + 1) default) := by
 rw [take_snocI hk, totI_lo _ _ (hl.get _) (by rw [hiB_take (by omega)]; simp; omega), take_snocI (by omega), totI_hi _ _ (hl.get _) (by rw [hiB_take (by omega)]; simp; omega)]
 omega
theorem totI_one {l : List Int} (hl : BL l) {k : Nat} (hk : k + 1 = l.length) (he : k % 2 = 0) : (totI (l.take (k + 2)) : Int) = totI (l.take k) + 256 * l.getD k default := by
 have e : l.take (k + 2) = l.take k ++ [l.getD k default] := by rw [<- take_snocI (by omega), List.take_of_length_le (by omega), List.take_of_length_le (by omega)]
 rw [e, totI_hi _ _ (hl.get _) (by rw [hiB_take (by omega)]; simp; omega)]
 omega
theorem rsum_ok (l : List Int) (hl : BL l) (hn : l.length <= 70368744177664) : PureOk Try.prog 109 [(cSl eB eB_sz).enc l] ((cI .u16).enc (foldN (totI l))) := by
 refine pure_intro (wd := 1) (Q := mkQ LSm0) (by decide) tysOk (q_of LSm0_ok) mixed Try.func109 rfl _ (by show 1 <= _; decide) _ ?_
 repeat' (first | (apply And.intro <;> intro hc <;> (first | exact Bool.noConfusion hc | (simp only [zb0] at hc) | skip)) | (refine And.intro zp0 ?_) | (apply And.intro) | (intro s hs))
 refine loop_intro (mono_of LSm0_ok) (fun s : SuS l => (⟨[(0, one (.sl false l.length eB.sz (rowF eB l))), (3, one (.int .u16 (foldN (totI (l.take s.k))))), (4, one (.int .i64 (s.k : Int)))], [], 0⟩ : Hd)) (fun s => l.length + 1 - s.k) (fun _ => rfl) ?_ ⟨0, by omega, by omega⟩ [] ?_
 . rintro ⟨k, hk, hle⟩
   dsimp only at hk hle ⊢
   have hF := foldN_le (totI (l.take k))
   have x1 := hl.get k
   have x2 := hl.get (k + 1)
   have w1 : IntKind.i64.wrap (256 * l.getD k default) = 256 * l.getD k default := IntWalk.i64_in _ (by omega)
   have w2 : IntKind.i64.wrap ((k : Int) + 1) = k + 1 := IntWalk.i64_in _ (by omega)
   have w3 : IntKind.i64.wrap (l.getD k default) = l.getD k default := IntWalk.i64_in _ (by omega)
   have w4 : IntKind.i64.wrap (l.getD (k + 1) default) = l.getD (k + 1) default := IntWalk.i64_in _ (by omega)
   have w5 : IntKind.i64.wrap (foldN (totI (l.take k)) : Int) = foldN (totI (l.take k)) := IntWalk.i64_in _ (by omega)
   have w6 : IntKind.i64.wrap (256 * l.getD k default + l.getD (k + 1) default) = 256 * l.getD k default + l.getD (k + 1) default := IntWalk.i64_in _ (by omega)
   have w7 : IntKind.i64.wrap ((foldN (totI (l.take k)) : Int) + (256 * l.getD k default + l.getD (k + 1) default)) = foldN (totI (l.take k)) + (256 * l.getD k default + l.getD (k + 1) default) := IntWalk.i64_in _ (by omega)
   have w8 : IntKind.i64.wrap ((foldN (totI (l.take k)) : Int) + 256 * l.getD k default) = foldN (totI (l.take k)) + 256 * l.getD k default := IntWalk.i64_in _ (by omega)
   have w9 : IntKind.i64.wrap ((k : Int) + 2) = k + 2 := IntWalk.i64_in _ (by omega)
   have q1 : IntKind.i64.wrap (IntKind.i64.wrap (foldN (totI (l.take k)) : Int) + IntKind.i64.wrap (IntKind.i64.wrap (256 * IntKind.i64.wrap (l.getD (k : Int).toNat default)) + IntKind.i64.wrap (l.getD (IntKind.i64.wrap ((k : Int) + 1)).toNat default))) = foldN (totI (l.take k)) + (256 * l.getD k default + l.getD (k + 1) default) := by
    rw [Int.toNat_natCast, w2, show ((k : Int) + 1).toNat = k + 1 by omega, w3, w4, w1, w6, w5, w7]
   have q2 : IntKind.i64.wrap (IntKind.i64.wrap (foldN (totI (l.take k)) : Int) + IntKind.i64.wrap (256 * IntKind.i64.wrap (l.getD (k : Int).toNat default))) = foldN (totI (l.take k)) + 256 * l.getD k default := by
    rw [Int.toNat_natCast, w3, w1, w5, w8]
   repeat' (first | (apply And.intro <;> intro hc <;> (first | exact Bool.noConfusion hc | (simp only [zb0] at hc) | skip)) | (refine And.intro zp0 ?_) | (apply And.intro) | (intro s hs))
   . have hs' : s = (foldN (IntKind.i64.wrap (IntKind.i64.wrap (foldN (totI (l.take k)) : Int) + IntKind.i64.wrap (IntKind.i64.wrap (256 * IntKind.i64.wrap (l.getD (k : Int).toNat default)) + IntKind.i64.wrap (l.getD (IntKind.i64.wrap ((k : Int) + 1)).toNat default)))).toNat : Int) := hs
     rw [q1] at hs'
     have ht := totI_two hl (k := k) (by omega) hk
     have e : ((foldN (totI (l.take k)) : Int) + (256 * l.getD k default + l.getD (k + 1) default)).toNat = foldN (totI (l.take k)) + (256 * l.getD k default + l.getD (k + 1) default).toNat := by omega
     rw [e, foldN_add, show totI (l.take k) + (256 * l.getD k default + l.getD (k + 1) default).toNat = totI (l.take (k + 2)) by omega] at hs'
     refine ⟨⟨k + 2, by omega, by omega⟩, [], by dsimp only <;> omega, rfl, ?_, ?_⟩
     . repeat' (first | exact zw0 | refine leF_int ?_ | refine leF_bool ?_ | exact zw1 | apply And.intro)
       . exact hs'
       . exact zaw
     . repeat' (first | exact zw0 | refine leF_int ?_ | refine leF_bool ?_ | exact zw1 | apply And.intro)
   . have hs' : s = (foldN (IntKind.i64.wrap (IntKind.i64.wrap (foldN (totI (l.take k)) : Int) + IntKind.i64.wrap (256 * IntKind.i64.wrap (l.getD (k : Int).toNat default)))).toNat : Int) := hs
     rw [q2] at hs'
     have ht := totI_one hl (k := k) (by omega) hk
     have e : ((foldN (totI (l.take k)) : Int) + 256 * l.getD k default).toNat = foldN (totI (l.take k)) + (256 * l.getD k default).toNat := by omega
     rw [e, foldN_add, show totI (l.take k) + (256 * l.getD k default).toNat = totI (l.take (k + 2)) by omega] at hs'
     refine ⟨⟨k + 2, by omega, by omega⟩, [], by dsimp only <;> omega, rfl, ?_, ?_⟩
     . repeat' (first | exact zw0 | refine leF_int ?_ | refine leF_bool ?_ | exact zw1 | apply And.intro)
       . exact hs'
       . exact zaw
     . repeat' (first | exact zw0 | refine leF_int ?_ | refine leF_bool ?_ | exact zw1 | apply And.intro)
   . refine Done.mk (leF_int ?_)
     rw [List.take_of_length_le (by omega)]
 . refine ⟨rfl, ?_, ?_⟩
   . repeat' (first | exact zw0 | refine leF_int ?_ | refine leF_bool ?_ | exact zw1 | apply And.intro)
   . repeat' (first | exact zw0 | refine leF_int ?_ | refine leF_bool ?_ | exact zw1 | apply And.intro)
def LSm1 : CsL := (109, some (pureE (AC.cons (cSl eB eB_sz) AC.nil) (fun a => BL a.1 /\ a.1.length <= 70368744177664) (fun a => (foldN (totI a.1) : Int)) (cI .u16).enc)) :: LSm0
theorem LSm1_ok : AllOk Try.prog LSm1 := ⟨pureE_ok ⟨_, Try.func109, rfl, by kernel_rfl⟩ fun a h => rsum_ok a.1 h.1 h.2, LSm0_ok⟩
theorem rinet_ok (L : List (List Int)) (hL : BLL L) (hn : L.length <= 16) (hf : L.flatten.length <= 70368744177664) : PureOk Try.prog 68 [(cLL eB eB_sz).enc L] ((cI .u16).enc (inetF L.flatten)) := by
 have hF := foldN_le (totI L.flatten)
 refine pure_intro (wd := 1) (Q := mkQ LSm1) (by decide) tysOk (q_of LSm1_ok) mixed Try.func68 rfl _ (by show 1 <= _; decide) _ ?_
 repeat' (first | (apply And.intro <;> intro hc <;> (first | exact Bool.noConfusion hc | (simp only [zb0] at hc) | skip)) | (refine And.intro zp0 ?_) | (apply And.intro) | (intro s hs))
 refine loop_intro (mono_of LSm1_ok) (fun s : {k : Nat // k <= L.length} => (⟨[(0, one (.sl false L.length 1 (rowFF eB L))), (3, one (.os 40 0 (L.take s.1).flatten.length)), (4, one (.int .i64 (s.1 : Int)))], [(40, some (ents eB 5 (L.take s.1).flatten))], 41⟩ : Hd)) (fun s => L.length - s.1) (fun _ => rfl) ?_ ⟨0, by omega⟩ [(40, none)] ?_
 . rintro ⟨k, hk⟩
   dsimp only at hk ⊢
   have hle := flat_le L (k + 1)
   obtain ⟨Q, hQ⟩ : ∃ Q, Q = (L.take k).flatten := ⟨_, rfl⟩
   have hQl : Q.length <= 70368744177664 := by have := flat_le L k; rw [hQ]; omega
   have hnext : k < L.length -> (L.take (k + 1)).flatten = Q ++ L.getD k [] := fun h => by rw [flat_take h, hQ]
   have hbd : k < L.length -> Q.length + (L.getD k []).length <= 70368744177664 := fun h => by rw [hnext h, List.length_append] at hle; omega
   rw [<- hQ]
   repeat' (first | (apply And.intro <;> intro hc <;> (first | exact Bool.noConfusion hc | (simp only [zb0] at hc) | skip)) | (refine And.intro zp0 ?_) | (apply And.intro) | (intro s hs))
   all_goals first
    | exact rfl
    | (have := hbd (by omega); rw [Int.natCast_one, Int.one_mul]; omega)
    | (have := hbd (by omega); rw [Int.toNat_natCast]; omega)
    | omega
    | skip
   . have hk' : k < L.length := by omega
     refine ⟨⟨k + 1, by omega⟩, [(40, some 50)], by dsimp only <;> omega, rfl, ?_, ?_⟩
     . repeat' (first | exact zw0 | refine leF_int ?_ | refine leF_bool ?_ | exact zw1 | apply And.intro)
       . refine leF_c (leC_os rfl ?_)
         show _ = (L.take (k + 1)).flatten.length
         rw [hnext hk', List.length_append]; rfl
       . exact zaw
     . repeat' (first | exact zw0 | refine leF_int ?_ | refine leF_bool ?_ | exact zw1 | apply And.intro)
       show LeN _ _ (ents eB _ (L.take (k + 1)).flatten)
       rw [hnext hk']
       refine leN_app (E := eB) rfl (fun i hi j hj => selC_in (Nat.ble_eq_true_of_le hi) (Elem.flat _ _ _).le) fun i hi j hj => ?_
       refine selC_out ?_ ?_
       . cases hb : Nat.blt (Q.length + i) Q.length with
         | false => rfl
         | true => have := Nat.le_of_ble_eq_true hb; omega
       . rw [show Q.length + i - Q.length = i by omega]
         exact leC_cell (E := eB) rfl
   . dsimp only
     rw [toL_b0, hQ, List.take_of_length_le (by omega)]
     exact hL.flat
   . dsimp only
     rw [toL_b0]
     exact hQl
   . have hs' : s = (foldN (totI L.flatten) : Int) := by
      refine hs.trans ?_
      dsimp only
      rw [toL_b0, hQ, List.take_of_length_le (by omega)]
     subst hs'
     exact Done.mk (leF_int (IntWalk.u16_in _ (by omega)))
 . refine ⟨rfl, ?_, ?_⟩
   . repeat' (first | exact zw0 | refine leF_int ?_ | refine leF_bool ?_ | exact zw1 | apply And.intro)
     exact leF_c (leC_nils_os rfl)
   . repeat' (first | exact zw0 | refine leF_int ?_ | refine leF_bool ?_ | exact zw1 | apply And.intro)
     exact eB_sz
abbrev inetE : Entry := pureE (AC.cons (cLL eB eB_sz) AC.nil) (fun a => BLL a.1 /\ a.1.length <= 16 /\ a.1.flatten.length <= 70368744177664) (fun a => inetF a.1.flatten) (cI .u16).enc
def LSm : CsL := (108, some inetE) :: (68, some inetE) :: (106, some oappE) :: (107, some oappE) :: (74, some uintE) :: (146, some uintE) :: (27, some sameE) :: []
theorem LSm_ok : AllOk Try.prog LSm := ⟨pureE_ok ⟨_, Try.func108, rfl, by kernel_rfl⟩ fun a h => inet_ok a.1 h.1 h.2.1 h.2.2, pureE_ok ⟨_, Try.func68, rfl, by kernel_rfl⟩ fun a h => rinet_ok a.1 h.1 h.2.1 h.2.2, oappE_ok, rappE_ok, ouintE_ok, ruintE_ok, sameE_ok, trivial⟩
structure Hdr where
 cls : Int
 flow : Int
 nxt : Int
 hops : Int
 src : Fin 16 -> Int
 dst : Fin 16 -> Int
 sp : Int
 dp : Int
def eHdC (x : Hdr) (j : Nat) : CV := bif Nat.beq j 0 then .int .u8 x.cls else bif Nat.beq j 1 then .int .u32 x.flow else bif Nat.beq j 2 then .int .u8 x.nxt else bif Nat.beq j 3 then .int .u8 x.hops else bif Nat.blt j 20 then .int .u8 (vget x.src (j - 4)) else bif Nat.blt j 36 then .int .u8 (vget x.dst (j - 20)) else bif Nat.beq j 36 then .int .u16 x.sp else (.int .u16 x.dp)
def eHd : Elem Hdr where
 sz := 38
 cell := eHdC
 rd g := ⟨valI (g 0), valI (g 1), valI (g 2), valI (g 3), fun q => valI (g (4 + q.1)), fun q => valI (g (20 + q.1)), valI (g 36), valI (g 37)⟩
 ok g := isK .u8 (g 0) && isK .u32 (g 1) && isK .u8 (g 2) && isK .u8 (g 3) && okA .u8 g 4 16 && okA .u8 g 20 16 && isK .u16 (g 36) && isK .u16 (g 37)
 ok_eq g h j hj := by
  simp only [Bool.and_eq_true] at h
  unfold eHdC
  by_cases c0 : j < 1
  . have e : j = 0 := by omega
    subst e
    exact isK_eq h.1.1.1.1.1.1.1
  by_cases c1 : j < 2
  . have e : j = 1 := by omega
    subst e
    exact isK_eq h.1.1.1.1.1.1.2
  by_cases c2 : j < 3
  . have e : j = 2 := by omega
    subst e
    exact isK_eq h.1.1.1.1.1.2
  by_cases c3 : j < 4
  . have e : j = 3 := by omega
    subst e
    exact isK_eq h.1.1.1.1.2
  by_cases c4 : j < 20
  . have e := okA_at h.1.1.1.2 (j - 4) (by omega)
    rw [show 4 + (j - 4) = j by omega] at e
    have b0 : Nat.beq j 0 = false := by cases hb : Nat.beq j 0 with | false => rfl | true => have := Nat.eq_of_beq_eq_true hb; omega
    have b1 : Nat.beq j 1 = false := by cases hb : Nat.beq j 1 with | false => rfl | true => have := Nat.eq_of_beq_eq_true hb; omega
    have b2 : Nat.beq j 2 = false := by cases hb : Nat.beq j 2 with | false => rfl | true => have := Nat.eq_of_beq_eq_true hb; omega
    have b3 : Nat.beq j 3 = false := by cases hb : Nat.beq j 3 with | false => rfl | true => have := Nat.eq_of_beq_eq_true hb; omega
    rw [b0, cond_false, b1, cond_false, b2, cond_false, b3, cond_false, show Nat.blt j 20 = true from Nat.ble_eq_true_of_le c4, cond_true]
    rw [show vget (fun q : Fin 16 => valI (g (4 + q.1))) (j - 4) = valI (g (4 + (j - 4))) from vget_lt _ (by omega)]
    rw [show 4 + (j - 4) = j by omega]
    exact e
  by_cases c5 : j < 36
  . have e := okA_at h.1.1.2 (j - 20) (by omega)
    rw [show 20 + (j - 20) = j by omega] at e
    have b0 : Nat.beq j 0 = false := by cases hb : Nat.beq j 0 with | false => rfl | true => have := Nat.eq_of_beq_eq_true hb; omega
    have b1 : Nat.beq j 1 = false := by cases hb : Nat.beq j 1 with | false => rfl | true => have := Nat.eq_of_beq_eq_true hb; omega
    have b2 : Nat.beq j 2 = false := by cases hb : Nat.beq j 2 with | false => rfl | true => have := Nat.eq_of_beq_eq_true hb; omega
    have b3 : Nat.beq j 3 = false := by cases hb : Nat.beq j 3 with | false => rfl | true => have := Nat.eq_of_beq_eq_true hb; omega
    have b4 : Nat.blt j 20 = false := by cases hb : Nat.blt j 20 with | false => rfl | true => have := Nat.le_of_ble_eq_true hb; omega
    rw [b0, cond_false, b1, cond_false, b2, cond_false, b3, cond_false, b4, cond_false, show Nat.blt j 36 = true from Nat.ble_eq_true_of_le c5, cond_true]
    rw [show vget (fun q : Fin 16 => valI (g (20 + q.1))) (j - 20) = valI (g (20 + (j - 20))) from vget_lt _ (by omega)]
    rw [show 20 + (j - 20) = j by omega]
    exact e
  by_cases c6 : j < 37
  . have e : j = 36 := by omega
    subst e
    exact isK_eq h.1.2
  by_cases c7 : j < 38
  . have e : j = 37 := by omega
    subst e
    exact isK_eq h.2
  omega
 flat a j := by
  unfold eHdC
  cases Nat.beq j 0 with
  | true => exact flat_int
  | false =>
  cases Nat.beq j 1 with
  | true => exact flat_int
  | false =>
  cases Nat.beq j 2 with
  | true => exact flat_int
  | false =>
  cases Nat.beq j 3 with
  | true => exact flat_int
  | false =>
  cases Nat.blt j 20 with
  | true => exact flat_int
  | false =>
  cases Nat.blt j 36 with
  | true => exact flat_int
  | false =>
  cases Nat.beq j 36 with
  | true => exact flat_int
  | false =>
  exact flat_int
theorem eHd_src_at (x : Hdr) (q : Nat) (h : q < 16) : eHd.cell x (4 + q) = .int .u8 (vget x.src q) := by
 show eHdC x (4 + q) = _
 unfold eHdC
 rw [show Nat.beq (4 + q) 0 = false from by cases hb : Nat.beq (4 + q) 0 with | false => rfl | true => have := Nat.eq_of_beq_eq_true hb; omega, cond_false]
 rw [show Nat.beq (4 + q) 1 = false from by cases hb : Nat.beq (4 + q) 1 with | false => rfl | true => have := Nat.eq_of_beq_eq_true hb; omega, cond_false]
 rw [show Nat.beq (4 + q) 2 = false from by cases hb : Nat.beq (4 + q) 2 with | false => rfl | true => have := Nat.eq_of_beq_eq_true hb; omega, cond_false]
 rw [show Nat.beq (4 + q) 3 = false from by cases hb : Nat.beq (4 + q) 3 with | false => rfl | true => have := Nat.eq_of_beq_eq_true hb; omega, cond_false]
 rw [show Nat.blt (4 + q) 20 = true from Nat.ble_eq_true_of_le (by omega), cond_true]
 rw [show 4 + q - 4 = q by omega]
theorem eHd_src (x : Hdr) : (fun q : Fin 16 => valI (eHd.cell x (4 + q.1))) = x.src := by
 funext q
 rw [eHd_src_at x q.1 q.2]
 exact vget_lt _ q.2
theorem eHd_dst_at (x : Hdr) (q : Nat) (h : q < 16) : eHd.cell x (20 + q) = .int .u8 (vget x.dst q) := by
 show eHdC x (20 + q) = _
 unfold eHdC
 rw [show Nat.beq (20 + q) 0 = false from by cases hb : Nat.beq (20 + q) 0 with | false => rfl | true => have := Nat.eq_of_beq_eq_true hb; omega, cond_false]
 rw [show Nat.beq (20 + q) 1 = false from by cases hb : Nat.beq (20 + q) 1 with | false => rfl | true => have := Nat.eq_of_beq_eq_true hb; omega, cond_false]
 rw [show Nat.beq (20 + q) 2 = false from by cases hb : Nat.beq (20 + q) 2 with | false => rfl | true => have := Nat.eq_of_beq_eq_true hb; omega, cond_false]
 rw [show Nat.beq (20 + q) 3 = false from by cases hb : Nat.beq (20 + q) 3 with | false => rfl | true => have := Nat.eq_of_beq_eq_true hb; omega, cond_false]
 rw [show Nat.blt (20 + q) 20 = false from by cases hb : Nat.blt (20 + q) 20 with | false => rfl | true => have := Nat.le_of_ble_eq_true hb; omega, cond_false]
 rw [show Nat.blt (20 + q) 36 = true from Nat.ble_eq_true_of_le (by omega), cond_true]
 rw [show 20 + q - 20 = q by omega]
theorem eHd_dst (x : Hdr) : (fun q : Fin 16 => valI (eHd.cell x (20 + q.1))) = x.dst := by
 funext q
 rw [eHd_dst_at x q.1 q.2]
 exact vget_lt _ q.2
theorem eHd_rd (x : Hdr) : eHd.rd (eHd.cell x) = x := by
 show (⟨x.cls, x.flow, x.nxt, x.hops, fun q => valI (eHd.cell x (4 + q.1)), fun q => valI (eHd.cell x (20 + q.1)), x.sp, x.dp⟩ : Hdr) = x
 rw [eHd_src, eHd_dst]
abbrev Pkt := Hdr × List Int
abbrev cPk : Codec Pkt := cTail eHd eB eB_sz
theorem hd_congr (f g : Nat -> CV) (h : ∀ j, j < 38 -> f j = g j) : eHd.rd f = eHd.rd g := by
 show Hdr.mk _ _ _ _ _ _ _ _ = Hdr.mk _ _ _ _ _ _ _ _
 rw [h 0 (by omega), h 1 (by omega), h 2 (by omega), h 3 (by omega), h 36 (by omega), h 37 (by omega)]
 congr 1
 . funext q; rw [h (4 + q.1) (by omega)]
 . funext q; rw [h (20 + q.1) (by omega)]
theorem hd_tail (h : Hdr) (last : CV) : (eHd.rd fun q => tailC eHd h last (0 + q)) = h := by
 rw [hd_congr _ (eHd.cell h) fun j hj => by rw [Nat.zero_add]; exact tailC_lt hj]
 exact eHd_rd h
theorem pk_eq (p : Pkt) (last : CV) : ((eHd.rd fun q => tailC eHd p.1 last (0 + q), toL eB p.2.length (rowF eB p.2)) : Pkt) = p := by rw [hd_tail, toL_b]
def mcast (a : Fin 16 -> Int) : Bool := decide (vget a 0 = 255)
theorem mcast_ok (a : Fin 16 -> Int) : PureOk Try.prog 65 [(cE (eA .u8 16)).enc a] (cB.enc (mcast a)) := by
 refine pure_intro (wd := 1) (Q := mkQ LE0) (by decide) tysOk (q_of LE0_ok) mixed Try.func65 rfl _ (by show 1 <= _; decide) _ ?_
 repeat' (first | (apply And.intro <;> intro hc <;> (first | exact Bool.noConfusion hc | (simp only [zb0] at hc) | skip)) | (refine And.intro zp0 ?_) | (apply And.intro) | (intro s hs))
 exact Done.mk (leF_bool rfl)
theorem rmcast_ok (a : Fin 16 -> Int) : PureOk Try.prog 45 [(cE (eA .u8 16)).enc a] (cB.enc (mcast a)) := by
 refine pure_intro (wd := 1) (Q := mkQ LE0) (by decide) tysOk (q_of LE0_ok) mixed Try.func45 rfl _ (by show 1 <= _; decide) _ ?_
 repeat' (first | (apply And.intro <;> intro hc <;> (first | exact Bool.noConfusion hc | (simp only [zb0] at hc) | skip)) | (refine And.intro zp0 ?_) | (apply And.intro) | (intro s hs))
 exact Done.mk (leF_bool rfl)
def sizeP (p : Pkt) : Int := (if p.1.nxt = 17 then 48 else 40) + p.2.length
theorem size_ok (p : Pkt) (hl : p.2.length <= 140737488355328) : PureOk Try.prog 23 [cPk.enc p] ((cI .i64).enc (sizeP p)) := by
 refine pure_intro (wd := 1) (Q := mkQ LE0) (by decide) tysOk (q_of LE0_ok) mixed Try.func23 rfl _ (by show 1 <= _; decide) _ ?_
 repeat' (first | (apply And.intro <;> intro hc <;> (first | exact Bool.noConfusion hc | (simp only [zb0] at hc) | skip)) | (refine And.intro zp0 ?_) | (apply And.intro) | (intro s hs))
 . refine Done.mk (leF_int ?_)
   unfold sizeP
   rw [if_pos hc]
   exact IntWalk.i64_in _ (by omega)
 . refine Done.mk (leF_int ?_)
   unfold sizeP
   rw [if_neg hc]
   exact IntWalk.i64_in _ (by omega)
def udpP (p : Pkt) : Int := if p.1.nxt = 17 then 8 else 0
theorem udp_ok (p : Pkt) : PureOk Try.prog 66 [cPk.enc p] ((cI .i64).enc (udpP p)) := by
 refine pure_intro (wd := 1) (Q := mkQ LE0) (by decide) tysOk (q_of LE0_ok) mixed Try.func66 rfl _ (by show 1 <= _; decide) _ ?_
 repeat' (first | (apply And.intro <;> intro hc <;> (first | exact Bool.noConfusion hc | (simp only [zb0] at hc) | skip)) | (refine And.intro zp0 ?_) | (apply And.intro) | (intro s hs))
 . exact Done.mk (leF_int (by unfold udpP; rw [if_pos hc]))
 . exact Done.mk (leF_int (by unfold udpP; rw [if_neg hc]))
abbrev PA : AC (Pkt × Unit) := AC.cons cPk AC.nil
abbrev ipA : AC ((Fin 16 -> Int) × Unit) := AC.cons (cE (eA .u8 16)) AC.nil
abbrev sizeE : Entry := pureE PA (fun a => a.1.2.length <= 140737488355328) (fun a => sizeP a.1) (cI .i64).enc
abbrev mcastE : Entry := pureE ipA (fun _ => True) (fun a => mcast a.1) cB.enc
def LPa : CsL := (23, some sizeE) :: (66, some (pureE PA (fun _ => True) (fun a => udpP a.1) (cI .i64).enc)) :: (65, some mcastE) :: (45, some mcastE) :: LSm
theorem LPa_ok : AllOk Try.prog LPa := ⟨pureE_ok ⟨_, Try.func23, rfl, by kernel_rfl⟩ fun a h => size_ok a.1 h, pureE_ok ⟨_, Try.func66, rfl, by kernel_rfl⟩ fun a h => udp_ok a.1, pureE_ok ⟨_, Try.func65, rfl, by kernel_rfl⟩ fun a h => mcast_ok a.1, pureE_ok ⟨_, Try.func45, rfl, by kernel_rfl⟩ fun a h => rmcast_ok a.1, LSm_ok⟩
theorem rsize_ok (p : Pkt) (hl : p.2.length <= 140737488355328) : PureOk Try.prog 24 [cPk.enc p] ((cI .i64).enc (sizeP p)) := by
 refine pure_intro (wd := 1) (Q := mkQ LPa) (by decide) tysOk (q_of LPa_ok) mixed Try.func24 rfl _ (by show 1 <= _; decide) _ ?_
 repeat' (first | (apply And.intro <;> intro hc <;> (first | exact Bool.noConfusion hc | (simp only [zb0, ne_eq, not_true_eq_false] at hc <;> first | exact absurd rfl hc | skip) | skip)) | (refine And.intro zp1 ?_) | (apply And.intro) | (intro s hs; (have hs' : s = udpP p := hs.trans (congrArg udpP (pk_eq p _))); clear hs; subst hs'))
 all_goals first
  | (refine Done.mk (leF_int ?_)
     unfold sizeP udpP
     split
     . rw [show IntKind.i64.wrap (40 + 8) = 48 from rfl]
       exact IntWalk.i64_in _ (by omega)
     . rw [show IntKind.i64.wrap (40 + 0) = 40 from rfl]
       exact IntWalk.i64_in _ (by omega))
  | exact rfl
def validP (p : Pkt) : Bool := decide (p.1.flow <= 1048575) && !mcast p.1.src && decide (sizeP p <= 1280) && (decide (p.1.nxt = 17) || decide (p.1.sp = 0) && decide (p.1.dp = 0))
theorem src_eq (h : Hdr) (last : CV) : ((eA .u8 16).rd fun q => tailC eHd h last (0 + 4 + q)) = h.src := by
 funext q
 show valI (tailC eHd h last (0 + 4 + q.1)) = h.src q
 rw [show 0 + 4 + q.1 = 4 + q.1 by omega, tailC_lt (show 4 + q.1 < 38 by omega), eHd_src_at _ _ q.2]
 exact vget_lt _ q.2
theorem pvalid_ok (p : Pkt) (hl : p.2.length <= 140737488355328) : PureOk Try.prog 21 [cPk.enc p] (cB.enc (validP p)) := by
 refine pure_intro (wd := 1) (Q := mkQ LPa) (by decide) tysOk (q_of LPa_ok) mixed Try.func21 rfl _ (by show 1 <= _; decide) _ ?_
 repeat' (first | (apply And.intro <;> intro hc <;> (first | exact Bool.noConfusion hc | (simp only [zb0, ne_eq, not_true_eq_false] at hc <;> first | exact absurd rfl hc | skip) | skip)) | (refine And.intro zp1 ?_) | (apply And.intro) | (intro s hs; (first | (have hs' : s = sizeP p := hs.trans (congrArg sizeP (pk_eq p _))) | (have hs' : s = mcast p.1.src := hs.trans (congrArg mcast (src_eq p.1 _)))); clear hs; subst hs'))
 all_goals first
  | (dsimp only; rw [toL_b]; exact hl)
  | (refine Done.mk (leF_bool ?_); unfold validP; simp [*]; done)
  | (refine Done.mk (leF_bool ?_); unfold validP; rw [Bool.eq_iff_iff]; simp [*]; omega)
abbrev validE : Entry := pureE PA (fun a => a.1.2.length <= 140737488355328) (fun a => validP a.1) cB.enc
def LPb : CsL := (24, some sizeE) :: (21, some validE) :: LPa
theorem LPb_ok : AllOk Try.prog LPb := ⟨pureE_ok ⟨_, Try.func24, rfl, by kernel_rfl⟩ fun a h => rsize_ok a.1 h, pureE_ok ⟨_, Try.func21, rfl, by kernel_rfl⟩ fun a h => pvalid_ok a.1 h, LPa_ok⟩
theorem rpvalid_ok (p : Pkt) (hl : p.2.length <= 140737488355328) : PureOk Try.prog 22 [cPk.enc p] (cB.enc (validP p)) := by
 refine pure_intro (wd := 1) (Q := mkQ LPb) (by decide) tysOk (q_of LPb_ok) mixed Try.func22 rfl _ (by show 1 <= _; decide) _ ?_
 repeat' (first | (apply And.intro <;> intro hc <;> (first | exact Bool.noConfusion hc | (simp only [zb0, ne_eq, not_true_eq_false] at hc <;> first | exact absurd rfl hc | skip) | skip)) | (refine And.intro zp1 ?_) | (apply And.intro) | (intro s hs; (first | (have hs' : s = sizeP p := hs.trans (congrArg sizeP (pk_eq p _))) | (have hs' : s = mcast p.1.src := hs.trans (congrArg mcast (src_eq p.1 _)))); clear hs; subst hs'))
 all_goals first
  | (dsimp only; rw [toL_b]; exact hl)
  | (refine Done.mk (leF_bool ?_); unfold validP; simp [*]; done)
  | (refine Done.mk (leF_bool ?_); unfold validP; rw [Bool.eq_iff_iff]; simp [*]; omega)
  | skip
structure Num where
 val : Int
 n : Int
instance : Inhabited Num := ⟨⟨0, 0⟩⟩
def eNumC (x : Num) (j : Nat) : CV := bif Nat.beq j 0 then .int .u64 x.val else (.int .i64 x.n)
def eNum : Elem Num where
 sz := 2
 cell := eNumC
 rd g := ⟨valI (g 0), valI (g 1)⟩
 ok g := isK .u64 (g 0) && isK .i64 (g 1)
 ok_eq g h j hj := by
  simp only [Bool.and_eq_true] at h
  unfold eNumC
  by_cases c0 : j < 1
  . have e : j = 0 := by omega
    subst e
    exact isK_eq h.1
  by_cases c1 : j < 2
  . have e : j = 1 := by omega
    subst e
    exact isK_eq h.2
  omega
 flat a j := by
  unfold eNumC
  cases Nat.beq j 0 with
  | true => exact flat_int
  | false =>
  exact flat_int
theorem eNum_sz : 0 < eNum.sz := by decide
def appN (b : List Int) : List Num -> List Int
 | [] => b
 | x :: ns => appN (b ++ beB x.val x.n) ns
theorem beB_len (v n : Int) : (beB v n).length <= 8 := by
 unfold beB
 split
 . rw [beN_len]; omega
 . simp
theorem appN_len : ∀ (ns : List Num) (b : List Int), (appN b ns).length <= b.length + 8 * ns.length := by
 intro ns
 induction ns with
 | nil => intro b; simp [appN]
 | cons x ns ih =>
   intro b
   have h1 := ih (b ++ beB x.val x.n)
   have h2 := beB_len x.val x.n
   rw [appN, List.length_cons]
   rw [List.length_append] at h1
   omega
theorem appN_snoc : ∀ (ns : List Num) (b : List Int) (x : Num), appN b (ns ++ [x]) = appN b ns ++ beB x.val x.n := by
 intro ns
 induction ns with
 | nil => intro b x; rfl
 | cons y ns ih => intro b x; rw [List.cons_append, appN, ih]; rfl
theorem takeN_snoc {l : List Num} {k : Nat} (h : k < l.length) : l.take (k + 1) = l.take k ++ [l.getD k default] := by
 rw [List.take_succ_eq_append_getElem h, List.getD_eq_getElem?_getD, List.getElem?_eq_getElem h]; rfl
theorem numbers_ok (b : List Int) (ns : List Num) (hb : b.length <= 1048576) (hn : 0 < ns.length /\ ns.length <= 16) :
 NewOk Try.prog 105 [(cSl eB eB_sz).enc b, (cSl eNum eNum_sz).enc ns] (some (appN b ns).length) none (ents eB 5 (appN b ns)) := by
 refine new_intro (wd := 1) (Q := mkQ LSm) (by decide) tysOk (q_of LSm_ok) mixed Try.func105 rfl _ (by show 2 <= _; decide) (fun i _ j _ => row_nf eB _ i j) ?_
 repeat' (first | (apply And.intro <;> intro hc <;> (first | exact Bool.noConfusion hc | (simp only [zb0] at hc) | skip)) | (refine And.intro zp0 ?_) | (apply And.intro) | (intro s hs))
 refine loop_intro (mono_of LSm_ok) (fun s : {i : Nat // i <= ns.length} => match s.1 with
  | 0 => (⟨[(0, one (.sl false b.length eB.sz (rowF eB b))), (7, one (.sl false ns.length eNum.sz (rowF eNum ns))), (8, one (.int .i64 (ns.length : Int))), (9, one (.int .i64 0))], [], 41⟩ : Hd)
  | k + 1 => (⟨[(0, one (.os 40 0 (appN b (ns.take (k + 1))).length)), (7, one (.sl false ns.length eNum.sz (rowF eNum ns))), (8, one (.int .i64 (ns.length : Int))), (9, one (.int .i64 ((k + 1 : Nat) : Int)))], [(40, some (ents eB 5 (appN b (ns.take (k + 1)))))], 41⟩ : Hd)) (fun s => ns.length - s.1) (fun s => by obtain ⟨s, hs⟩ := s; cases s <;> rfl) ?_ ⟨0, by omega⟩ [] ?_
 . rintro ⟨k, hk⟩
   cases k with
   | zero =>
     dsimp only at hk ⊢
     have e0 : appN b (ns.take 1) = b ++ beB (ns.getD 0 default).val (ns.getD 0 default).n := by rw [takeN_snoc hn.1]; rfl
     repeat' (first | (apply And.intro <;> intro hc <;> (first | exact Bool.noConfusion hc | (simp only [zb0] at hc) | skip)) | (refine And.intro zp0 ?_) | (apply And.intro) | (intro s hs))
     all_goals first
      | (exfalso; omega)
      | (dsimp only; rw [toL_b]; omega)
      | skip
     have hs' : s = appN b (ns.take 1) := by
      rw [e0]
      refine hs.trans ?_
      dsimp only
      rw [toL_b]; rfl
     subst hs'
     refine ⟨⟨1, by omega⟩, [(40, some 51)], by first | omega | (dsimp only; omega), rfl, ?_, ?_⟩
     . repeat' (first | exact zw0 | refine leF_int ?_ | refine leF_bool ?_ | exact zw1 | apply And.intro)
     . repeat' (first | exact zw0 | refine leF_int ?_ | refine leF_bool ?_ | exact zw1 | apply And.intro)
       exact leN_ents
   | succ k =>
     dsimp only at hk ⊢
     have hle := appN_len (ns.take (k + 1)) b
     rw [List.length_take] at hle
     have e0 : k + 1 < ns.length -> appN b (ns.take (k + 1 + 1)) = appN b (ns.take (k + 1)) ++ beB (ns.getD (k + 1) default).val (ns.getD (k + 1) default).n := fun h => by rw [takeN_snoc h, appN_snoc]
     repeat' (first | (apply And.intro <;> intro hc <;> (first | exact Bool.noConfusion hc | (simp only [zb0] at hc) | skip)) | (refine And.intro zp0 ?_) | (apply And.intro) | (intro s hs))
     all_goals first
      | exact rfl
      | (dsimp only; rw [toL_b0]; omega)
      | skip
     . have hlt : k + 1 < ns.length := by omega
       have hs' : s = appN b (ns.take (k + 1 + 1)) := by
        rw [e0 hlt]
        refine hs.trans ?_
        dsimp only
        rw [toL_b0]; rfl
       subst hs'
       refine ⟨⟨k + 1 + 1, by omega⟩, [(40, some 51)], by first | omega | (dsimp only; omega), rfl, ?_, ?_⟩
       . repeat' (first | exact zw0 | refine leF_int ?_ | refine leF_bool ?_ | exact zw1 | apply And.intro)
         . exact zaw
       . repeat' (first | exact zw0 | refine leF_int ?_ | refine leF_bool ?_ | exact zw1 | apply And.intro)
         exact leN_ents
     . have hkk : k + 1 = ns.length := by omega
       rw [hkk, List.take_length]
       exact ⟨⟨some 40, leF_c (leC_os rfl rfl), leN_ents⟩⟩
 . refine ⟨rfl, ?_, ?_⟩
   . repeat' (first | exact zw0 | refine leF_int ?_ | refine leF_bool ?_ | exact zw1 | apply And.intro)
   . repeat' (first | exact zw0 | refine leF_int ?_ | refine leF_bool ?_ | exact zw1 | apply And.intro)
def sum0 (l : List Int) : Int := if inetF l = 0 then 65535 else inetF l
def coverB (b : List Int) : List Int := (b.drop 8).take 32 ++ (beB ((b.length : Int) - 40) 4 ++ ([0, 0, 0, 17] ++ ((b.drop 40).take 6 ++ ([0, 0] ++ (b.drop 48)))))
theorem toL_dt (b : List Int) (a n : Nat) (h : a + n <= b.length) : (toL eB n fun i => rowF eB b (a + i)) = (b.drop a).take n := by
 apply List.ext_getElem
 . rw [toL_len, List.length_take, List.length_drop]; omega
 . intro i h1 h2
   rw [toL_len] at h1
   simp only [toL, List.getElem_map, List.getElem_range, List.getElem_take, List.getElem_drop]
   show b.getD (a + i) default = _
   rw [List.getD_eq_getElem?_getD, List.getElem?_eq_getElem (by omega)]; rfl
theorem toL_dr (b : List Int) (a : Nat) (h : a <= b.length) : (toL eB (b.length - a) fun i => rowF eB b (a + i)) = b.drop a := by
 rw [toL_dt b a (b.length - a) (by omega), List.take_of_length_le (by simp)]
theorem beB_BL (v n : Int) : BL (beB v n) := by
 unfold beB
 split
 . exact beN_BL _ _
 . exact BL.nil
theorem cover_key {b : List Int} (hb : BL b) (hl : 48 <= b.length /\ b.length <= 1048576) {A B C D E F : List Int} (hA : A = (b.drop 8).take 32) (hB : B = beB ((b.length : Int) - 40) 4) (hC : C = [0, 0, 0, 17]) (hD : D = (b.drop 40).take 6) (hE : E = [0, 0]) (hF : F = b.drop 48) :
 [A, B, C, D, E, F].flatten = coverB b /\ BLL [A, B, C, D, E, F] /\ [A, B, C, D, E, F].flatten.length <= 70368744177664 := by
 subst hA hB hC hD hE hF
 refine ⟨by simp [coverB], ⟨fun l h => ?_⟩, ?_⟩
 . simp only [List.mem_cons, List.not_mem_nil, or_false] at h
   rcases h with rfl | rfl | rfl | rfl | rfl | rfl
   . exact (hb.drop 8).take 32
   . exact beB_BL _ _
   . exact BL.cons (by omega) (BL.cons (by omega) (BL.cons (by omega) (BL.cons (by omega) BL.nil)))
   . exact (hb.drop 40).take 6
   . exact BL.cons (by omega) (BL.cons (by omega) BL.nil)
   . exact hb.drop 48
 . have h1 := beB_len ((b.length : Int) - 40) 4
   simp only [List.flatten_cons, List.flatten_nil, List.length_append, List.length_take, List.length_drop, List.length_cons, List.length_nil]
   omega
theorem udpSum_ok (b : List Int) (hb : BL b) (hl : 48 <= b.length /\ b.length <= 1048576) : PureOk Try.prog 67 [(cSl eB eB_sz).enc b] ((cI .u16).enc (sum0 (coverB b))) := by
 have e1 : IntKind.i64.wrap ((b.length : Int) - 40) = b.length - 40 := IntWalk.i64_in _ (by omega)
 have e2 : IntKind.u64.wrap ((b.length : Int) - 40) = b.length - 40 := IntWalk.u64_in _ (by omega)
 have e3 : beB (IntKind.u64.wrap (IntKind.i64.wrap ((b.length : Int) - 40))) 4 = beB ((b.length : Int) - 40) 4 := by rw [e1, e2]
 have a1 := toL_dt b 8 32 (by omega)
 have a2 := toL_dt b 40 6 (by omega)
 have a3 := toL_dr b 48 (by omega)
 have kB : ∀ s : List Int, s = [] ++ beB (IntKind.u64.wrap (IntKind.i64.wrap ((b.length : Int) - 40))) 4 -> (toL eB s.length fun k j => rowF eB s (0 + k) j) = beB ((b.length : Int) - 40) 4 := fun s h => by rw [toL_b0, h, e3]; rfl
 have k := fun s h => cover_key hb hl a1 (kB s h) rfl a2 rfl a3
 refine pure_intro (wd := 1) (Q := mkQ LSm) (by decide) tysOk (q_of LSm_ok) mixed Try.func67 rfl _ (by show 1 <= _; decide) _ ?_
 repeat' (first | (apply And.intro <;> intro hc <;> (first | exact Bool.noConfusion hc | (simp only [zb0] at hc) | skip)) | (refine And.intro zp0 ?_) | (apply And.intro) | (intro s hs))
 all_goals first
  | exact rfl
  | exact Nat.zero_le _
  | exact (k _ (by assumption)).2.1
  | exact (k _ (by assumption)).2.2
  | exact (by decide : (6 : Nat) <= 16)
  | skip
 all_goals
  have hs' : s = inetF (coverB b) := hs.trans (congrArg inetF (k _ (by assumption)).1)
  clear hs
  subst hs'
  refine Done.mk (leF_int ?_)
  unfold sum0
  first | rw [if_pos (by assumption)] | rw [if_neg (by assumption)]
def ipL (a : Fin 16 -> Int) : List Int := (List.range 16).map (vget a)
theorem ipL_len (a : Fin 16 -> Int) : (ipL a).length = 16 := by simp [ipL]
def encB (p : Pkt) (sum : Int) : List Int :=
 beB (1610612736 + p.1.cls * 1048576 + p.1.flow) 4 ++ beB (sizeP p - 40) 2 ++ [p.1.nxt, p.1.hops] ++ ipL p.1.src ++ ipL p.1.dst ++
  (if p.1.nxt = 17 then beB p.1.sp 2 ++ beB p.1.dp 2 ++ beB (sizeP p - 40) 2 ++ beB sum 2 else []) ++ p.2
structure PkW (p : Pkt) : Prop where
 cls : 0 <= p.1.cls /\ p.1.cls < 256
 flow : 0 <= p.1.flow /\ p.1.flow < 4294967296
 nxt : 0 <= p.1.nxt /\ p.1.nxt < 256
 hops : 0 <= p.1.hops /\ p.1.hops < 256
 src : ∀ i, 0 <= vget p.1.src i /\ vget p.1.src i < 256
 dst : ∀ i, 0 <= vget p.1.dst i /\ vget p.1.dst i < 256
 sp : 0 <= p.1.sp /\ p.1.sp < 65536
 dp : 0 <= p.1.dp /\ p.1.dp < 65536
 pay : BL p.2
def LPc : CsL := (105, some (newE (AC.cons (cSl eB eB_sz) (AC.cons (cSl eNum eNum_sz) AC.nil)) (fun a => a.1.length <= 1048576 /\ 0 < a.2.1.length /\ a.2.1.length <= 16) (fun a => appN a.1 a.2.1) (fun L => some L.length) (fun _ => none) (fun L => ents eB 5 L))) ::
 (67, some (pureE (AC.cons (cSl eB eB_sz) AC.nil) (fun a => BL a.1 /\ 48 <= a.1.length /\ a.1.length <= 1048576) (fun a => sum0 (coverB a.1)) (cI .u16).enc)) :: LPb
theorem LPc_ok : AllOk Try.prog LPc := ⟨newE_ok ⟨_, Try.func105, rfl, by kernel_rfl⟩ (fun s l h => by cases h) fun a h => numbers_ok a.1 a.2.1 h.1 h.2, pureE_ok ⟨_, Try.func67, rfl, by kernel_rfl⟩ fun a h => udpSum_ok a.1 h.1 h.2, LPb_ok⟩
theorem beB1 (v : Int) (h : 0 <= v /\ v < 256) : beB v 1 = [v] := by
 unfold beB
 rw [if_pos (by omega)]
 show [v / 256 ^ 0 % 256] = [v]
 rw [Int.pow_zero, Int.ediv_one, Int.emod_eq_of_lt h.1 h.2]
structure IsRow (F : Nat -> Nat -> CV) (l : List Int) : Prop where
 at_ : ∀ k, k < l.length -> F k 0 = .int .u8 (l.getD k default)
theorem isRow_row (l : List Int) : IsRow (rowF eB l) l := ⟨fun k _ => rfl⟩
theorem isRow_0 {F : Nat -> Nat -> CV} {l : List Int} (h : IsRow F l) : IsRow (fun k j => F (0 + k) j) l := ⟨fun k hk => by show F (0 + k) 0 = _; rw [Nat.zero_add]; exact h.at_ k hk⟩
theorem blt_no {a b : Nat} (h : b <= a) : Nat.blt a b = false := by
 cases hb : Nat.blt a b with
 | false => rfl
 | true => have := Nat.le_of_ble_eq_true hb; omega
theorem isRow_sel {A C : Nat -> Nat -> CV} {l1 l2 : List Int} {n : Nat} (hn : n = l1.length) (h1 : IsRow A l1) (h2 : ∀ k, k < l2.length -> C (n + k) 0 = .int .u8 (l2.getD k default)) : IsRow (fun k j => selC (Nat.blt k n) (A k j) (C k j)) (l1 ++ l2) := ⟨fun k hk => by
 rw [List.length_append] at hk
 show selC (Nat.blt k n) (A k 0) (C k 0) = _
 subst hn
 by_cases h : k < l1.length
 . rw [selC_eq, blt_lt h, cond_true, h1.at_ k h, List.getD_eq_getElem?_getD, List.getD_eq_getElem?_getD, List.getElem?_append_left h]
 . obtain ⟨q, rfl⟩ : ∃ q, k = l1.length + q := ⟨k - l1.length, by omega⟩
   rw [selC_eq, blt_no (by omega), cond_false, h2 q (by omega), List.getD_eq_getElem?_getD, List.getD_eq_getElem?_getD, List.getElem?_append_right (by omega), show l1.length + q - l1.length = q by omega]⟩
theorem toL_is {F : Nat -> Nat -> CV} {l : List Int} {N : Nat} (hN : N = l.length) (h : IsRow F l) : toL eB N F = l := by
 subst hN
 apply List.ext_getElem
 . rw [toL_len]
 . intro i g1 g2
   simp only [toL, List.getElem_map, List.getElem_range]
   show valI (F i 0) = _
   rw [h.at_ i g2, List.getD_eq_getElem?_getD, List.getElem?_eq_getElem g2]; rfl
theorem ok_is {F : Nat -> Nat -> CV} {l : List Int} {s : Nat} (h : IsRow F l) (hs : s < l.length) : eB.ok (F s) = true := by
 show isK .u8 (F s 0) = true
 rw [h.at_ s hs]; rfl
theorem leC_is {c : Wc} {F : Nat -> Nat -> CV} {l : List Int} (h : IsRow F l) {k : Nat} (hk : k < l.length) {j : Nat} (hj : j < 1) : LeC c (F k j) (rowF eB l k j) := by
 obtain rfl : j = 0 := by omega
 rw [h.at_ k hk]
 exact leC_int rfl
theorem leN_is {c : Wc} {F : Nat -> Nat -> CV} {l : List Int} {n : Nat} {t : TypeId} (hn : n = l.length) (h : IsRow F l) : LeN c ⟨t, n, eB.sz, false, F⟩ (ents eB t l) := leN_row hn fun i hi j hj => leC_is h (by omega) hj
theorem toL_ip {B : Nat -> Nat -> CV} {a : Fin 16 -> Int} (h : ∀ k, k < 16 -> B k 0 = .int .u8 (vget a k)) : toL eB 16 B = ipL a := by
 unfold toL ipL
 apply List.map_congr_left
 intro k hk
 show valI (B k 0) = _
 rw [h k (List.mem_range.1 hk)]; rfl
theorem tailC_src {h : Hdr} {last : CV} {j k : Nat} (hj : j = 4 + k) (hk : k < 16) : tailC eHd h last j = .int .u8 (vget h.src k) := by
 subst hj
 rw [tailC_lt (show 4 + k < 38 by omega)]
 exact eHd_src_at _ _ hk
theorem tailC_dst {h : Hdr} {last : CV} {j k : Nat} (hj : j = 20 + k) (hk : k < 16) : tailC eHd h last j = .int .u8 (vget h.dst k) := by
 subst hj
 rw [tailC_lt (show 20 + k < 38 by omega)]
 exact eHd_dst_at _ _ hk
def encH (p : Pkt) : List Int := beB (1610612736 + p.1.cls * 1048576 + p.1.flow) 4 ++ beB (sizeP p - 40) 2 ++ [p.1.nxt, p.1.hops]
def encU (p : Pkt) (sum : Int) : List Int := beB p.1.sp 2 ++ beB p.1.dp 2 ++ beB (sizeP p - 40) 2 ++ beB sum 2
theorem encB_eq (p : Pkt) (sum : Int) : encB p sum = ((encH p ++ ipL p.1.src) ++ ipL p.1.dst ++ (if p.1.nxt = 17 then encU p sum else [])) ++ p.2 := by
 unfold encB encH encU; rfl
theorem encoding_ok (p : Pkt) (sum : Int) (hp : PkW p) (hl : p.2.length <= 2000) (hs : 0 <= sum /\ sum < 65536) : NewOk Try.prog 63 [cPk.enc p, (cI .u16).enc sum] (some (encB p sum).length) none (ents eB 5 (encB p sum)) := by
 have hsz : 40 <= sizeP p /\ sizeP p <= 4000 := by unfold sizeP; split <;> omega
 have c1 := hp.cls
 have c2 := hp.flow
 have w1 : IntKind.u64.wrap p.1.cls = p.1.cls := IntWalk.u64_in _ (by omega)
 have w2 : shlI .u64 (IntKind.u64.wrap p.1.cls) 20 = p.1.cls * 1048576 := by
  rw [w1]
  unfold shlI
  rw [show min (20 : Int).toNat (IntKind.bits .u64) = 20 from rfl]
  exact IntWalk.u64_in _ (by omega)
 have w3 : IntKind.u64.wrap (IntKind.u64.wrap (1610612736 + shlI .u64 (IntKind.u64.wrap p.1.cls) 20) + IntKind.u64.wrap p.1.flow) = 1610612736 + p.1.cls * 1048576 + p.1.flow := by
  rw [w2, IntWalk.u64_in p.1.flow (by omega), IntWalk.u64_in (1610612736 + p.1.cls * 1048576) (by omega)]
  exact IntWalk.u64_in _ (by omega)
 have w4 : IntKind.u64.wrap (IntKind.i64.wrap (sizeP p - 40)) = sizeP p - 40 := by
  rw [IntWalk.i64_in _ (by omega)]
  exact IntWalk.u64_in _ (by omega)
 have hk := hp.hops
 have hnx := hp.nxt
 have hsp := hp.sp
 have hdp := hp.dp
 have n1 : appN [] [⟨IntKind.u64.wrap (IntKind.u64.wrap (1610612736 + shlI .u64 (IntKind.u64.wrap p.1.cls) 20) + IntKind.u64.wrap p.1.flow), 4⟩, ⟨IntKind.u64.wrap (IntKind.i64.wrap (sizeP p - 40)), 2⟩, ⟨IntKind.u64.wrap p.1.nxt, 1⟩, ⟨IntKind.u64.wrap p.1.hops, 1⟩] = encH p := by
  unfold encH appN appN appN appN appN
  dsimp only
  rw [w3, w4, IntWalk.u64_in p.1.nxt (by omega), IntWalk.u64_in p.1.hops (by omega), beB1 _ hnx, beB1 _ hk]
  simp
 have n2 : ∀ L, appN L [⟨IntKind.u64.wrap p.1.sp, 2⟩, ⟨IntKind.u64.wrap p.1.dp, 2⟩, ⟨IntKind.u64.wrap (IntKind.i64.wrap (sizeP p - 40)), 2⟩, ⟨IntKind.u64.wrap sum, 2⟩] = L ++ encU p sum := fun L => by
  unfold encU appN appN appN appN appN
  dsimp only
  rw [w4, IntWalk.u64_in p.1.sp (by omega), IntWalk.u64_in p.1.dp (by omega), IntWalk.u64_in sum (by omega)]
  simp
 have hH : (encH p).length = 8 := by unfold encH beB; simp [beN_len]
 have hU : (encU p sum).length = 8 := by unfold encU beB; simp [beN_len]
 rw [encB_eq]
 obtain ⟨H0, eH0⟩ : ∃ H0, encH p = H0 := ⟨_, rfl⟩
 obtain ⟨U0, eU0⟩ : ∃ U0, encU p sum = U0 := ⟨_, rfl⟩
 obtain ⟨sL, eS⟩ : ∃ sL, ipL p.1.src = sL := ⟨_, rfl⟩
 obtain ⟨dL, eD⟩ : ∃ dL, ipL p.1.dst = dL := ⟨_, rfl⟩
 have hS := ipL_len p.1.src
 have hD := ipL_len p.1.dst
 rw [eS] at hS
 rw [eD] at hD
 rw [eH0] at n1 hH
 rw [eU0] at n2 hU
 rw [eH0, eU0, eS, eD]
 have gS : ∀ k, k < 16 -> sL.getD k default = vget p.1.src k := fun k hk => by rw [<- eS]; unfold ipL; rw [List.getD_eq_getElem?_getD, List.getElem?_map, List.getElem?_range hk]; rfl
 have gD : ∀ k, k < 16 -> dL.getD k default = vget p.1.dst k := fun k hk => by rw [<- eD]; unfold ipL; rw [List.getD_eq_getElem?_getD, List.getElem?_map, List.getElem?_range hk]; rfl
 clear eS eD eU0 eH0
 have row40 : ∀ {h : List Int} {last : CV}, h.length = 8 -> IsRow (fun k j => (fun k j => selC (Nat.blt k (h.length + (16 - 0))) ((fun k j => selC (Nat.blt k h.length) (rowF eB h k j) (tailC eHd p.1 last (0 + 4 + 0 * 1 + ((k - h.length) * 1 + j)))) k j) (tailC eHd p.1 last (0 + 20 + 0 * 1 + ((k - (h.length + (16 - 0))) * 1 + j)))) k j) (h ++ sL ++ dL) := fun {h last} hh => by
  refine isRow_sel (by rw [List.length_append]; omega) (isRow_sel rfl (isRow_row h) fun k hk => ?_) fun k hk => ?_
  . rw [gS k (by omega)]
    exact tailC_src (by omega) (by omega)
  . rw [gD k (by omega)]
    exact tailC_dst (by omega) (by omega)
 by_cases hu : p.1.nxt = 17
 . rw [if_pos hu]
   refine new_intro (wd := 1) (Q := mkQ LPc) (by decide) tysOk (q_of LPc_ok) mixed Try.func63 rfl _ (by show 2 <= _; decide) (fun i _ j _ => row_nf eB _ i j) ?_
   repeat' (first | (apply And.intro <;> intro hc <;> (first | exact Bool.noConfusion hc | (exfalso; first | exact absurd hu hc | exact absurd hc hu) | (simp only [zb0, ne_eq, not_true_eq_false] at hc <;> first | exact absurd rfl hc | (exfalso; first | exact absurd hu hc | exact absurd hc hu) | skip) | skip)) | (refine And.intro zp1 ?_) | (apply And.intro) | (intro s hs; (first | (have hs' : s = sizeP p := hs.trans (congrArg sizeP (pk_eq p _)); clear hs; subst hs') | (have hs' := hs.trans n1; clear hs; subst hs') | (have hs' := hs.trans ((congrArg (fun x => appN x _) (toL_is (by rw [List.length_append, List.length_append]; omega) (isRow_0 (row40 hH)))).trans (n2 _)); clear hs; subst hs') | skip)))
   . dsimp only; rw [toL_b]; omega
   . dsimp only; rw [toL_b]; omega
   . rename_i hs4
     rcases (show s = 0 \/ s = 1 \/ s = 2 \/ s = 3 by omega) with rfl | rfl | rfl | rfl <;> rfl
   . dsimp only; rw [toL_len]; decide
   . dsimp only; rw [toL_len]; decide
   . dsimp only; rw [toL_len]; decide
   . omega
   . omega
   . exact ok_is (isRow_0 (row40 hH)) (by rw [List.length_append, List.length_append]; omega)
   . rename_i hs4
     rcases (show s = 0 \/ s = 1 \/ s = 2 \/ s = 3 by omega) with rfl | rfl | rfl | rfl <;> rfl
   . dsimp only; rw [toL_len]; omega
   . dsimp only; rw [toL_len]; decide
   . dsimp only; rw [toL_len]; decide
   . rw [List.length_append, List.length_append, List.length_append]; omega
   . rw [List.length_append, List.length_append, List.length_append]; omega
   . refine ⟨⟨some 69, leF_c (leC_os rfl (List.length_append).symm), leN_is (List.length_append).symm (isRow_sel rfl (isRow_row _) fun k hk => ?_)⟩⟩
     show rowF eB p.2 _ 0 = _
     rw [Nat.add_sub_cancel_left]; rfl
 . rw [if_neg hu, List.append_nil]
   refine new_intro (wd := 1) (Q := mkQ LPc) (by decide) tysOk (q_of LPc_ok) mixed Try.func63 rfl _ (by show 2 <= _; decide) (fun i _ j _ => row_nf eB _ i j) ?_
   repeat' (first | (apply And.intro <;> intro hc <;> (first | exact Bool.noConfusion hc | (exfalso; first | exact absurd hu hc | exact absurd hc hu) | (simp only [zb0, ne_eq, not_true_eq_false] at hc <;> first | exact absurd rfl hc | (exfalso; first | exact absurd hu hc | exact absurd hc hu) | skip) | skip)) | (refine And.intro zp1 ?_) | (apply And.intro) | (intro s hs; (first | (have hs' : s = sizeP p := hs.trans (congrArg sizeP (pk_eq p _)); clear hs; subst hs') | (have hs' := hs.trans n1; clear hs; subst hs') | skip)))
   . dsimp only; rw [toL_b]; omega
   . dsimp only; rw [toL_b]; omega
   . rename_i hs4
     rcases (show s = 0 \/ s = 1 \/ s = 2 \/ s = 3 by omega) with rfl | rfl | rfl | rfl <;> rfl
   . dsimp only; rw [toL_len]; decide
   . dsimp only; rw [toL_len]; decide
   . dsimp only; rw [toL_len]; decide
   . omega
   . omega
   . refine ⟨⟨some 51, leF_c (leC_os rfl (by rw [List.length_append, List.length_append, List.length_append]; omega)), leN_is (by rw [List.length_append, List.length_append, List.length_append]; omega) (isRow_sel (by rw [List.length_append, List.length_append]; omega) (row40 hH) fun k hk => ?_)⟩⟩
     show rowF eB p.2 _ 0 = _
     rw [Nat.add_sub_cancel_left]; rfl
theorem ipL_BL {a : Fin 16 -> Int} (h : ∀ i, 0 <= vget a i /\ vget a i < 256) : BL (ipL a) := ⟨fun x hx => by
 unfold ipL at hx
 obtain ⟨i, _, rfl⟩ := List.mem_map.1 hx
 exact h i⟩
theorem encB_BL {p : Pkt} (hp : PkW p) (sum : Int) : BL (encB p sum) := by
 unfold encB
 refine (((((beB_BL _ _).append (beB_BL _ _)).append (BL.cons hp.nxt (BL.cons hp.hops BL.nil))).append (ipL_BL hp.src)).append (ipL_BL hp.dst)).append ?_ |>.append hp.pay
 split
 . exact (((beB_BL _ _).append (beB_BL _ _)).append (beB_BL _ _)).append (beB_BL _ _)
 . exact BL.nil
theorem encB_len (p : Pkt) (sum : Int) : ((encB p sum).length : Int) = sizeP p := by
 have h8 : (encH p).length = 8 := by unfold encH beB; simp [beN_len]
 rw [encB_eq, List.length_append, List.length_append, List.length_append, List.length_append, ipL_len, ipL_len, h8]
 unfold sizeP
 split
 . have hU : (encU p sum).length = 8 := by unfold encU beB; simp [beN_len]
   rw [hU]; omega
 . rw [List.length_nil]; omega
theorem valid_size {p : Pkt} (h : validP p = true) : sizeP p <= 1280 := by
 unfold validP at h
 simp only [Bool.and_eq_true, decide_eq_true_eq] at h
 exact h.1.2
theorem valid_len {p : Pkt} (h : validP p = true) : p.2.length <= 1240 := by
 have := valid_size h
 unfold sizeP at this
 split at this <;> omega
abbrev encodingE : Entry := newE (AC.cons cPk (AC.cons (cI .u16) AC.nil)) (fun a => PkW a.1 /\ a.1.2.length <= 2000 /\ 0 <= a.2.1 /\ a.2.1 < 65536) (fun a => encB a.1 a.2.1) (fun L => some L.length) (fun _ => none) (fun L => ents eB 5 L)
def LPd : CsL := (63, some encodingE) :: LPc
theorem LPd_ok : AllOk Try.prog LPd := ⟨newE_ok ⟨_, Try.func63, rfl, by kernel_rfl⟩ (fun s l h => by cases h) fun a h => encoding_ok a.1 a.2.1 h.1 h.2.1 h.2.2, LPc_ok⟩
def sumP (p : Pkt) : Int := if validP p = true /\ p.1.nxt = 17 then sum0 (coverB (encB p 0)) else 0
theorem inetF_r (l : List Int) : 0 <= inetF l /\ inetF l < 65536 := by
 have := foldN_le (totI l)
 unfold inetF
 omega
theorem sumP_r (p : Pkt) : 0 <= sumP p /\ sumP p < 65536 := by
 unfold sumP
 split
 . unfold sum0
   have := inetF_r (coverB (encB p 0))
   split <;> omega
 . omega
theorem psum_ok (p : Pkt) (hp : PkW p) (hl : p.2.length <= 140737488355328) : PureOk Try.prog 25 [cPk.enc p] ((cI .u16).enc (sumP p)) := by
 refine pure_intro (wd := 1) (Q := mkQ LPd) (by decide) tysOk (q_of LPd_ok) mixed Try.func25 rfl _ (by show 1 <= _; decide) _ ?_
 repeat' (first | (apply And.intro <;> intro hc <;> (first | exact Bool.noConfusion hc | (simp only [zb0, ne_eq, not_true_eq_false] at hc <;> first | exact absurd rfl hc | skip) | skip)) | (refine And.intro zp1 ?_) | (apply And.intro) | (intro s hs; (first | (have hs' : s = validP p := hs.trans (congrArg validP (pk_eq p _)); clear hs; subst hs') | (have hq : s = encB p 0 := hs.trans (congrArg (fun x => encB x 0) (pk_eq p _)); clear hs) | skip)))
 . dsimp only; rw [toL_b]; exact hl
 . exact Done.mk (leF_int (by unfold sumP; rw [if_neg fun h => by first | exact absurd h.1 (by assumption) | exact absurd h.2 (by assumption) | exact Bool.noConfusion (h.1.symm.trans (by assumption))]))
 . exact Done.mk (leF_int (by unfold sumP; rw [if_neg fun h => by first | exact absurd h.1 (by assumption) | exact absurd h.2 (by assumption) | exact Bool.noConfusion (h.1.symm.trans (by assumption))]))
 . dsimp only; rw [pk_eq]; exact hp
 . have hv : validP p = true := by assumption
   have := valid_len hv
   dsimp only; rw [toL_b]; omega
 . dsimp only; omega
 . exact rfl
 . dsimp only; rw [toL_b0, hq]; exact encB_BL hp 0
 . dsimp only; rw [toL_b0, hq]
   have h1 := encB_len p 0
   have h2 : p.1.nxt = 17 := by assumption
   unfold sizeP at h1; rw [if_pos h2] at h1; omega
 . dsimp only; rw [toL_b0, hq]
   have h1 := encB_len p 0
   have h2 := valid_size (p := p) (by assumption)
   omega
 . have hs' : s = sum0 (coverB (encB p 0)) := by
    rw [hs]
    dsimp only
    rw [toL_b0, hq]
   clear hs
   refine Done.mk (leF_int ?_)
   rw [hs']
   unfold sumP; rw [if_pos ⟨by assumption, by assumption⟩]
abbrev sumE : Entry := pureE PA (fun a => PkW a.1 /\ a.1.2.length <= 140737488355328) (fun a => sumP a.1) (cI .u16).enc
def LPe : CsL := (25, some sumE) :: LPd
theorem LPe_ok : AllOk Try.prog LPe := ⟨pureE_ok ⟨_, Try.func25, rfl, by kernel_rfl⟩ fun a h => psum_ok a.1 h.1 h.2, LPd_ok⟩
def encR (p : Pkt) : Option (List Int) := if validP p = true then some (encB p (sumP p)) else none
def ecR (o : Option (List Int)) : Int := if o.isSome then 0 else 1
abbrev i64V (n : Int) : EV := .c (.int .i64 n)
theorem pencode_ok (p : Pkt) (hp : PkW p) (hl : p.2.length <= 140737488355328) : NewOk Try.prog 19 [cPk.enc p] (some ((encR p).getD []).length) (some [i64V (ecR (encR p))]) (ents eB 5 ((encR p).getD [])) := by
 refine new_intro (wd := 1) (Q := mkQ LPe) (by decide) tysOk (q_of LPe_ok) mixed Try.func19 rfl _ (by show 1 <= _; decide) (fun i _ j _ => row_nf eB _ i j) ?_
 repeat' (first | (apply And.intro <;> intro hc <;> (first | exact Bool.noConfusion hc | (simp only [zb0, ne_eq, not_true_eq_false] at hc <;> first | exact absurd rfl hc | skip) | skip)) | (refine And.intro zp1 ?_) | (apply And.intro) | (intro s hs; (first | (have hs' : s = validP p := hs.trans (congrArg validP (pk_eq p _)); clear hs; subst hs') | (have hs' : s = sumP p := hs.trans (congrArg sumP (pk_eq p _)); clear hs; subst hs') | (have hq : s = encB p (sumP p) := hs.trans (congrArg (fun x => encB x (sumP p)) (pk_eq p _)); clear hs) | skip)))
 . dsimp only; rw [toL_b]; exact hl
 . have e : encR p = none := if_neg (fun h => by simp_all)
   rw [e]
   exact ⟨⟨none, leF_tup ⟨leC_nils_os rfl, leC_int rfl, trivial⟩, rfl, rfl, by decide⟩⟩
 . dsimp only; rw [pk_eq]; exact hp
 . dsimp only; rw [toL_b]; exact hl
 . dsimp only; rw [pk_eq]; exact hp
 . have hv : validP p = true := by simp_all
   have := valid_len hv
   dsimp only; rw [toL_b]; omega
 . exact (sumP_r p).1
 . exact (sumP_r p).2
 . have hv : validP p = true := by simp_all
   have e : encR p = some s := by unfold encR; rw [if_pos hv, hq]
   rw [e]
   exact ⟨⟨some 9, leF_tup ⟨leC_os rfl rfl, leC_int rfl, trivial⟩, leN_ents⟩⟩
abbrev encE : Entry := newE PA (fun a => PkW a.1 /\ a.1.2.length <= 140737488355328) (fun a => encR a.1) (fun s => some (s.getD []).length) (fun s => some [i64V (ecR s)]) (fun s => ents eB 5 (s.getD []))
def LPf : CsL := (19, some encE) :: LPe
theorem LPf_ok : AllOk Try.prog LPf := ⟨newE_ok ⟨_, Try.func19, rfl, by kernel_rfl⟩ (fun s l h x hx => by injection h with h; subst h; obtain rfl := List.mem_singleton.1 hx; exact nfE_c nf_int) fun a h => pencode_ok a.1 h.1 h.2, LPe_ok⟩
def cPs {α : Type} [Inhabited α] (E : Elem α) (hsz : 0 < E.sz) : Codec (List α) where
 enc l := .e (.c (.rp false 1 fun _ => .sl false l.length E.sz (rowF E l)))
 dec H x := match x with
  | .e (.c (.ptr k 0 0 _)) => match hget H k with
    | some e => bif Nat.blt 0 e.n && Nat.blt 0 e.sz then
       match srcOf H E.sz (.e (.c (e.f 0 0))) with
       | some ⟨n, g, p, rd⟩ => some (toL E n g, both p (some (∀ i, i < n -> E.ok (g i) = true)), k :: rd)
       | none => none
      else none
    | none => none
  | _ => none
 sound H H' x a p rd h hp hh := by
  split at h
  . rename_i k fl
    split at h
    . rename_i e he
      obtain ⟨hb, h⟩ : (Nat.blt 0 e.n && Nat.blt 0 e.sz) = true /\ (match srcOf H E.sz (.e (.c (e.f 0 0))) with
       | some ⟨n, g, p, rd⟩ => some (toL E n g, both p (some (∀ i, i < n -> E.ok (g i) = true)), k :: rd)
       | none => none) = some (a, p, rd) := by
       cases hb : (Nat.blt 0 e.n && Nat.blt 0 e.sz) with
       | true => rw [hb] at h; exact ⟨rfl, h⟩
       | false => rw [hb] at h; cases h
      rw [Bool.and_eq_true] at hb
      split at h
      . rename_i n g q rd' hs
        injection h with h
        injection h with h h'
        injection h' with h' h''
        subst h h' h''
        obtain ⟨p1, p2⟩ := both_ok.1 hp
        have he' : hget H' k = some e := by rw [<- hh k (List.mem_cons_self ..)]; exact he
        have hl := bo_sl hsz (srcOf_congr hs fun k2 hk2 => hh k2 (List.mem_cons_of_mem _ hk2)) p1 p2
        rintro cx r w v st ⟨y, hy, rfl⟩
        obtain ⟨u, hu, hr⟩ := blk_cell st he' hy (i := 0) (j := 0) (Nat.le_of_ble_eq_true hb.1) (Nat.le_of_ble_eq_true hb.2)
        refine ⟨⟨y.b, 0 * y.sz + 0, none⟩, rfl, rfl, ?_, (fun h => by cases h), (st.dom k y hy.1).1, fun j hj => ⟨u, ?_, ?_⟩⟩
        . rintro ⟨k2, e2, z, q1, q2, q3, q4⟩
          have := st.inj k2 k e2 _ z y q1 he' q2 hy.1 q3
          exact q4 (by rw [this]; exact List.mem_cons_self ..)
        . obtain rfl : j = 0 := by omega
          exact hu
        . exact CV.rel_w (fun b ⟨nm, e, x, h1, h2, h3, h4⟩ => ⟨nm, e, x, h1, h2, h3, fun h => h4 (List.mem_cons_of_mem _ h)⟩) _ _ (hl cx r w u st hr)
      . cases h
    . cases h
  . cases h
def uI (b : List Int) (a n : Int) : Int := (uintF b a n).1
theorem dec1_ok (b : List Int) (a n : Int) (hb : BL b) (hl : b.length <= 70368744177664) : PureOk Try.prog 73 [(cI .i64).enc a, (cI .i64).enc n, (cPs eB eB_sz).enc b] ((cI .u64).enc (uI b a n)) := by
 refine pure_intro (wd := 1) (Q := mkQ LPf) (by decide) tysOk (q_of LPf_ok) mixed Try.func73 rfl _ (by show 3 <= _; decide) _ ?_
 repeat' (first | (apply And.intro <;> intro hc <;> (first | exact Bool.noConfusion hc | (simp only [zb0, ne_eq, not_true_eq_false] at hc <;> first | exact absurd rfl hc | skip) | skip)) | (refine And.intro zp1 ?_) | (apply And.intro) | (intro s hs; skip))
 . dsimp only; rw [toL_b]; exact hb
 . dsimp only; rw [toL_b]; exact hl
 . have hs' : s = uintF b a n := by rw [hs]; dsimp only; rw [toL_b]
   clear hs
   exact Done.mk (leF_int (by rw [hs']; rfl))
abbrev dec1E : Entry := pureE (AC.cons (cI .i64) (AC.cons (cI .i64) (AC.cons (cPs eB eB_sz) AC.nil))) (fun a => BL a.2.2.1 /\ a.2.2.1.length <= 70368744177664) (fun a => uI a.2.2.1 a.1 a.2.1) (cI .u64).enc
def LPg : CsL := (73, some dec1E) :: LPf
theorem LPg_ok : AllOk Try.prog LPg := ⟨pureE_ok ⟨_, Try.func73, rfl, by kernel_rfl⟩ fun a h => dec1_ok a.2.2.1 a.1 a.2.1 h.1 h.2, LPf_ok⟩
def pk0 : Pkt := (⟨0, 0, 0, 0, fun _ => 0, fun _ => 0, 0, 0⟩, [])
def hd1 (b : List Int) (sp dp : Int) : Hdr := ⟨IntKind.u8.wrap (shrI .u64 (uI b 0 4) 20), IntKind.u32.wrap (bits .and .u64 (uI b 0 4) 1048575), b.getD 6 default, b.getD 7 default, fun i => b.getD (8 + i.1) default, fun i => b.getD (24 + i.1) default, sp, dp⟩
def pkU (b : List Int) : Pkt := (hd1 b (IntKind.u16.wrap (uI b 40 2)) (IntKind.u16.wrap (uI b 42 2)), b.drop 48)
def pkN (b : List Int) : Pkt := (hd1 b 0 0, b.drop 40)
def pkF (b : List Int) : Pkt := if b.getD 6 default = 17 then pkU b else pkN b
def decF (b : List Int) : Pkt × Int :=
 if 1280 < b.length then (pk0, 3)
 else if b.length < 40 \/ b.length < 48 /\ b.getD 6 default = 17 then (pk0, 4)
 else if shrI .u64 (uI b 0 4) 28 ≠ 6 \/ uI b 4 2 ≠ IntKind.u64.wrap (IntKind.i64.wrap (b.length - 40)) then (pk0, 5)
 else if b.getD 6 default = 17 /\ uI b 44 2 ≠ IntKind.u64.wrap (IntKind.i64.wrap (b.length - 40)) then (pk0, 5)
 else if validP (pkF b) = false then (pk0, 5)
 else if b.getD 6 default = 17 /\ IntKind.u16.wrap (uI b 46 2) ≠ sum0 (coverB b) then (pk0, 6)
 else (pkF b, 0)
def encPE (s : Pkt × Int) : FV := .tup [tailR eHd eB s.1, .c (.int .i64 s.2)]
theorem isRow_ov {z : Nat -> Nat -> CV} {n : Nat} {g : Nat -> Nat -> CV} {l : List Int} (hn : l.length <= n) (hg : ∀ k, k < l.length -> g k 0 = .int .u8 (l.getD k default)) : IsRow (fun k j => ovE z 0 n g (0 + k) j) l := ⟨fun k hk => by
 show selC (Nat.ble 0 (0 + k) && Nat.blt (0 + k) (0 + n)) (g (0 + k - 0) 0) _ = _
 rw [show Nat.ble 0 (0 + k) = true from Nat.ble_eq_true_of_le (Nat.zero_le _), blt_lt (show 0 + k < 0 + n by omega), Bool.and_true, selC_eq, cond_true, show 0 + k - 0 = k by omega]
 exact hg k hk⟩
theorem getD_dropI (b : List Int) (a k : Nat) : (b.drop a).getD k default = b.getD (a + k) default := by
 rw [List.getD_eq_getElem?_getD, List.getD_eq_getElem?_getD, List.getElem?_drop]
theorem isRow_o40 {z : Nat -> Nat -> CV} {n : Nat} {b : List Int} (hn : b.length - 40 <= n) : IsRow (fun k j => ovE z 0 n (fun i => rowF eB b (40 + i)) (0 + k) j) (b.drop 40) :=
 isRow_ov (by rw [List.length_drop]; exact hn) fun k hk => by rw [getD_dropI]; rfl
theorem isRow_o48 {z : Nat -> Nat -> CV} {n : Nat} {b : List Int} (hn : b.length - 48 <= n) : IsRow (fun k j => ovE z 0 n (fun i => (fun i => rowF eB b (40 + i)) (8 + i)) (0 + k) j) (b.drop 48) :=
 isRow_ov (by rw [List.length_drop]; exact hn) fun k hk => by rw [getD_dropI, show 48 + k = 40 + (8 + k) by omega]; rfl
theorem isRow_un {F : Nat -> Nat -> CV} {l : List Int} (h : IsRow (fun k j => F (0 + k) j) l) : IsRow F l := ⟨fun k hk => by
 have := h.at_ k hk
 rw [Nat.zero_add] at this
 exact this⟩
theorem leC_os_is {c : Wc} {sh : Bool} {k n : Nat} {e : Ent} {l : List Int} (he : hget c.H k = some e) (hd : c.dead k = true) (hz : e.sz = 1) (hn : n = l.length) (hle : n <= e.n) (h : IsRow (fun q j => e.f (0 + q) j) l) : LeC c (.os k 0 n) (.sl sh l.length eB.sz (rowF eB l)) :=
 leC_os_sl he hd hz hn (by rw [Nat.zero_add]; exact hle) fun q hq j hj => leC_is h (by omega) hj
theorem min_ge {a b c : Nat} (h1 : a <= b) (h2 : a <= c) : a <= Nat.min b c := Nat.le_min.2 ⟨h1, h2⟩
theorem pk_is {G : Nat -> CV} {h : Hdr} {n : Nat} {F : Nat -> Nat -> CV} {l : List Int} (h1 : ∀ j, j < 38 -> G j = eHd.cell h j) (h2 : toL eB n F = l) : ((eHd.rd G, toL eB n F) : Pkt) = (h, l) := by
 rw [h2, hd_congr G (eHd.cell h) h1, eHd_rd]
theorem pdecode_ok (b : List Int) (hb : BL b) (hl : b.length <= 140737488355328) : PureOk Try.prog 30 [(cSl eB eB_sz).enc b] (encPE (decF b)) := by
 obtain ⟨L0, eL⟩ : ∃ L0, decF b = L0 := ⟨_, rfl⟩
 rw [eL]
 by_cases hu : b.getD 6 default = 17
 . have eF : pkF b = pkU b := if_pos hu
   refine pure_intro (wd := 1) (Q := mkQ LPg) (by decide) tysOk (q_of LPg_ok) mixed Try.func30 rfl _ (by show 1 <= _; decide) _ ?_
   repeat' (first | (apply And.intro <;> intro hc <;> (first | exact Bool.noConfusion hc | (exfalso; first | exact absurd hu hc | exact absurd hc hu) | (simp only [zb0, ne_eq, not_true_eq_false] at hc <;> first | exact absurd rfl hc | (exfalso; first | exact absurd hu hc | exact absurd hc hu) | skip) | skip)) | (refine And.intro zp1 ?_) | (apply And.intro) | (intro s hs; (first | (have q : s = validP (pkU b) := by (refine hs.trans (congrArg validP (pk_is (h := (pkU b).1) (l := (pkU b).2) (fun j hj => ?_) (toL_is ?_ (isRow_o48 ?_)))); (iterate 38 (rcases j with _ | j; exact rfl)); exact absurd hj (by omega); (show _ = (b.drop 48).length; rw [List.length_drop]; omega); exact min_ge (by omega) (by omega)); clear hs; subst q) | (have q := hs; dsimp only at q; rw [toL_b] at q; clear hs; subst q) | skip)))
   all_goals first
    | (dsimp only; rw [toL_b]; exact hb)
    | (dsimp only; rw [toL_b]; omega)
    | (dsimp only; rw [toL_b]; omega)
    | (show 8 <= ((b.length - 40 : Nat) : Int); omega)
    | (refine ok_is (isRow_o48 (min_ge (by omega) (by omega))) ?_; rw [List.length_drop]; omega)
    | (show (toL eB _ _).length <= _; rw [toL_len]; omega)
    | skip
   . have e : L0 = (pk0, 3) := by
      rw [<- eL]
      unfold decF
      rw [if_pos (by omega)]
     rw [e]
     refine Done.mk (leF_tup ⟨leE_tail rfl (fun j hj => ?_) (leC_nils_sl rfl), leC_int rfl, trivial⟩)
     iterate 38 (rcases j with _ | j; exact leC_int rfl)
     exact absurd hj (by show ¬ _ < 38; omega)
   . have e : L0 = (pk0, 4) := by
      rw [<- eL]
      unfold decF
      rw [if_neg (by omega), if_pos (by omega)]
     rw [e]
     refine Done.mk (leF_tup ⟨leE_tail rfl (fun j hj => ?_) (leC_nils_sl rfl), leC_int rfl, trivial⟩)
     iterate 38 (rcases j with _ | j; exact leC_int rfl)
     exact absurd hj (by show ¬ _ < 38; omega)
   . have e : L0 = (pk0, 4) := by
      rw [<- eL]
      unfold decF
      rw [if_neg (by omega), if_pos (by omega)]
     rw [e]
     refine Done.mk (leF_tup ⟨leE_tail rfl (fun j hj => ?_) (leC_nils_sl rfl), leC_int rfl, trivial⟩)
     iterate 38 (rcases j with _ | j; exact leC_int rfl)
     exact absurd hj (by show ¬ _ < 38; omega)
   . have e : L0 = (pk0, 5) := by
      rw [<- eL]
      unfold decF
      rw [if_neg (by omega), if_neg (by omega), if_pos (by omega)]
     rw [e]
     refine Done.mk (leF_tup ⟨leE_tail rfl (fun j hj => ?_) (leC_nils_sl rfl), leC_int rfl, trivial⟩)
     iterate 38 (rcases j with _ | j; exact leC_int rfl)
     exact absurd hj (by show ¬ _ < 38; omega)
   . have e : L0 = (pk0, 5) := by
      rw [<- eL]
      unfold decF
      rw [if_neg (by omega), if_neg (by omega), if_pos (by omega)]
     rw [e]
     refine Done.mk (leF_tup ⟨leE_tail rfl (fun j hj => ?_) (leC_nils_sl rfl), leC_int rfl, trivial⟩)
     iterate 38 (rcases j with _ | j; exact leC_int rfl)
     exact absurd hj (by show ¬ _ < 38; omega)
   . have e : L0 = (pk0, 5) := by
      rw [<- eL]
      unfold decF
      rw [if_neg (by omega), if_neg (by omega), if_neg (by omega), if_pos (by omega)]
     rw [e]
     refine Done.mk (leF_tup ⟨leE_tail rfl (fun j hj => ?_) (leC_nils_sl rfl), leC_int rfl, trivial⟩)
     iterate 38 (rcases j with _ | j; exact leC_int rfl)
     exact absurd hj (by show ¬ _ < 38; omega)
   . refine ok_is (isRow_un (isRow_o48 ?_)) ?_
     . exact min_ge (by omega) (by omega)
     . rw [List.length_drop]; omega
   . have q : s = validP (pkU b) := by
      refine hs.trans (congrArg validP (pk_is (h := (pkU b).1) (l := (pkU b).2) (fun j hj => ?_) (toL_is ?_ (isRow_o48 ?_))))
      . iterate 38 (rcases j with _ | j; exact rfl)
        exact absurd hj (by omega)
      . show _ = (b.drop 48).length
        rw [List.length_drop]; omega
      . exact min_ge (by omega) (by omega)
     have q' := (q.symm.trans (by assumption) : validP (pkU b) = false)
     have e : L0 = (pk0, 5) := by
      rw [<- eL]
      unfold decF
      rw [if_neg (by omega), if_neg (by omega), if_neg (by omega), if_neg (by omega), if_pos (by rw [eF]; exact q')]
     rw [e]
     refine Done.mk (leF_tup ⟨leE_tail rfl (fun j hj => ?_) (leC_nils_sl rfl), leC_int rfl, trivial⟩)
     iterate 38 (rcases j with _ | j; exact leC_int rfl)
     exact absurd hj (by show ¬ _ < 38; omega)
   . have q : s = validP (pkU b) := by
      refine hs.trans (congrArg validP (pk_is (h := (pkU b).1) (l := (pkU b).2) (fun j hj => ?_) (toL_is ?_ (isRow_o48 ?_))))
      . iterate 38 (rcases j with _ | j; exact rfl)
        exact absurd hj (by omega)
      . show _ = (b.drop 48).length
        rw [List.length_drop]; omega
      . exact min_ge (by omega) (by omega)
     have q' := (q.symm.trans (by assumption) : validP (pkU b) = true)
     have e : L0 = (pk0, 6) := by
      rw [<- eL]
      unfold decF
      rw [if_neg (by omega), if_neg (by omega), if_neg (by omega), if_neg (by omega), if_neg (by rw [eF, q']; decide), if_pos ⟨hu, by assumption⟩]
     rw [e]
     refine Done.mk (leF_tup ⟨leE_tail rfl (fun j hj => ?_) (leC_nils_sl rfl), leC_int rfl, trivial⟩)
     iterate 38 (rcases j with _ | j; exact leC_int rfl)
     exact absurd hj (by show ¬ _ < 38; omega)
   . have q : s = validP (pkU b) := by
      refine hs.trans (congrArg validP (pk_is (h := (pkU b).1) (l := (pkU b).2) (fun j hj => ?_) (toL_is ?_ (isRow_o48 ?_))))
      . iterate 38 (rcases j with _ | j; exact rfl)
        exact absurd hj (by omega)
      . show _ = (b.drop 48).length
        rw [List.length_drop]; omega
      . exact min_ge (by omega) (by omega)
     have q' := (q.symm.trans (by assumption) : validP (pkU b) = true)
     have e : L0 = (pkU b, 0) := by
      rw [<- eL]
      unfold decF
      rw [if_neg (by omega), if_neg (by omega), if_neg (by omega), if_neg (by omega), if_neg (by rw [eF, q']; decide), if_neg (fun h => h.2 (by assumption)), eF]
     rw [e]
     refine Done.mk (leF_tup ⟨leE_tail rfl (fun j hj => ?_) (leC_os_is (l := b.drop 48) rfl rfl rfl ?_ ?_ ?_), leC_int rfl, trivial⟩)
     . iterate 38 (rcases j with _ | j; exact leC_int rfl)
       exact absurd hj (by show ¬ _ < 38; omega)
     . rw [List.length_drop]; omega
     . show _ <= _; dsimp only; omega
     . dsimp only
       refine isRow_o48 ?_
       exact min_ge (by omega) (by omega)
 . have eF : pkF b = pkN b := if_neg hu
   refine pure_intro (wd := 1) (Q := mkQ LPg) (by decide) tysOk (q_of LPg_ok) mixed Try.func30 rfl _ (by show 1 <= _; decide) _ ?_
   repeat' (first | (apply And.intro <;> intro hc <;> (first | exact Bool.noConfusion hc | (exfalso; first | exact absurd hu hc | exact absurd hc hu) | (simp only [zb0, ne_eq, not_true_eq_false] at hc <;> first | exact absurd rfl hc | (exfalso; first | exact absurd hu hc | exact absurd hc hu) | skip) | skip)) | (refine And.intro zp1 ?_) | (apply And.intro) | (intro s hs; (first | (have q := hs; dsimp only at q; rw [toL_b] at q; clear hs; subst q) | skip)))
   all_goals first
    | (dsimp only; rw [toL_b]; exact hb)
    | (dsimp only; rw [toL_b]; omega)
    | (show (toL eB _ _).length <= _; rw [toL_len]; omega)
    | skip
   . have e : L0 = (pk0, 3) := by
      rw [<- eL]
      unfold decF
      rw [if_pos (by omega)]
     rw [e]
     refine Done.mk (leF_tup ⟨leE_tail rfl (fun j hj => ?_) (leC_nils_sl rfl), leC_int rfl, trivial⟩)
     iterate 38 (rcases j with _ | j; exact leC_int rfl)
     exact absurd hj (by show ¬ _ < 38; omega)
   . have e : L0 = (pk0, 4) := by
      rw [<- eL]
      unfold decF
      rw [if_neg (by omega), if_pos (by omega)]
     rw [e]
     refine Done.mk (leF_tup ⟨leE_tail rfl (fun j hj => ?_) (leC_nils_sl rfl), leC_int rfl, trivial⟩)
     iterate 38 (rcases j with _ | j; exact leC_int rfl)
     exact absurd hj (by show ¬ _ < 38; omega)
   . have e : L0 = (pk0, 5) := by
      rw [<- eL]
      unfold decF
      rw [if_neg (by omega), if_neg (by omega), if_pos (by omega)]
     rw [e]
     refine Done.mk (leF_tup ⟨leE_tail rfl (fun j hj => ?_) (leC_nils_sl rfl), leC_int rfl, trivial⟩)
     iterate 38 (rcases j with _ | j; exact leC_int rfl)
     exact absurd hj (by show ¬ _ < 38; omega)
   . have e : L0 = (pk0, 5) := by
      rw [<- eL]
      unfold decF
      rw [if_neg (by omega), if_neg (by omega), if_pos (by omega)]
     rw [e]
     refine Done.mk (leF_tup ⟨leE_tail rfl (fun j hj => ?_) (leC_nils_sl rfl), leC_int rfl, trivial⟩)
     iterate 38 (rcases j with _ | j; exact leC_int rfl)
     exact absurd hj (by show ¬ _ < 38; omega)
   . refine ok_is (isRow_un (isRow_o40 ?_)) ?_
     . exact min_ge (by omega) (by omega)
     . rw [List.length_drop]; omega
   . have q : s = validP (pkN b) := by
      refine hs.trans (congrArg validP (pk_is (h := (pkN b).1) (l := (pkN b).2) (fun j hj => ?_) (toL_is ?_ (isRow_o40 ?_))))
      . iterate 38 (rcases j with _ | j; exact rfl)
        exact absurd hj (by omega)
      . show _ = (b.drop 40).length
        rw [List.length_drop]; omega
      . exact min_ge (by omega) (by omega)
     have q' := (q.symm.trans (by assumption) : validP (pkN b) = false)
     have e : L0 = (pk0, 5) := by
      rw [<- eL]
      unfold decF
      rw [if_neg (by omega), if_neg (by omega), if_neg (by omega), if_neg (fun h => hu h.1), if_pos (by rw [eF]; exact q')]
     rw [e]
     refine Done.mk (leF_tup ⟨leE_tail rfl (fun j hj => ?_) (leC_nils_sl rfl), leC_int rfl, trivial⟩)
     iterate 38 (rcases j with _ | j; exact leC_int rfl)
     exact absurd hj (by show ¬ _ < 38; omega)
   . have q : s = validP (pkN b) := by
      refine hs.trans (congrArg validP (pk_is (h := (pkN b).1) (l := (pkN b).2) (fun j hj => ?_) (toL_is ?_ (isRow_o40 ?_))))
      . iterate 38 (rcases j with _ | j; exact rfl)
        exact absurd hj (by omega)
      . show _ = (b.drop 40).length
        rw [List.length_drop]; omega
      . exact min_ge (by omega) (by omega)
     have q' := (q.symm.trans (by assumption) : validP (pkN b) = true)
     have e : L0 = (pkN b, 0) := by
      rw [<- eL]
      unfold decF
      rw [if_neg (by omega), if_neg (by omega), if_neg (by omega), if_neg (fun h => hu h.1), if_neg (by rw [eF, q']; decide), if_neg (fun h => hu h.1), eF]
     rw [e]
     refine Done.mk (leF_tup ⟨leE_tail rfl (fun j hj => ?_) (leC_os_is (l := b.drop 40) rfl rfl rfl ?_ ?_ ?_), leC_int rfl, trivial⟩)
     . iterate 38 (rcases j with _ | j; exact leC_int rfl)
       exact absurd hj (by show ¬ _ < 38; omega)
     . rw [List.length_drop]; omega
     . show _ <= _; dsimp only; omega
     . dsimp only
       refine isRow_o40 ?_
       exact min_ge (by omega) (by omega)
   . have e : L0 = (pk0, 5) := by
      rw [<- eL]
      unfold decF
      rw [if_neg (by omega), if_neg (by omega), if_pos (by omega)]
     rw [e]
     refine Done.mk (leF_tup ⟨leE_tail rfl (fun j hj => ?_) (leC_nils_sl rfl), leC_int rfl, trivial⟩)
     iterate 38 (rcases j with _ | j; exact leC_int rfl)
     exact absurd hj (by show ¬ _ < 38; omega)
   . have e : L0 = (pk0, 5) := by
      rw [<- eL]
      unfold decF
      rw [if_neg (by omega), if_neg (by omega), if_pos (by omega)]
     rw [e]
     refine Done.mk (leF_tup ⟨leE_tail rfl (fun j hj => ?_) (leC_nils_sl rfl), leC_int rfl, trivial⟩)
     iterate 38 (rcases j with _ | j; exact leC_int rfl)
     exact absurd hj (by show ¬ _ < 38; omega)
   . refine ok_is (isRow_un (isRow_o40 ?_)) ?_
     . exact min_ge (by omega) (by omega)
     . rw [List.length_drop]; omega
   . have q : s = validP (pkN b) := by
      refine hs.trans (congrArg validP (pk_is (h := (pkN b).1) (l := (pkN b).2) (fun j hj => ?_) (toL_is ?_ (isRow_o40 ?_))))
      . iterate 38 (rcases j with _ | j; exact rfl)
        exact absurd hj (by omega)
      . show _ = (b.drop 40).length
        rw [List.length_drop]; omega
      . exact min_ge (by omega) (by omega)
     have q' := (q.symm.trans (by assumption) : validP (pkN b) = false)
     have e : L0 = (pk0, 5) := by
      rw [<- eL]
      unfold decF
      rw [if_neg (by omega), if_neg (by omega), if_neg (by omega), if_neg (fun h => hu h.1), if_pos (by rw [eF]; exact q')]
     rw [e]
     refine Done.mk (leF_tup ⟨leE_tail rfl (fun j hj => ?_) (leC_nils_sl rfl), leC_int rfl, trivial⟩)
     iterate 38 (rcases j with _ | j; exact leC_int rfl)
     exact absurd hj (by show ¬ _ < 38; omega)
   . have q : s = validP (pkN b) := by
      refine hs.trans (congrArg validP (pk_is (h := (pkN b).1) (l := (pkN b).2) (fun j hj => ?_) (toL_is ?_ (isRow_o40 ?_))))
      . iterate 38 (rcases j with _ | j; exact rfl)
        exact absurd hj (by omega)
      . show _ = (b.drop 40).length
        rw [List.length_drop]; omega
      . exact min_ge (by omega) (by omega)
     have q' := (q.symm.trans (by assumption) : validP (pkN b) = true)
     have e : L0 = (pkN b, 0) := by
      rw [<- eL]
      unfold decF
      rw [if_neg (by omega), if_neg (by omega), if_neg (by omega), if_neg (fun h => hu h.1), if_neg (by rw [eF, q']; decide), if_neg (fun h => hu h.1), eF]
     rw [e]
     refine Done.mk (leF_tup ⟨leE_tail rfl (fun j hj => ?_) (leC_os_is (l := b.drop 40) rfl rfl rfl ?_ ?_ ?_), leC_int rfl, trivial⟩)
     . iterate 38 (rcases j with _ | j; exact leC_int rfl)
       exact absurd hj (by show ¬ _ < 38; omega)
     . rw [List.length_drop]; omega
     . show _ <= _; dsimp only; omega
     . dsimp only
       refine isRow_o40 ?_
       exact min_ge (by omega) (by omega)
abbrev decE : Entry := pureE (AC.cons (cSl eB eB_sz) AC.nil) (fun a => BL a.1 /\ a.1.length <= 140737488355328) (fun a => decF a.1) encPE
def LPh : CsL := (30, some decE) :: LPg
theorem LPh_ok : AllOk Try.prog LPh := ⟨pureE_ok ⟨_, Try.func30, rfl, by kernel_rfl⟩ fun a h => pdecode_ok a.1 h.1 h.2, LPg_ok⟩
theorem dec_len {b : List Int} (h : (decF b).2 = 0) : 40 <= b.length /\ b.length <= 1280 /\ decF b = (pkF b, 0) := by
 unfold decF at h ⊢
 split at h
 . cases h
 . split at h
   . cases h
   . rename_i h1 h2
     rw [if_neg h2]
     split at h
     . cases h
     . split at h
       . cases h
       . split at h
         . cases h
         . split at h
           . cases h
           . rename_i h3 h4 h5 h6
             rw [if_neg h1, if_neg h3, if_neg h4, if_neg h5, if_neg h6]
             refine ⟨by omega, by omega, rfl⟩
theorem pkF_hops (b : List Int) : (pkF b).1.hops = b.getD 7 default := by
 unfold pkF
 split <;> rfl
def fwdF (b : List Int) : List Int × Int :=
 if (decF b).2 ≠ 0 then ([], (decF b).2)
 else if (decF b).1.1.hops < 2 then ([], 2)
 else (b.set 7 (IntKind.u8.wrap (b.getD 7 default - 1)), 0)
theorem forward_ok (b : List Int) (hb : BL b) (hl : b.length <= 140737488355328) : NewOk Try.prog 32 [(cSl eB eB_sz).enc b] (some (fwdF b).1.length) (some [i64V (fwdF b).2]) (ents eB 5 (fwdF b).1) := by
 obtain ⟨d, eD⟩ : ∃ d, decF b = d := ⟨_, rfl⟩
 obtain ⟨w, eW⟩ : ∃ w, fwdF b = w := ⟨_, rfl⟩
 rw [eW]
 refine new_intro (wd := 1) (Q := mkQ LPh) (by decide) tysOk (q_of LPh_ok) mixed Try.func32 rfl _ (by show 1 <= _; decide) (fun i _ j _ => row_nf eB _ i j) ?_
 repeat' (first | (apply And.intro <;> intro hc <;> (first | exact Bool.noConfusion hc | (simp only [zb0, ne_eq, not_true_eq_false] at hc <;> first | exact absurd rfl hc | skip) | skip)) | (refine And.intro zp1 ?_) | (apply And.intro) | (intro s hs; (first | (have q : s = d := by (rw [hs]; dsimp only; rw [toL_b, eD]); clear hs; subst q) | skip)))
 . dsimp only; rw [toL_b]; exact hb
 . dsimp only; rw [toL_b]; exact hl
 . have q : decF b = s := by rw [hs]; dsimp only; rw [toL_b]
   have e : w = ([], s.2) := by rw [<- eW]; unfold fwdF; rw [q, if_pos hc]
   rw [e]
   exact ⟨⟨none, leF_tup ⟨leC_nils_os rfl, leC_int rfl, trivial⟩, rfl, rfl, (by show 0 < 1; omega)⟩⟩
 . have q : decF b = s := by rw [hs]; dsimp only; rw [toL_b]
   have e : w = ([], 2) := by rw [<- eW]; unfold fwdF; rw [q, if_neg (fun h => h (by assumption)), if_pos hc]
   rw [e]
   exact ⟨⟨none, leF_tup ⟨leC_nils_os rfl, leC_int rfl, trivial⟩, rfl, rfl, (by show 0 < 1; omega)⟩⟩
 . have q : decF b = s := by rw [hs]; dsimp only; rw [toL_b]
   have := dec_len (b := b) (by rw [q]; assumption)
   omega
 . have q : decF b = s := by rw [hs]; dsimp only; rw [toL_b]
   have := dec_len (b := b) (by rw [q]; assumption)
   omega
 . have q : decF b = s := by rw [hs]; dsimp only; rw [toL_b]
   have := dec_len (b := b) (by rw [q]; assumption)
   omega
 . have q : decF b = s := by rw [hs]; dsimp only; rw [toL_b]
   have := dec_len (b := b) (by rw [q]; assumption)
   omega
 . have q : decF b = s := by rw [hs]; dsimp only; rw [toL_b]
   have hl7 := dec_len (b := b) (by rw [q]; assumption)
   have e : w = (b.set 7 (IntKind.u8.wrap (b.getD 7 default - 1)), 0) := by rw [<- eW]; unfold fwdF; rw [q, if_neg (fun h => h (by assumption)), if_neg hc]
   rw [e]
   refine ⟨⟨some 17, leF_tup ⟨leC_os rfl ?_, leC_int rfl, trivial⟩, leN_set (E := eB) ?_ ?_ (fun i hi j hj => ?_) fun j hj => ?_⟩⟩
   . show _ = (b.set 7 _).length
     rw [List.length_set]; omega
   . show _ = b.length; omega
   . show 7 < b.length; omega
   . refine leC_is (isRow_un (isRow_ov (l := b) ?_ ?_)) hi hj
     . exact min_ge (by omega) (by omega)
     . exact fun k hk => rfl
   . have hj : j < 1 := hj
     obtain rfl : j = 0 := by omega
     have h7 : Nat.blt (0 + Int.toNat 7) (0 + Nat.min b.length (b.length : Int).toNat) = true := blt_lt (by
      have : b.length <= Nat.min b.length (b.length : Int).toNat := min_ge (by omega) (by omega)
      show 0 + 7 < _; omega)
     refine leC_int ?_
     rw [h7]
     rfl
abbrev fwdE : Entry := newE (AC.cons (cSl eB eB_sz) AC.nil) (fun a => BL a.1 /\ a.1.length <= 140737488355328) (fun a => fwdF a.1) (fun s => some s.1.length) (fun s => some [i64V s.2]) (fun s => ents eB 5 s.1)
def LPi : CsL := (32, some fwdE) :: LPh
theorem LPi_ok : AllOk Try.prog LPi := ⟨newE_ok ⟨_, Try.func32, rfl, by kernel_rfl⟩ (fun s l h x hx => by injection h with h; subst h; obtain rfl := List.mem_singleton.1 hx; exact nfE_c nf_int) fun a h => forward_ok a.1 h.1 h.2, LPh_ok⟩
theorem beB4 (v : Int) : beB v 4 = [v / 16777216 % 256, v / 65536 % 256, v / 256 % 256, v % 256] := by
 simp [beB, beN]
theorem beB2 (v : Int) : beB v 2 = [v / 256 % 256, v % 256] := by
 simp [beB, beN]
theorem ipL_list (a : Fin 16 -> Int) : ipL a = [vget a 0, vget a 1, vget a 2, vget a 3, vget a 4, vget a 5, vget a 6, vget a 7, vget a 8, vget a 9, vget a 10, vget a 11, vget a 12, vget a 13, vget a 14, vget a 15] := rfl
def hdL (p : Pkt) : List Int := [(1610612736 + p.1.cls * 1048576 + p.1.flow) / 16777216 % 256, (1610612736 + p.1.cls * 1048576 + p.1.flow) / 65536 % 256, (1610612736 + p.1.cls * 1048576 + p.1.flow) / 256 % 256, (1610612736 + p.1.cls * 1048576 + p.1.flow) % 256, (sizeP p - 40) / 256 % 256, (sizeP p - 40) % 256, p.1.nxt, p.1.hops, vget p.1.src 0, vget p.1.src 1, vget p.1.src 2, vget p.1.src 3, vget p.1.src 4, vget p.1.src 5, vget p.1.src 6, vget p.1.src 7, vget p.1.src 8, vget p.1.src 9, vget p.1.src 10, vget p.1.src 11, vget p.1.src 12, vget p.1.src 13, vget p.1.src 14, vget p.1.src 15, vget p.1.dst 0, vget p.1.dst 1, vget p.1.dst 2, vget p.1.dst 3, vget p.1.dst 4, vget p.1.dst 5, vget p.1.dst 6, vget p.1.dst 7, vget p.1.dst 8, vget p.1.dst 9, vget p.1.dst 10, vget p.1.dst 11, vget p.1.dst 12, vget p.1.dst 13, vget p.1.dst 14, vget p.1.dst 15]
def ulL (p : Pkt) (s : Int) : List Int := [p.1.sp / 256 % 256, p.1.sp % 256, p.1.dp / 256 % 256, p.1.dp % 256, (sizeP p - 40) / 256 % 256, (sizeP p - 40) % 256, s / 256 % 256, s % 256]
theorem encB_hd (p : Pkt) (s : Int) : encB p s = hdL p ++ ((if p.1.nxt = 17 then ulL p s else []) ++ p.2) := by
 unfold encB
 rw [beB4, beB2, ipL_list, ipL_list]
 by_cases h : p.1.nxt = 17
 . rw [if_pos h, if_pos h, beB2, beB2, beB2]; rfl
 . rw [if_neg h, if_neg h]; rfl
theorem split40 {b : List Int} (h : 40 <= b.length) : b = [b.getD 0 default, b.getD 1 default, b.getD 2 default, b.getD 3 default, b.getD 4 default, b.getD 5 default, b.getD 6 default, b.getD 7 default, b.getD 8 default, b.getD 9 default, b.getD 10 default, b.getD 11 default, b.getD 12 default, b.getD 13 default, b.getD 14 default, b.getD 15 default, b.getD 16 default, b.getD 17 default, b.getD 18 default, b.getD 19 default, b.getD 20 default, b.getD 21 default, b.getD 22 default, b.getD 23 default, b.getD 24 default, b.getD 25 default, b.getD 26 default, b.getD 27 default, b.getD 28 default, b.getD 29 default, b.getD 30 default, b.getD 31 default, b.getD 32 default, b.getD 33 default, b.getD 34 default, b.getD 35 default, b.getD 36 default, b.getD 37 default, b.getD 38 default, b.getD 39 default] ++ b.drop 40 := by
 have e : b.take 40 = (List.range 40).map fun i => b.getD i default := by
  apply List.ext_getElem
  . simp; omega
  . intro i h1 h2
    simp only [List.getElem_take, List.getElem_map, List.getElem_range, List.getD_eq_getElem?_getD]
    rw [List.getElem?_eq_getElem (by simp at h1; omega)]; rfl
 conv => lhs; rw [<- List.take_append_drop 40 b, e]
 rfl
theorem split48 {b : List Int} (h : 48 <= b.length) : b.drop 40 = [b.getD 40 default, b.getD 41 default, b.getD 42 default, b.getD 43 default, b.getD 44 default, b.getD 45 default, b.getD 46 default, b.getD 47 default] ++ b.drop 48 := by
 have e : (b.drop 40).take 8 = (List.range 8).map fun i => b.getD (40 + i) default := by
  apply List.ext_getElem
  . simp; omega
  . intro i h1 h2
    simp only [List.getElem_take, List.getElem_map, List.getElem_range, List.getD_eq_getElem?_getD, List.getElem_drop]
    rw [List.getElem?_eq_getElem (by simp at h1; omega)]; rfl
 conv => lhs; rw [<- List.take_append_drop 8 (b.drop 40), e, List.drop_drop]
 rfl
theorem take4_at {b : List Int} {a : Nat} (h : a + 4 <= b.length) : (b.drop a).take 4 = [b.getD a default, b.getD (a + 1) default, b.getD (a + 2) default, b.getD (a + 3) default] := by
 have e : (b.drop a).take 4 = (List.range 4).map fun i => b.getD (a + i) default := by
  apply List.ext_getElem
  . simp; omega
  . intro i h1 h2
    simp only [List.getElem_take, List.getElem_map, List.getElem_range, List.getD_eq_getElem?_getD, List.getElem_drop]
    rw [List.getElem?_eq_getElem (by simp at h1; omega)]; rfl
 exact e
theorem take2_at {b : List Int} {a : Nat} (h : a + 2 <= b.length) : (b.drop a).take 2 = [b.getD a default, b.getD (a + 1) default] := by
 have e : (b.drop a).take 2 = (List.range 2).map fun i => b.getD (a + i) default := by
  apply List.ext_getElem
  . simp; omega
  . intro i h1 h2
    simp only [List.getElem_take, List.getElem_map, List.getElem_range, List.getD_eq_getElem?_getD, List.getElem_drop]
    rw [List.getElem?_eq_getElem (by simp at h1; omega)]; rfl
 exact e
theorem uI_4 {b : List Int} (h : 4 <= b.length) : uI b 0 4 = b.getD 0 default * 16777216 + b.getD 1 default * 65536 + b.getD 2 default * 256 + b.getD 3 default := by
 unfold uI uintF
 rw [if_pos (by omega)]
 show beVal ((b.drop 0).take 4) = _
 rw [take4_at (by omega)]
 unfold beVal
 simp only [List.foldl_cons, List.foldl_nil, Nat.zero_add]
 omega
theorem uI_2 {b : List Int} {a : Int} {k : Nat} (e : a = k) (h : k + 2 <= b.length) : uI b a 2 = b.getD k default * 256 + b.getD (k + 1) default := by
 subst e
 unfold uI uintF
 rw [if_pos (by omega)]
 show beVal ((b.drop k).take 2) = _
 rw [take2_at h]
 unfold beVal
 simp only [List.foldl_cons, List.foldl_nil]
 omega
theorem and20 {x : Int} (h : 0 <= x /\ x < 4294967296) : bits .and .u64 x 1048575 = x % 1048576 := by
 rw [u64_and x 1048575 h.1 (by omega) (by decide) (by decide)]
 rw [show (1048575 : Int).toNat = 2 ^ 20 - 1 from rfl, Nat.and_two_pow_sub_one_eq_mod]
 omega
theorem shr_lit (x : Int) (n : Nat) (h : n <= 64) : shrI .u64 x (n : Int) = x / 2 ^ n := by
 unfold shrI
 rw [show min (n : Int).toNat (IntKind.bits .u64) = n from by show min n 64 = n; omega]
 rw [Int.fdiv_eq_ediv_of_nonneg _ (by exact Int.le_of_lt (Int.pow_pos (by decide)))]
theorem shr28 (x : Int) : shrI .u64 x 28 = x / 268435456 := shr_lit x 28 (by decide)
theorem shr20 (x : Int) : shrI .u64 x 20 = x / 1048576 := shr_lit x 20 (by decide)
theorem first_iff {x0 x1 x2 x3 c f : Int} (h0 : 0 <= x0 /\ x0 < 256) (h1 : 0 <= x1 /\ x1 < 256) (h2 : 0 <= x2 /\ x2 < 256) (h3 : 0 <= x3 /\ x3 < 256)
 (hc : c = IntKind.u8.wrap (shrI .u64 (x0 * 16777216 + x1 * 65536 + x2 * 256 + x3) 20)) (hf : f = IntKind.u32.wrap (bits .and .u64 (x0 * 16777216 + x1 * 65536 + x2 * 256 + x3) 1048575)) :
 (shrI .u64 (x0 * 16777216 + x1 * 65536 + x2 * 256 + x3) 28 = 6 ↔ x0 = (1610612736 + c * 1048576 + f) / 16777216 % 256) /\ x1 = (1610612736 + c * 1048576 + f) / 65536 % 256 /\ x2 = (1610612736 + c * 1048576 + f) / 256 % 256 /\ x3 = (1610612736 + c * 1048576 + f) % 256 /\ (0 <= c /\ c < 256) /\ 0 <= f /\ f < 1048576 := by
 rw [shr20] at hc
 rw [and20 (by omega), IntWalk.u32_in _ (by omega)] at hf
 rw [show ∀ z : Int, IntKind.u8.wrap z = z % 256 from fun z => by simp [IntKind.wrap, IntKind.signed, IntKind.bits]] at hc
 rw [shr28]
 omega
theorem pkF_nxt (b : List Int) : (pkF b).1.nxt = b.getD 6 default := by
 unfold pkF; split <;> rfl
theorem pkF_pay (b : List Int) : (pkF b).2 = if b.getD 6 default = 17 then b.drop 48 else b.drop 40 := by
 unfold pkF; split <;> rfl
theorem sizeP_pkF {b : List Int} (h : 40 <= b.length) (h2 : b.getD 6 default = 17 -> 48 <= b.length) : sizeP (pkF b) = b.length := by
 unfold sizeP
 rw [pkF_nxt, pkF_pay]
 split
 . have := h2 (by assumption)
   rw [List.length_drop]; omega
 . rw [List.length_drop]; omega
theorem hd1_F {b : List Int} {sp dp : Int} (hb : BL b) (h : 40 <= b.length) :
 (0 <= (hd1 b sp dp).cls /\ (hd1 b sp dp).cls < 256) /\ (0 <= (hd1 b sp dp).flow /\ (hd1 b sp dp).flow < 1048576) := by
 have := (first_iff (hb.get 0) (hb.get 1) (hb.get 2) (hb.get 3) rfl rfl).2.2.2.2
 rw [<- uI_4 (by omega)] at this
 exact this
theorem u16_2 {x y : Int} (hx : 0 <= x /\ x < 256) (hy : 0 <= y /\ y < 256) : IntKind.u16.wrap (x * 256 + y) = x * 256 + y := IntWalk.u16_in _ (by omega)
theorem pkF_w {b : List Int} (hb : BL b) (h : 40 <= b.length) : PkW (pkF b) := by
 have hv : ∀ o i, 0 <= vget (fun q : Fin 16 => b.getD (o + q.1) default) i /\ vget (fun q : Fin 16 => b.getD (o + q.1) default) i < 256 := fun o i => by
  unfold vget
  split
  . exact hb.get _
  . omega
 have hw : ∀ z, 0 <= IntKind.u16.wrap z /\ IntKind.u16.wrap z < 65536 := fun z => by
  simp only [IntKind.wrap, IntKind.signed, IntKind.bits]
  exact ⟨Int.emod_nonneg _ (by decide), Int.emod_lt_of_pos _ (by decide)⟩
 unfold pkF
 split
 . obtain ⟨c1, c2⟩ := hd1_F (sp := IntKind.u16.wrap (uI b 40 2)) (dp := IntKind.u16.wrap (uI b 42 2)) hb h
   exact ⟨c1, ⟨c2.1, Int.lt_trans c2.2 (by decide)⟩, hb.get 6, hb.get 7, hv 8, hv 24, hw _, hw _, hb.drop 48⟩
 . obtain ⟨c1, c2⟩ := hd1_F (sp := 0) (dp := 0) hb h
   exact ⟨c1, ⟨c2.1, Int.lt_trans c2.2 (by decide)⟩, hb.get 6, hb.get 7, hv 8, hv 24, ⟨Int.le_refl _, (by show (0 : Int) < 65536; decide)⟩, ⟨Int.le_refl _, (by show (0 : Int) < 65536; decide)⟩, hb.drop 40⟩
theorem len_w {n : Nat} (h : 40 <= n /\ n <= 1280) : IntKind.u64.wrap (IntKind.i64.wrap ((n : Int) - 40)) = n - 40 := by
 rw [IntWalk.i64_in _ (by omega)]
 exact IntWalk.u64_in _ (by omega)
theorem hdL_pkF {b : List Int} (hb : BL b) (h : 40 <= b.length /\ b.length <= 1280) (h2 : b.getD 6 default = 17 -> 48 <= b.length) :
 hdL (pkF b) = b.take 40 ↔ shrI .u64 (uI b 0 4) 28 = 6 /\ uI b 4 2 = IntKind.u64.wrap (IntKind.i64.wrap (b.length - 40)) := by
 have e40 : b.take 40 = [b.getD 0 default, b.getD 1 default, b.getD 2 default, b.getD 3 default, b.getD 4 default, b.getD 5 default, b.getD 6 default, b.getD 7 default, b.getD 8 default, b.getD 9 default, b.getD 10 default, b.getD 11 default, b.getD 12 default, b.getD 13 default, b.getD 14 default, b.getD 15 default, b.getD 16 default, b.getD 17 default, b.getD 18 default, b.getD 19 default, b.getD 20 default, b.getD 21 default, b.getD 22 default, b.getD 23 default, b.getD 24 default, b.getD 25 default, b.getD 26 default, b.getD 27 default, b.getD 28 default, b.getD 29 default, b.getD 30 default, b.getD 31 default, b.getD 32 default, b.getD 33 default, b.getD 34 default, b.getD 35 default, b.getD 36 default, b.getD 37 default, b.getD 38 default, b.getD 39 default] := by
  conv => lhs; rw [split40 h.1]
  rfl
 rw [len_w h, uI_4 (by omega), uI_2 (a := 4) (k := 4) rfl (by omega), e40]
 have hs := sizeP_pkF h.1 h2
 have g0 := hb.get 0; have g1 := hb.get 1; have g2 := hb.get 2; have g3 := hb.get 3; have g4 := hb.get 4; have g5 := hb.get 5
 have hc : (pkF b).1.cls = IntKind.u8.wrap (shrI .u64 (uI b 0 4) 20) := by unfold pkF; split <;> rfl
 have hf : (pkF b).1.flow = IntKind.u32.wrap (bits .and .u64 (uI b 0 4) 1048575) := by unfold pkF; split <;> rfl
 rw [uI_4 (by omega)] at hc hf
 obtain ⟨f0, f1, f2, f3, fc, ff⟩ := first_iff g0 g1 g2 g3 hc hf
 have hsrc : (pkF b).1.src = fun q => b.getD (8 + q.1) default := by unfold pkF; split <;> rfl
 have hdst : (pkF b).1.dst = fun q => b.getD (24 + q.1) default := by unfold pkF; split <;> rfl
 have hhop := pkF_hops b
 have hnx := pkF_nxt b
 constructor
 . intro e
   unfold hdL at e
   rw [hs] at e
   simp only [List.cons.injEq] at e
   obtain ⟨k0, _, _, _, k4, k5, _⟩ := e
   refine ⟨f0.2 k0.symm, ?_⟩
   show b.getD 4 default * 256 + b.getD 5 default = _
   omega
 . rintro ⟨k0, k1⟩
   have k1' : b.getD 4 default * 256 + b.getD 5 default = (b.length : Int) - 40 := k1
   unfold hdL
   rw [hsrc, hdst, hhop, hnx, hs, <- f0.1 k0, <- f1, <- f2, <- f3]
   rw [show ((b.length : Int) - 40) / 256 % 256 = b.getD 4 default by omega, show ((b.length : Int) - 40) % 256 = b.getD 5 default by omega]
   rfl
theorem app_iff {a b c d : List Int} (h : a.length = b.length) : a ++ c = b ++ d ↔ a = b /\ c = d :=
 ⟨fun e => List.append_inj e h, fun ⟨e1, e2⟩ => by rw [e1, e2]⟩
theorem encB_pkF {b : List Int} (hb : BL b) (h : 40 <= b.length /\ b.length <= 1280) (h2 : b.getD 6 default = 17 -> 48 <= b.length) {s : Int} (hs : 0 <= s /\ s < 65536) :
 encB (pkF b) s = b ↔ (shrI .u64 (uI b 0 4) 28 = 6 /\ uI b 4 2 = IntKind.u64.wrap (IntKind.i64.wrap (b.length - 40))) /\ (b.getD 6 default = 17 -> uI b 44 2 = IntKind.u64.wrap (IntKind.i64.wrap (b.length - 40)) /\ s = uI b 46 2) := by
 have hz := sizeP_pkF h.1 h2
 rw [<- hdL_pkF hb h h2, encB_hd, pkF_nxt, pkF_pay]
 have hl : (hdL (pkF b)).length = (b.take 40).length := by rw [List.length_take]; show 40 = _; omega
 conv => lhs; rhs; rw [<- List.take_append_drop 40 b]
 rw [app_iff hl]
 by_cases hu : b.getD 6 default = 17
 . rw [if_pos hu, if_pos hu]
   refine and_congr_right fun _ => ?_
   have h48 := h2 hu
   have g := fun i => hb.get i
   have a0 := hb.get 40; have a1 := hb.get 41; have a2 := hb.get 42; have a3 := hb.get 43; have a4 := hb.get 44; have a5 := hb.get 45; have a6 := hb.get 46; have a7 := hb.get 47
   have hsp : (pkF b).1.sp = b.getD 40 default * 256 + b.getD 41 default := by
    unfold pkF; rw [if_pos hu]
    show IntKind.u16.wrap (uI b 40 2) = _
    rw [uI_2 (a := 40) (k := 40) rfl (by omega)]; exact u16_2 a0 a1
   have hdp : (pkF b).1.dp = b.getD 42 default * 256 + b.getD 43 default := by
    unfold pkF; rw [if_pos hu]
    show IntKind.u16.wrap (uI b 42 2) = _
    rw [uI_2 (a := 42) (k := 42) rfl (by omega)]; exact u16_2 a2 a3
   rw [len_w h, uI_2 (a := 44) (k := 44) rfl (by omega), uI_2 (a := 46) (k := 46) rfl (by omega), split48 h48]
   unfold ulL
   rw [hsp, hdp, hz, List.append_cancel_right_eq]
   simp only [List.cons.injEq, and_true]
   constructor
   . rintro ⟨_, _, _, _, k4, k5, k6, k7⟩ _
     show b.getD 44 default * 256 + b.getD 45 default = _ /\ _ = b.getD 46 default * 256 + b.getD 47 default
     omega
   . intro k
     obtain ⟨k1, k2⟩ := k hu
     have k1' : b.getD 44 default * 256 + b.getD 45 default = (b.length : Int) - 40 := k1
     have k2' : s = b.getD 46 default * 256 + b.getD 47 default := k2
     omega
 . rw [if_neg hu, if_neg hu, List.nil_append]
   exact ⟨fun h => ⟨h.1, fun k => absurd k hu⟩, fun h => ⟨h.1, rfl⟩⟩
def covL (p : Pkt) : List Int := [vget p.1.src 0, vget p.1.src 1, vget p.1.src 2, vget p.1.src 3, vget p.1.src 4, vget p.1.src 5, vget p.1.src 6, vget p.1.src 7, vget p.1.src 8, vget p.1.src 9, vget p.1.src 10, vget p.1.src 11, vget p.1.src 12, vget p.1.src 13, vget p.1.src 14, vget p.1.src 15, vget p.1.dst 0, vget p.1.dst 1, vget p.1.dst 2, vget p.1.dst 3, vget p.1.dst 4, vget p.1.dst 5, vget p.1.dst 6, vget p.1.dst 7, vget p.1.dst 8, vget p.1.dst 9, vget p.1.dst 10, vget p.1.dst 11, vget p.1.dst 12, vget p.1.dst 13, vget p.1.dst 14, vget p.1.dst 15] ++ (beB (sizeP p - 40) 4 ++ ([0, 0, 0, 17] ++ ([p.1.sp / 256 % 256, p.1.sp % 256, p.1.dp / 256 % 256, p.1.dp % 256, (sizeP p - 40) / 256 % 256, (sizeP p - 40) % 256] ++ ([0, 0] ++ p.2))))
theorem cover_enc {p : Pkt} (h : p.1.nxt = 17) (s : Int) : coverB (encB p s) = covL p := by
 unfold coverB
 rw [encB_len, encB_hd, if_pos h]
 rfl
theorem sumP_covL {p : Pkt} (hv : validP p = true) (h : p.1.nxt = 17) : sumP p = sum0 (covL p) := by
 unfold sumP
 rw [if_pos ⟨hv, h⟩, cover_enc h]
theorem pkF_enc {p : Pkt} (hw : PkW p) (hv : validP p = true) {s : Int} (hs : 0 <= s /\ s < 65536) : pkF (encB p s) = p := by
 have h1 := hw.cls; have h2 := hw.flow
 have hfl : p.1.flow < 1048576 := by
  unfold validP at hv
  simp only [Bool.and_eq_true, decide_eq_true_eq] at hv
  have := hv.1.1.1
  omega
 have hz := valid_size hv
 have hl := encB_len p s
 have hz0 : 40 <= sizeP p := by unfold sizeP; split <;> omega
 have hF : uI (encB p s) 0 4 = 1610612736 + p.1.cls * 1048576 + p.1.flow := by
  rw [uI_4 (by omega), encB_hd]
  show (1610612736 + p.1.cls * 1048576 + p.1.flow) / 16777216 % 256 * 16777216 + (1610612736 + p.1.cls * 1048576 + p.1.flow) / 65536 % 256 * 65536 + (1610612736 + p.1.cls * 1048576 + p.1.flow) / 256 % 256 * 256 + (1610612736 + p.1.cls * 1048576 + p.1.flow) % 256 = _
  omega
 have hcls : IntKind.u8.wrap (shrI .u64 (uI (encB p s) 0 4) 20) = p.1.cls := by
  rw [hF, shr20, show ∀ z : Int, IntKind.u8.wrap z = z % 256 from fun z => by simp [IntKind.wrap, IntKind.signed, IntKind.bits]]
  omega
 have hflow : IntKind.u32.wrap (bits .and .u64 (uI (encB p s) 0 4) 1048575) = p.1.flow := by
  rw [hF, and20 (by omega), IntWalk.u32_in _ (by omega)]
  omega
 have hn : (encB p s).getD 6 default = p.1.nxt := by rw [encB_hd]; rfl
 have hh : (encB p s).getD 7 default = p.1.hops := by rw [encB_hd]; rfl
 have hsrc : (fun q : Fin 16 => (encB p s).getD (8 + q.1) default) = p.1.src := by
  rw [encB_hd]
  funext q
  have hq := q.2
  obtain ⟨q, _⟩ := q
  iterate 16 (rcases q with _ | q; rfl)
  exact absurd hq (by omega)
 have hdst : (fun q : Fin 16 => (encB p s).getD (24 + q.1) default) = p.1.dst := by
  rw [encB_hd]
  funext q
  have hq := q.2
  obtain ⟨q, _⟩ := q
  iterate 16 (rcases q with _ | q; rfl)
  exact absurd hq (by omega)
 unfold pkF
 rw [hn]
 split
 . rename_i hu
   have h48 : sizeP p = 48 + p.2.length := by unfold sizeP; rw [if_pos hu]
   have hsp := hw.sp; have hdp := hw.dp
   have e1 : IntKind.u16.wrap (uI (encB p s) 40 2) = p.1.sp := by
    rw [uI_2 (a := 40) (k := 40) rfl (by omega), encB_hd, if_pos hu]
    show IntKind.u16.wrap (p.1.sp / 256 % 256 * 256 + p.1.sp % 256) = _
    rw [IntWalk.u16_in _ (by omega)]
    omega
   have e2 : IntKind.u16.wrap (uI (encB p s) 42 2) = p.1.dp := by
    rw [uI_2 (a := 42) (k := 42) rfl (by omega), encB_hd, if_pos hu]
    show IntKind.u16.wrap (p.1.dp / 256 % 256 * 256 + p.1.dp % 256) = _
    rw [IntWalk.u16_in _ (by omega)]
    omega
   have e3 : (encB p s).drop 48 = p.2 := by rw [encB_hd, if_pos hu]; rfl
   unfold pkU hd1
   rw [hcls, hflow, hn, hh, hsrc, hdst, e1, e2, e3]
 . rename_i hu
   have e3 : (encB p s).drop 40 = p.2 := by rw [encB_hd, if_neg hu]; rfl
   have hp : p.1.sp = 0 /\ p.1.dp = 0 := by
    unfold validP at hv
    simp only [Bool.and_eq_true, Bool.or_eq_true, decide_eq_true_eq] at hv
    rcases hv.2 with h | h
    . exact absurd h hu
    . exact h
   unfold pkN hd1
   rw [hcls, hflow, hn, hh, hsrc, hdst, e3]
   calc _ = ((⟨p.1.cls, p.1.flow, p.1.nxt, p.1.hops, p.1.src, p.1.dst, p.1.sp, p.1.dp⟩, p.2) : Pkt) := by rw [hp.1, hp.2]
    _ = p := rfl
theorem forCom_in {l : List Ctx} {a : Fin 16 -> Int} {now : Int} (h : (forCom l a now).2 = true) : validT l = true /\ vt now = true /\ (forCom l a now).1 ∈ l /\ mt a now (forCom l a now).1 = true := by
 unfold forCom at h ⊢
 split at h
 . rename_i hv
   rw [if_pos hv]
   refine ⟨hv.1, hv.2, ?_⟩
   rcases (fold_spec a now l (default, false) (-1) hv.1 (fun h => by cases h)).2.2 with g | g
   . rw [g] at h; cases h
   . exact g.2
 . cases h
theorem beN_snoc (x c : Int) (hc : 0 <= c /\ c < 256) : ∀ n, beN (x * 256 + c) (n + 1) = beN x n ++ [c] := by
 intro n
 induction n with
 | zero =>
   show [(x * 256 + c) / 256 ^ 0 % 256] = [c]
   rw [Int.pow_zero, Int.ediv_one]
   congr 1
   omega
 | succ n ih =>
   show (x * 256 + c) / 256 ^ (n + 1) % 256 :: beN (x * 256 + c) (n + 1) = (x / 256 ^ n % 256 :: beN x n) ++ [c]
   rw [ih, List.cons_append]
   congr 1
   rw [Int.pow_succ, Int.mul_comm (256 ^ n) 256, <- Int.ediv_ediv_of_nonneg (show (0 : Int) <= 256 by decide), show (x * 256 + c) / 256 = x by omega]
theorem beN_beVal : ∀ (n : Nat) (l : List Int), BL l -> l.length = n -> beN (beVal l) n = l := by
 intro n
 induction n with
 | zero => intro l _ h; rw [List.length_eq_zero_iff.1 h]; rfl
 | succ n ih =>
   intro l hl h
   have hne : l ≠ [] := fun e => by rw [e] at h; cases h
   have e := List.dropLast_concat_getLast hne
   have hb : BL l.dropLast := ⟨fun x hx => hl.m x ((List.dropLast_sublist l).subset hx)⟩
   have hc := hl.m _ (List.getLast_mem hne)
   rw [<- e, beVal_snoc, beN_snoc _ _ hc, ih _ hb (by rw [List.length_dropLast]; omega)]
def hiF (a : Fin 16 -> Int) : Int := beVal ((ipL a).take 8)
def loF (a : Fin 16 -> Int) : Int := beVal ((ipL a).drop 8)
def splF (a : Fin 16 -> Int) : Int × Int := (hiF a, loF a)
def jn (a : Fin 16 -> Int) (y : Int) : Fin 16 -> Int := fun q => if q.1 < 8 then a q else byteM y 8 (q.1 - 8)
theorem ipBL {a : Fin 16 -> Int} (h : byteOk a) : BL (ipL a) := ipL_BL fun i => h.v i
theorem be_hi {a : Fin 16 -> Int} (h : byteOk a) : beN (hiF a) 8 = (ipL a).take 8 := beN_beVal 8 _ ((ipBL h).take 8) (by rw [List.length_take, ipL_len]; rfl)
theorem be_lo {a : Fin 16 -> Int} (h : byteOk a) : beN (loF a) 8 = (ipL a).drop 8 := beN_beVal 8 _ ((ipBL h).drop 8) (by rw [List.length_drop, ipL_len])
theorem beB8 (v : Int) : beB v 8 = beN v 8 := by unfold beB; rw [if_pos (by decide)]; rfl
theorem beB_hi {a : Fin 16 -> Int} (h : byteOk a) : beB (hiF a) 8 ++ beB (loF a) 8 = ipL a := by
 rw [beB8, beB8, be_hi h, be_lo h, List.take_append_drop]
theorem ipL_get (a : Fin 16 -> Int) {k : Nat} (hk : k < 16) : (ipL a).getD k default = vget a k := by
 unfold ipL
 rw [List.getD_eq_getElem?_getD, List.getElem?_map, List.getElem?_range hk]; rfl
theorem ip_fun {a b : Fin 16 -> Int} (h : ∀ k, k < 16 -> vget a k = vget b k) : a = b := by
 funext q
 have := h q.1 q.2
 rw [vget_lt _ q.2, vget_lt _ q.2] at this
 exact this
theorem ipL_inj {a b : Fin 16 -> Int} (h : ipL a = ipL b) : a = b := ip_fun fun k hk => by rw [<- ipL_get a hk, <- ipL_get b hk, h]
theorem jn_at (a : Fin 16 -> Int) (y : Int) {k : Nat} (hk : k < 16) : vget (jn a y) k = if k < 8 then vget a k else byteM y 8 (k - 8) := by
 rw [vget_lt _ hk]
 unfold jn
 split
 . rw [vget_lt _ hk]
 . rfl
theorem byteM_r (v : Int) (m j : Nat) : 0 <= byteM v m j /\ byteM v m j < 256 := by
 unfold byteM
 simp only [IntKind.wrap, IntKind.signed, IntKind.bits]
 constructor
 . exact Int.emod_nonneg _ (by decide)
 . exact Int.emod_lt_of_pos _ (by decide)
theorem jn_ok {a : Fin 16 -> Int} (h : byteOk a) (y : Int) : byteOk (jn a y) := ⟨fun q => by
 unfold jn
 split
 . exact h.q q
 . exact byteM_r _ _ _⟩
theorem jn_L (a : Fin 16 -> Int) (y : Int) : ipL (jn a y) = (ipL a).take 8 ++ beN y 8 := by
 rw [<- beM_eq y 8 (by decide)]
 apply List.ext_getElem
 . rw [ipL_len, List.length_append, List.length_take, ipL_len]; simp [beM]
 . intro k h1 h2
   rw [ipL_len] at h1
   rw [List.getElem_append]
   split
   . rename_i h
     rw [List.length_take, ipL_len] at h
     simp only [ipL, List.getElem_map, List.getElem_range, List.getElem_take]
     rw [jn_at a y h1, if_pos (by omega)]
   . rename_i h
     rw [List.length_take, ipL_len] at h
     simp only [ipL, beM, List.getElem_map, List.getElem_range, List.length_take, List.length_map, List.length_range]
     rw [jn_at a y h1, if_neg (by omega)]; rfl
theorem jn_hi {a : Fin 16 -> Int} (y : Int) : hiF (jn a y) = hiF a := by
 unfold hiF
 rw [jn_L, List.take_left' (by rw [List.length_take, ipL_len]; rfl)]
theorem jn_iff {p a : Fin 16 -> Int} (hp : byteOk p) (ha : byteOk a) : jn p (loF a) = a ↔ hiF p = hiF a := by
 constructor
 . intro h
   have := congrArg hiF h
   rw [jn_hi] at this
   exact this
 . intro h
   apply ipL_inj
   rw [jn_L, be_lo ha, <- be_hi hp, h, be_hi ha, List.take_append_drop]
theorem ofF_eq (x y : Int) : ofF x y = fun q => if q.1 < 8 then byteM x 8 q.1 else byteM y 8 (q.1 - 8) := by
 funext q
 unfold ofF ofB
 split
 . rename_i h
   rw [show Nat.blt q.1 8 = true from Nat.ble_eq_true_of_le h, cond_true]
   unfold byteM
   rw [show (56 : Int) - 8 * ((q.1 % 8 : Nat) : Int) = 8 * (((8 : Nat) : Int) - 1 - (q.1 : Int)) by omega]
 . rename_i h
   rw [show Nat.blt q.1 8 = false from by cases hb : Nat.blt q.1 8 with
    | false => rfl
    | true => have := Nat.le_of_ble_eq_true hb; omega, cond_false]
   unfold byteM
   have := q.2
   rw [show (56 : Int) - 8 * ((q.1 % 8 : Nat) : Int) = 8 * (((8 : Nat) : Int) - 1 - ((q.1 - 8 : Nat) : Int)) by omega]
theorem of_hi {a : Fin 16 -> Int} (h : byteOk a) (y : Int) : ofF (hiF a) y = jn a y := by
 rw [ofF_eq]
 funext q
 unfold jn
 split
 . rename_i hq
   have e := be_hi h
   rw [<- beM_eq _ 8 (by decide)] at e
   have e2 := congrArg (fun l => l.getD q.1 default) e
   have e3 : ((ipL a).take 8).getD q.1 default = vget a q.1 := by rw [<- ipL_get a q.2, List.getD_eq_getElem?_getD, List.getD_eq_getElem?_getD, List.getElem?_take, if_pos hq]
   have e4 : (beM (hiF a) 8).getD q.1 default = vget a q.1 := e2.trans e3
   rw [vget_lt _ q.2] at e4
   rw [<- e4]
   simp [beM, hq]
 . rfl
def llP : Pfx := ⟨fun q => if q.1 = 0 then 254 else if q.1 = 1 then 128 else 0, 64⟩
theorem llP_b : byteOk llP.ip := ⟨fun q => by show 0 <= (if q.1 = 0 then (254 : Int) else if q.1 = 1 then 128 else 0) /\ (if q.1 = 0 then (254 : Int) else if q.1 = 1 then 128 else 0) < 256; split <;> (try split) <;> omega⟩
theorem llP_v : vpf llP = true := by decide +kernel
theorem llP_hi : hiF llP.ip = 18338657682652659712 := by decide +kernel
theorem llP_of (y : Int) : ofF 18338657682652659712 y = jn llP.ip y := by rw [<- llP_hi]; exact of_hi llP_b y
structure Adr where
 mode : Int
 short : Int
 eui : Int
def eAdrC (x : Adr) (j : Nat) : CV := bif Nat.beq j 0 then .int .i64 x.mode else bif Nat.beq j 1 then .int .u16 x.short else (.int .u64 x.eui)
def eAdr : Elem Adr where
 sz := 3
 cell := eAdrC
 rd g := ⟨valI (g 0), valI (g 1), valI (g 2)⟩
 ok g := isK .i64 (g 0) && isK .u16 (g 1) && isK .u64 (g 2)
 ok_eq g h j hj := by
  simp only [Bool.and_eq_true] at h
  unfold eAdrC
  by_cases c0 : j < 1
  . have e : j = 0 := by omega
    subst e
    exact isK_eq h.1.1
  by_cases c1 : j < 2
  . have e : j = 1 := by omega
    subst e
    exact isK_eq h.1.2
  by_cases c2 : j < 3
  . have e : j = 2 := by omega
    subst e
    exact isK_eq h.2
  omega
 flat a j := by
  unfold eAdrC
  cases Nat.beq j 0 with
  | true => exact flat_int
  | false =>
  cases Nat.beq j 1 with
  | true => exact flat_int
  | false =>
  exact flat_int
theorem eAdr_rd (x : Adr) : eAdr.rd (eAdr.cell x) = x := by
 show (⟨x.mode, x.short, x.eui⟩ : Adr) = x
 rfl
theorem rd_adr (x : Adr) : eAdr.rd (fun q => eAdr.cell x (0 + q)) = x := by
 simp only [Nat.zero_add]; exact eAdr_rd x
theorem word_ok (n : Nat) (l : List Int) (q : Int) (ht : TapeOk n (rI l) q) :
 ∃ (r q' : Int), True /\ TapeOk n (rI l) q' /\ MethOk Try.prog 52 [] (tapeN n (rI l) q) ((cI .u64).enc r) (tapeN n (rI l) q') := by
 refine tape_intro (wd := 1) (Q := mkQ LT0) (by decide) tysOk (q_of LT0_ok) mixed Try.func52 rfl _ (by show 0 + 1 <= _; decide) (fun _ => nff_int) ?_
 repeat' (first | (apply And.intro <;> intro hc <;> (first | exact Bool.noConfusion hc | (simp only [zb0] at hc) | skip)) | (refine And.intro zp1 ?_) | (apply And.intro) | (intro s hs))
 all_goals exact ⟨(_, _), ⟨trivial, by assumption⟩, ⟨leF_int rfl, tapeN_le⟩⟩
abbrev wordE : Entry := tapeE AC.nil (fun _ => True) (fun a (r : Int) => True) (cI .u64).enc
def LT1 : CsL := (75, some boolE) :: (52, some wordE) :: (LT0 ++ LR2)
theorem LT1_ok : AllOk Try.prog LT1 := ⟨tapeE_ok ⟨_, Try.func75, rfl, by kernel_rfl⟩ fun n l q a ht hp => bool_ok n l q a.1 ht hp.1 hp.2, tapeE_ok ⟨_, Try.func52, rfl, by kernel_rfl⟩ fun n l q a ht _ => word_ok n l q ht, append_ok LT0_ok LR2_ok⟩
theorem prefix_ok (n : Nat) (l : List Int) (q : Int) (ht : TapeOk n (rI l) q) :
 ∃ (r : Pfx) (q' : Int), (vpf r = true /\ byteOk r.ip) /\ TapeOk n (rI l) q' /\ MethOk Try.prog 43 [] (tapeN n (rI l) q) ((cE ePfx).enc r) (tapeN n (rI l) q') := by
 refine tape_intro (wd := 1) (Q := mkQ LT1) (by decide) tysOk (q_of LT1_ok) mixed Try.func43 rfl _ (by show 0 + 1 <= _; decide) (nff_elem ePfx) ?_
 repeat' (first | (apply And.intro <;> intro hc <;> (first | exact Bool.noConfusion hc | (simp only [zb0] at hc) | skip)) | (refine And.intro zp1 ?_) | (apply And.intro) | (intro s hs))
 . rename_i so hso sn hsn
   show byteOk ((eA .u8 16).rd ((eA .u8 16).cell so))
   rw [eA_rd, hso]; exact of_byteOk _ _
 . rename_i so hso sn hsn sq hsq
   have hb : byteOk so := by rw [hso]; exact of_byteOk _ _
   obtain ⟨b, e⟩ : ∃ b, s = maskP so b := ⟨_, hs.trans (congrArg (maskP · _) (eA_rd (k := .u8) so))⟩
   exact ⟨(s, _), ⟨⟨by rw [e]; exact mask_vpf hb b, by rw [e]; exact mask_byteOk hb b⟩, by assumption⟩, ⟨leF_e (leE_all (by repeat' (first | exact zw2 | refine leE_all ?_ | exact leC_bool (by assumption) | apply And.intro))), tapeN_le⟩⟩
theorem device_ok (n : Nat) (l : List Int) (q : Int) (ht : TapeOk n (rI l) q) :
 ∃ (r : Adr) (q' : Int), True /\ TapeOk n (rI l) q' /\ MethOk Try.prog 42 [] (tapeN n (rI l) q) ((cE eAdr).enc r) (tapeN n (rI l) q') := by
 refine tape_intro (wd := 1) (Q := mkQ LT1) (by decide) tysOk (q_of LT1_ok) mixed Try.func42 rfl _ (by show 0 + 1 <= _; decide) (nff_elem eAdr) ?_
 repeat' (first | (apply And.intro <;> intro hc <;> (first | exact Bool.noConfusion hc | (simp only [zb0] at hc) | skip)) | (refine And.intro zp1 ?_) | (apply And.intro) | (intro s hs))
 . exact ⟨(⟨3, 0, _⟩, _), ⟨trivial, by assumption⟩, ⟨leF_e (leE_all ⟨⟨⟨trivial, leC_int rfl⟩, leC_int rfl⟩, leC_int rfl⟩), tapeN_le⟩⟩
 . exact ⟨(⟨2, _, 0⟩, _), ⟨trivial, by assumption⟩, ⟨leF_e (leE_all ⟨⟨⟨trivial, leC_int rfl⟩, leC_int rfl⟩, leC_int rfl⟩), tapeN_le⟩⟩
def adrValid (a : Adr) : Bool := if a.mode = 0 then (a.short == 0) && (a.eui == 0) else if a.mode = 2 then (a.eui == 0) else if a.mode = 3 then (a.short == 0) else false
theorem adrValid_ok (a : Adr) : PureOk Try.prog 124 [(cE eAdr).enc a] (cB.enc (adrValid a)) := by
 refine pure_intro (wd := 1) (Q := mkQ LE0) (by decide) tysOk (q_of LE0_ok) mixed Try.func124 rfl _ (by show 1 <= _; decide) _ ?_
 repeat' (first | (apply And.intro <;> intro hc <;> (first | exact Bool.noConfusion hc | (simp only [zb0] at hc) | skip)) | (refine And.intro zp0 ?_) | (apply And.intro) | (intro s hs))
 all_goals (refine Done.mk (leF_bool ?_); simp [adrValid, *])
def adrSome (a : Adr) : Bool := adrValid a && (a.mode != 0)
def LA0 : CsL := (124, some (pureE (AC.cons (cE eAdr) AC.nil) (fun _ => True) (fun a => adrValid a.1) cB.enc)) :: []
theorem LA0_ok : AllOk Try.prog LA0 := ⟨pureE_ok ⟨_, Try.func124, rfl, by kernel_rfl⟩ fun a _ => adrValid_ok a.1, trivial⟩
theorem adrSome_ok (a : Adr) : PureOk Try.prog 85 [(cE eAdr).enc a] (cB.enc (adrSome a)) := by
 refine pure_intro (wd := 1) (Q := mkQ LA0) (by decide) tysOk (q_of LA0_ok) mixed Try.func85 rfl _ (by show 1 <= _; decide) _ ?_
 repeat' (first | (apply And.intro <;> intro hc <;> (first | exact Bool.noConfusion hc | (simp only [zb0] at hc) | skip)) | (refine And.intro zp0 ?_) | (apply And.intro) | (intro s hs))
 all_goals (
  have e1 : s = adrValid a := hs.trans (congrArg adrValid (rd_adr a))
  refine Done.mk (leF_bool ?_)
  simp [adrSome, <- e1, hc])
def iidF (a : Adr) : Int × Bool := if adrSome a = true then (if a.mode = 3 then (bits .xor .u64 a.eui 144115188075855872, true) else (IntKind.u64.wrap (1099478073344 + IntKind.u64.wrap a.short), true)) else (0, false)
def encIB (r : Int × Bool) : FV := .tup [.c (.int .u64 r.1), .c (.bool r.2)]
def LA1 : CsL := (85, some (pureE (AC.cons (cE eAdr) AC.nil) (fun _ => True) (fun a => adrSome a.1) cB.enc)) :: LA0
theorem LA1_ok : AllOk Try.prog LA1 := ⟨pureE_ok ⟨_, Try.func85, rfl, by kernel_rfl⟩ fun a _ => adrSome_ok a.1, LA0_ok⟩
theorem iid_ok (a : Adr) : PureOk Try.prog 46 [(cE eAdr).enc a] (encIB (iidF a)) := by
 refine pure_intro (wd := 1) (Q := mkQ LA1) (by decide) tysOk (q_of LA1_ok) mixed Try.func46 rfl _ (by show 1 <= _; decide) _ ?_
 repeat' (first | (apply And.intro <;> intro hc <;> (first | exact Bool.noConfusion hc | (simp only [zb0] at hc) | skip)) | (refine And.intro zp0 ?_) | (apply And.intro) | (intro s hs))
 all_goals (
  have e1 : s = adrSome a := hs.trans (congrArg adrSome (rd_adr a))
  clear hs
  subst e1
  refine Done.mk (leF_tup ⟨leC_int ?_, leC_bool ?_, trivial⟩) <;> simp [iidF, *])
def setV (a : Fin 16 -> Int) (i : Nat) (v : Int) : Fin 16 -> Int := fun q => if q.1 = i then v else a q
theorem setV_ok {a : Fin 16 -> Int} {i : Nat} {v : Int} (ha : byteOk a) (hv : 0 <= v /\ v < 256) : byteOk (setV a i v) := ⟨fun q => by
 unfold setV
 split
 . exact hv
 . exact ha.q q⟩
theorem setV_at {a : Fin 16 -> Int} {i off j : Nat} {v : Int} (h : off = i) (hj : j < 16) : (bif Nat.ble off j && Nat.blt j (off + 1) then v else vget a j) = vget (setV a i v) j := by
 rw [vget_lt _ hj, vget_lt _ hj]
 unfold setV
 by_cases e : j = i
 . rw [rng_in (by omega), cond_true, if_pos e]
 . rw [rng_out (by omega), cond_false, if_neg e]
theorem u8r (z : Int) : 0 <= IntKind.u8.wrap z /\ IntKind.u8.wrap z < 256 := by
 simp only [IntKind.wrap, IntKind.signed, IntKind.bits]
 constructor
 . exact Int.emod_nonneg _ (by decide)
 . exact Int.emod_lt_of_pos _ (by decide)
structure GrpS (n : Nat) (l : List Int) where
 i : Nat
 a : Fin 16 -> Int
 q : Int
 hi : i <= 15
 ha : byteOk a
 ht : TapeOk n (rI l) q
theorem group_ok (n : Nat) (l : List Int) (q : Int) (ht : TapeOk n (rI l) q) :
 ∃ (r : Fin 16 -> Int) (q' : Int), byteOk r /\ TapeOk n (rI l) q' /\ MethOk Try.prog 62 [] (tapeN n (rI l) q) ((cE (eA .u8 16)).enc r) (tapeN n (rI l) q') := by
 refine tape_intro (wd := 1) (Q := mkQ LT1) (by decide) tysOk (q_of LT1_ok) mixed Try.func62 rfl _ (by show 0 + 1 <= _; decide) (nff_elem (eA .u8 16)) ?_
 repeat' (first | (apply And.intro <;> intro hc <;> (first | exact Bool.noConfusion hc | (simp only [zb0] at hc) | skip)) | (refine And.intro zp1 ?_) | (apply And.intro) | (intro s hs))
 . rename_i s1 hs1
   refine loop_intro (mono_of LT1_ok) (fun s : GrpS n l => (⟨[(0, one (.ptr 0 0 0 false)), (2, one (.ptr 1 0 0 false)), (3, one (.ptr 3 0 0 false)), (4, one (.int .i64 (s.i : Int)))],
    [(0, some (tapeN n (rI l) s.q)), (1, some ⟨24, 1, 16, true, fun _ _ => .top⟩), (3, some ⟨24, 1, 16, true, fun _ => (eA .u8 16).cell s.a⟩)], 50⟩ : Hd)) (fun s => s.i) (fun _ => rfl) ?_ ⟨15, fun q => if q.1 = 0 then 255 else if q.1 = 1 then IntKind.u8.wrap s1 else 0, _, by omega, ⟨fun q => by have := u8r s1; split <;> (try split) <;> omega⟩, hs⟩ [] ?_
   . rintro ⟨i, a, q1, hi, ha, ht1⟩
     dsimp only at hi ⊢
     repeat' (first | (apply And.intro <;> intro hc <;> (first | exact Bool.noConfusion hc | (simp only [zb0] at hc) | skip)) | (refine And.intro zp1 ?_) | (apply And.intro) | (intro s hs))
     . rename_i s1 hs1 sq1 hsq1 s2 hs2
       have hs1' : 0 <= s1 /\ s1 < 15 := hs1
       have hw : IntKind.i64.wrap (15 - s1) = 15 - s1 := IntWalk.i64_in _ (by omega)
       have hc' : IntKind.i64.wrap (15 - s1) < (i : Int) := by assumption
       have hi2 : 1 <= i := by omega
       refine ⟨⟨i - 1, setV a i (IntKind.u8.wrap s2), _, by omega, setV_ok ha (u8r _), hs⟩, [], by dsimp only; omega, rfl, ?_, ?_⟩
       . repeat' (first | exact zw0 | refine leF_int ?_ | refine leF_bool ?_ | exact zw1 | apply And.intro)
         refine (IntWalk.i64_in _ ?_).trans ?_
         . constructor <;> omega
         . dsimp only
           omega
       . repeat' (first | exact zw0 | refine leF_int ?_ | refine leF_bool ?_ | exact zw1 | apply And.intro)
         . exact tapeN_le
         . refine leN_varA fun j hj => ?_
           exact leC_int (setV_at (j := j) (by omega) hj)
     . exact ⟨(a, _), ⟨ha, by assumption⟩, ⟨leF_e (leE_all (by repeat' (first | exact zw2 | refine leE_all ?_ | exact leC_bool (by assumption) | apply And.intro))), tapeN_le⟩⟩
   . refine ⟨rfl, ?_, ?_⟩
     . repeat' (first | exact zw0 | refine leF_int ?_ | refine leF_bool ?_ | exact zw1 | apply And.intro)
     . repeat' (first | exact zw0 | refine leF_int ?_ | refine leF_bool ?_ | exact zw1 | apply And.intro)
       . exact tapeN_le
       . refine leN_var ?_
         repeat' (first | exact trivial | exact leC_int rfl | apply And.intro)
 . skip
   refine loop_intro (mono_of LT1_ok) (fun s : GrpS n l => (⟨[(0, one (.ptr 0 0 0 false)), (2, one (.ptr 1 0 0 false)), (3, one (.ptr 3 0 0 false)), (4, one (.int .i64 (s.i : Int)))],
    [(0, some (tapeN n (rI l) s.q)), (1, some ⟨24, 1, 16, true, fun _ _ => .top⟩), (3, some ⟨24, 1, 16, true, fun _ => (eA .u8 16).cell s.a⟩)], 50⟩ : Hd)) (fun s => s.i) (fun _ => rfl) ?_ ⟨15, fun q => if q.1 = 0 then 255 else if q.1 = 1 then 2 else 0, _, by omega, ⟨fun q => by split <;> (try split) <;> omega⟩, hs⟩ [] ?_
   . rintro ⟨i, a, q1, hi, ha, ht1⟩
     dsimp only at hi ⊢
     repeat' (first | (apply And.intro <;> intro hc <;> (first | exact Bool.noConfusion hc | (simp only [zb0] at hc) | skip)) | (refine And.intro zp1 ?_) | (apply And.intro) | (intro s hs))
     . rename_i s1 hs1 sq1 hsq1 s2 hs2
       have hs1' : 0 <= s1 /\ s1 < 15 := hs1
       have hw : IntKind.i64.wrap (15 - s1) = 15 - s1 := IntWalk.i64_in _ (by omega)
       have hc' : IntKind.i64.wrap (15 - s1) < (i : Int) := by assumption
       have hi2 : 1 <= i := by omega
       refine ⟨⟨i - 1, setV a i (IntKind.u8.wrap s2), _, by omega, setV_ok ha (u8r _), hs⟩, [], by dsimp only; omega, rfl, ?_, ?_⟩
       . repeat' (first | exact zw0 | refine leF_int ?_ | refine leF_bool ?_ | exact zw1 | apply And.intro)
         refine (IntWalk.i64_in _ ?_).trans ?_
         . constructor <;> omega
         . dsimp only
           omega
       . repeat' (first | exact zw0 | refine leF_int ?_ | refine leF_bool ?_ | exact zw1 | apply And.intro)
         . exact tapeN_le
         . refine leN_varA fun j hj => ?_
           exact leC_int (setV_at (j := j) (by omega) hj)
     . exact ⟨(a, _), ⟨ha, by assumption⟩, ⟨leF_e (leE_all (by repeat' (first | exact zw2 | refine leE_all ?_ | exact leC_bool (by assumption) | apply And.intro))), tapeN_le⟩⟩
   . refine ⟨rfl, ?_, ?_⟩
     . repeat' (first | exact zw0 | refine leF_int ?_ | refine leF_bool ?_ | exact zw1 | apply And.intro)
     . repeat' (first | exact zw0 | refine leF_int ?_ | refine leF_bool ?_ | exact zw1 | apply And.intro)
       . exact tapeN_le
       . refine leN_var ?_
         repeat' (first | exact trivial | exact leC_int rfl | apply And.intro)
abbrev pfxE : Entry := tapeE AC.nil (fun _ => True) (fun a (r : Pfx) => vpf r = true /\ byteOk r.ip) (cE ePfx).enc
abbrev devE : Entry := tapeE AC.nil (fun _ => True) (fun a (r : Adr) => True) (cE eAdr).enc
abbrev grpE : Entry := tapeE AC.nil (fun _ => True) (fun a (r : Fin 16 -> Int) => byteOk r) (cE (eA .u8 16)).enc
def LT2a : CsL := (43, some pfxE) :: (42, some devE) :: (62, some grpE) :: (46, some (pureE (AC.cons (cE eAdr) AC.nil) (fun _ => True) (fun a => iidF a.1) encIB)) :: []
theorem LT2a_ok : AllOk Try.prog LT2a := ⟨tapeE_ok ⟨_, Try.func43, rfl, by kernel_rfl⟩ fun n l q a ht hp => prefix_ok n l q ht, tapeE_ok ⟨_, Try.func42, rfl, by kernel_rfl⟩ fun n l q a ht hp => device_ok n l q ht, tapeE_ok ⟨_, Try.func62, rfl, by kernel_rfl⟩ fun n l q a ht hp => group_ok n l q ht, pureE_ok ⟨_, Try.func46, rfl, by kernel_rfl⟩ fun a _ => iid_ok a.1, trivial⟩
def LT2 : CsL := LT2a ++ LT1
theorem LT2_ok : AllOk Try.prog LT2 := append_ok LT2a_ok LT1_ok
end Go.Proofs.Ytjknkfjhcapocaa.AX
