/- Layer 13 by AX2: Decode of the program. -/
import Derived.Test.YtjknkfjhcapocaaPk3
namespace Go.Proofs.Ytjknkfjhcapocaa.AX
open Go.RowKit
set_option linter.unusedVariables false
set_option linter.unusedSimpArgs false
/-- A pointer to a variable of ours that holds a slice, as an argument. -/
def cPs {α : Type} [Inhabited α] (E : Elem α) (hsz : 0 < E.sz) : Codec (List α) where
  enc l := .e (.c (.rp false 1 fun _ => .sl false l.length E.sz (rowF E l)))
  dec H x := match x with
    | .e (.c (.ptr k 0 0 _)) => match hget H k with
      | some e => bif Nat.blt 0 e.n && Nat.blt 0 e.sz then
          match srcOf H E.sz (.e (.c (e.f 0 0))) with
          | some ⟨n, g, p, rd⟩ => some (toL E n g, both p (some (∀ i, i < n → E.ok (g i) = true)), k :: rd)
          | none => none
        else none
      | none => none
    | _ => none
  sound H H' x a p rd h hp hh := by
    split at h
    · rename_i k fl
      split at h
      · rename_i e he
        obtain ⟨hb, h⟩ : (Nat.blt 0 e.n && Nat.blt 0 e.sz) = true ∧ (match srcOf H E.sz (.e (.c (e.f 0 0))) with
          | some ⟨n, g, p, rd⟩ => some (toL E n g, both p (some (∀ i, i < n → E.ok (g i) = true)), k :: rd)
          | none => none) = some (a, p, rd) := by
          cases hb : (Nat.blt 0 e.n && Nat.blt 0 e.sz) with
          | true => rw [hb] at h; exact ⟨rfl, h⟩
          | false => rw [hb] at h; cases h
        rw [Bool.and_eq_true] at hb
        split at h
        · rename_i n g q rd' hs
          injection h with h
          injection h with h h'
          injection h' with h' h''
          subst h h' h''
          obtain ⟨p1, p2⟩ := both_ok.1 hp
          have he' : hget H' k = some e := by rw [← hh k (List.mem_cons_self ..)]; exact he
          have hl := bo_sl hsz (srcOf_congr hs fun k2 hk2 => hh k2 (List.mem_cons_of_mem _ hk2)) p1 p2
          rintro cx r w v st ⟨y, hy, rfl⟩
          obtain ⟨u, hu, hr⟩ := blk_cell st he' hy (i := 0) (j := 0) (Nat.le_of_ble_eq_true hb.1) (Nat.le_of_ble_eq_true hb.2)
          refine ⟨⟨y.b, 0 * y.sz + 0, none⟩, rfl, rfl, ?_, (fun h => by cases h), (st.dom k y hy).1, fun j hj => ⟨u, ?_, ?_⟩⟩
          · rintro ⟨k2, e2, z, q1, q2, q3, q4⟩
            have := st.inj k2 k e2 _ z y q1 he' q2 hy q3
            exact q4 (by rw [this]; exact List.mem_cons_self ..)
          · obtain rfl : j = 0 := by omega
            exact hu
          · exact CV.rel_w (fun b ⟨nm, e, x, h1, h2, h3, h4⟩ => ⟨nm, e, x, h1, h2, h3, fun h => h4 (List.mem_cons_of_mem _ h)⟩) _ _ (hl cx r w u st hr)
        · cases h
      · cases h
    · cases h
def uI (b : List Int) (a n : Int) : Int := (uintF b a n).1
set_option maxHeartbeats 4000000 in
theorem dec1_ok (b : List Int) (a n : Int) (hb : BL b) (hl : b.length ≤ 70368744177664) : PureOk Try.prog 73 [(cI .i64).enc a, (cI .i64).enc n, (cPs eB eB_sz).enc b] ((cI .u64).enc (uI b a n)) := by
  refine pure_intro (wd := 1) (Q := mkQ LPf) (by decide) tysOk (q_of LPf_ok) mixed Try.func73 rfl _ (by show 3 ≤ _; decide) _ ?_
  repeat' (first | (apply And.intro <;> intro hc <;> (first | exact Bool.noConfusion hc | (simp only [decide_eq_true_eq, decide_eq_false_iff_not, Bool.not_eq_true', Bool.not_eq_false', beq_iff_eq, beq_eq_false_iff_ne, bne_iff_ne, bne_eq_false_iff_eq, Bool.true_eq_false, Bool.false_eq_true, ne_eq, not_true_eq_false] at hc <;> first | exact absurd rfl hc | skip) | skip)) | (refine And.intro (by first | exact trivial | decide | omega | (dsimp only; omega) | exact fun _ _ => rfl | exact ⟨by assumption, by first | exact trivial | decide | omega | (dsimp only; omega)⟩) ?_) | (apply And.intro) | (intro s hs; skip))
  · dsimp only; rw [toL_b]; exact hb
  · dsimp only; rw [toL_b]; exact hl
  · have hs' : s = uintF b a n := by rw [hs]; dsimp only; rw [toL_b]
    clear hs
    exact Done.mk (leF_int (by rw [hs']; rfl))
abbrev dec1E : Entry := pureE (AC.cons (cI .i64) (AC.cons (cI .i64) (AC.cons (cPs eB eB_sz) AC.nil))) (fun a => BL a.2.2.1 ∧ a.2.2.1.length ≤ 70368744177664) (fun a => uI a.2.2.1 a.1 a.2.1) (cI .u64).enc
def LPg : CsL := (73, some dec1E) :: LPf
theorem LPg_ok : AllOk Try.prog LPg := ⟨pureE_ok ⟨_, Try.func73, rfl, by kernel_rfl⟩ fun a h => dec1_ok a.2.2.1 a.1 a.2.1 h.1 h.2, LPf_ok⟩
def pk0 : Pkt := (⟨0, 0, 0, 0, fun _ => 0, fun _ => 0, 0, 0⟩, [])
/-- The header that bytes stand for, with given ports. -/
def hd1 (b : List Int) (sp dp : Int) : Hdr := ⟨IntKind.u8.wrap (shrI .u64 (uI b 0 4) 20), IntKind.u32.wrap (bits .and .u64 (uI b 0 4) 1048575), b.getD 6 default, b.getD 7 default, fun i => b.getD (8 + i.1) default, fun i => b.getD (24 + i.1) default, sp, dp⟩
def pkU (b : List Int) : Pkt := (hd1 b (IntKind.u16.wrap (uI b 40 2)) (IntKind.u16.wrap (uI b 42 2)), b.drop 48)
def pkN (b : List Int) : Pkt := (hd1 b 0 0, b.drop 40)
def pkF (b : List Int) : Pkt := if b.getD 6 default = 17 then pkU b else pkN b
def decF (b : List Int) : Pkt × Int :=
  if 1280 < b.length then (pk0, 3)
  else if b.length < 40 ∨ b.length < 48 ∧ b.getD 6 default = 17 then (pk0, 4)
  else if shrI .u64 (uI b 0 4) 28 ≠ 6 ∨ uI b 4 2 ≠ IntKind.u64.wrap (IntKind.i64.wrap (b.length - 40)) then (pk0, 5)
  else if b.getD 6 default = 17 ∧ uI b 44 2 ≠ IntKind.u64.wrap (IntKind.i64.wrap (b.length - 40)) then (pk0, 5)
  else if validP (pkF b) = false then (pk0, 5)
  else if b.getD 6 default = 17 ∧ IntKind.u16.wrap (uI b 46 2) ≠ sum0 (coverB b) then (pk0, 6)
  else (pkF b, 0)
def encPE (s : Pkt × Int) : FV := .tup [tailR eHd eB s.1, .c (.int .i64 s.2)]
theorem isRow_ov {z : Nat → Nat → CV} {n : Nat} {g : Nat → Nat → CV} {l : List Int} (hn : l.length ≤ n) (hg : ∀ k, k < l.length → g k 0 = .int .u8 (l.getD k default)) : IsRow (fun k j => ovE z 0 n g (0 + k) j) l := ⟨fun k hk => by
  show selC (Nat.ble 0 (0 + k) && Nat.blt (0 + k) (0 + n)) (g (0 + k - 0) 0) _ = _
  rw [show Nat.ble 0 (0 + k) = true from Nat.ble_eq_true_of_le (Nat.zero_le _), blt_lt (show 0 + k < 0 + n by omega), Bool.and_true, selC_eq, cond_true, show 0 + k - 0 = k by omega]
  exact hg k hk⟩
theorem getD_dropI (b : List Int) (a k : Nat) : (b.drop a).getD k default = b.getD (a + k) default := by
  rw [List.getD_eq_getElem?_getD, List.getD_eq_getElem?_getD, List.getElem?_drop]
theorem isRow_o40 {z : Nat → Nat → CV} {n : Nat} {b : List Int} (hn : b.length - 40 ≤ n) : IsRow (fun k j => ovE z 0 n (fun i => rowF eB b (40 + i)) (0 + k) j) (b.drop 40) :=
  isRow_ov (by rw [List.length_drop]; exact hn) fun k hk => by rw [getD_dropI]; rfl
theorem isRow_o48 {z : Nat → Nat → CV} {n : Nat} {b : List Int} (hn : b.length - 48 ≤ n) : IsRow (fun k j => ovE z 0 n (fun i => (fun i => rowF eB b (40 + i)) (8 + i)) (0 + k) j) (b.drop 48) :=
  isRow_ov (by rw [List.length_drop]; exact hn) fun k hk => by rw [getD_dropI, show 48 + k = 40 + (8 + k) by omega]; rfl
theorem isRow_un {F : Nat → Nat → CV} {l : List Int} (h : IsRow (fun k j => F (0 + k) j) l) : IsRow F l := ⟨fun k hk => by
  have := h.at_ k hk
  rw [Nat.zero_add] at this
  exact this⟩
theorem leC_os_is {c : Wc} {sh : Bool} {k n : Nat} {e : Ent} {l : List Int} (he : hget c.H k = some e) (hd : c.dead k = true) (hz : e.sz = 1) (hn : n = l.length) (hle : n ≤ e.n) (h : IsRow (fun q j => e.f (0 + q) j) l) : LeC c (.os k 0 n) (.sl sh l.length eB.sz (rowF eB l)) :=
  leC_os_sl he hd hz hn (by rw [Nat.zero_add]; exact hle) fun q hq j hj => leC_is h (by omega) hj
theorem min_ge {a b c : Nat} (h1 : a ≤ b) (h2 : a ≤ c) : a ≤ Nat.min b c := Nat.le_min.2 ⟨h1, h2⟩
theorem pk_is {G : Nat → CV} {h : Hdr} {n : Nat} {F : Nat → Nat → CV} {l : List Int} (h1 : ∀ j, j < 38 → G j = eHd.cell h j) (h2 : toL eB n F = l) : ((eHd.rd G, toL eB n F) : Pkt) = (h, l) := by
  rw [h2, hd_congr G (eHd.cell h) h1, eHd_rd]
set_option maxHeartbeats 8000000 in
set_option maxRecDepth 20000 in
theorem pdecode_ok (b : List Int) (hb : BL b) (hl : b.length ≤ 140737488355328) : PureOk Try.prog 30 [(cSl eB eB_sz).enc b] (encPE (decF b)) := by
  obtain ⟨L0, eL⟩ : ∃ L0, decF b = L0 := ⟨_, rfl⟩
  rw [eL]
  by_cases hu : b.getD 6 default = 17
  · have eF : pkF b = pkU b := if_pos hu
    refine pure_intro (wd := 1) (Q := mkQ LPg) (by decide) tysOk (q_of LPg_ok) mixed Try.func30 rfl _ (by show 1 ≤ _; decide) _ ?_
    repeat' (first | (apply And.intro <;> intro hc <;> (first | exact Bool.noConfusion hc | (exfalso; first | exact absurd hu hc | exact absurd hc hu) | (simp only [decide_eq_true_eq, decide_eq_false_iff_not, Bool.not_eq_true', Bool.not_eq_false', beq_iff_eq, beq_eq_false_iff_ne, bne_iff_ne, bne_eq_false_iff_eq, Bool.true_eq_false, Bool.false_eq_true, ne_eq, not_true_eq_false] at hc <;> first | exact absurd rfl hc | (exfalso; first | exact absurd hu hc | exact absurd hc hu) | skip) | skip)) | (refine And.intro (by first | exact trivial | decide | omega | (dsimp only; omega) | exact fun _ _ => rfl | exact ⟨by assumption, by first | exact trivial | decide | omega | (dsimp only; omega)⟩) ?_) | (apply And.intro) | (intro s hs; (first | (have q : s = validP (pkU b) := by (refine hs.trans (congrArg validP (pk_is (h := (pkU b).1) (l := (pkU b).2) (fun j hj => ?_) (toL_is ?_ (isRow_o48 ?_)))); (iterate 38 (rcases j with _ | j; exact rfl)); exact absurd hj (by omega); (show _ = (b.drop 48).length; rw [List.length_drop]; omega); exact min_ge (by omega) (by omega)); clear hs; subst q) | (have q := hs; dsimp only at q; rw [toL_b] at q; clear hs; subst q) | skip)))
    all_goals first
      | (dsimp only; rw [toL_b]; exact hb)
      | (dsimp only; rw [toL_b]; omega)
      | (dsimp only; rw [toL_b]; omega)
      | (show 8 ≤ ((b.length - 40 : Nat) : Int); omega)
      | (refine ok_is (isRow_o48 (min_ge (by omega) (by omega))) ?_; rw [List.length_drop]; omega)
      | (show (toL eB _ _).length ≤ _; rw [toL_len]; omega)
      | skip
    · have e : L0 = (pk0, 3) := by
        rw [← eL]
        unfold decF
        rw [if_pos (by omega)]
      rw [e]
      refine Done.mk (leF_tup ⟨leE_tail rfl (fun j hj => ?_) (leC_nils_sl rfl), leC_int rfl, trivial⟩)
      iterate 38 (rcases j with _ | j; exact leC_int rfl)
      exact absurd hj (by show ¬ _ < 38; omega)
    · have e : L0 = (pk0, 4) := by
        rw [← eL]
        unfold decF
        rw [if_neg (by omega), if_pos (by omega)]
      rw [e]
      refine Done.mk (leF_tup ⟨leE_tail rfl (fun j hj => ?_) (leC_nils_sl rfl), leC_int rfl, trivial⟩)
      iterate 38 (rcases j with _ | j; exact leC_int rfl)
      exact absurd hj (by show ¬ _ < 38; omega)
    · have e : L0 = (pk0, 4) := by
        rw [← eL]
        unfold decF
        rw [if_neg (by omega), if_pos (by omega)]
      rw [e]
      refine Done.mk (leF_tup ⟨leE_tail rfl (fun j hj => ?_) (leC_nils_sl rfl), leC_int rfl, trivial⟩)
      iterate 38 (rcases j with _ | j; exact leC_int rfl)
      exact absurd hj (by show ¬ _ < 38; omega)
    · have e : L0 = (pk0, 5) := by
        rw [← eL]
        unfold decF
        rw [if_neg (by omega), if_neg (by omega), if_pos (by omega)]
      rw [e]
      refine Done.mk (leF_tup ⟨leE_tail rfl (fun j hj => ?_) (leC_nils_sl rfl), leC_int rfl, trivial⟩)
      iterate 38 (rcases j with _ | j; exact leC_int rfl)
      exact absurd hj (by show ¬ _ < 38; omega)
    · have e : L0 = (pk0, 5) := by
        rw [← eL]
        unfold decF
        rw [if_neg (by omega), if_neg (by omega), if_pos (by omega)]
      rw [e]
      refine Done.mk (leF_tup ⟨leE_tail rfl (fun j hj => ?_) (leC_nils_sl rfl), leC_int rfl, trivial⟩)
      iterate 38 (rcases j with _ | j; exact leC_int rfl)
      exact absurd hj (by show ¬ _ < 38; omega)
    · have e : L0 = (pk0, 5) := by
        rw [← eL]
        unfold decF
        rw [if_neg (by omega), if_neg (by omega), if_neg (by omega), if_pos (by omega)]
      rw [e]
      refine Done.mk (leF_tup ⟨leE_tail rfl (fun j hj => ?_) (leC_nils_sl rfl), leC_int rfl, trivial⟩)
      iterate 38 (rcases j with _ | j; exact leC_int rfl)
      exact absurd hj (by show ¬ _ < 38; omega)
    · refine ok_is (isRow_un (isRow_o48 ?_)) ?_
      · exact min_ge (by omega) (by omega)
      · rw [List.length_drop]; omega
    · have q : s = validP (pkU b) := by
        refine hs.trans (congrArg validP (pk_is (h := (pkU b).1) (l := (pkU b).2) (fun j hj => ?_) (toL_is ?_ (isRow_o48 ?_))))
        · iterate 38 (rcases j with _ | j; exact rfl)
          exact absurd hj (by omega)
        · show _ = (b.drop 48).length
          rw [List.length_drop]; omega
        · exact min_ge (by omega) (by omega)
      have q' := (q.symm.trans (by assumption) : validP (pkU b) = false)
      have e : L0 = (pk0, 5) := by
        rw [← eL]
        unfold decF
        rw [if_neg (by omega), if_neg (by omega), if_neg (by omega), if_neg (by omega), if_pos (by rw [eF]; exact q')]
      rw [e]
      refine Done.mk (leF_tup ⟨leE_tail rfl (fun j hj => ?_) (leC_nils_sl rfl), leC_int rfl, trivial⟩)
      iterate 38 (rcases j with _ | j; exact leC_int rfl)
      exact absurd hj (by show ¬ _ < 38; omega)
    · have q : s = validP (pkU b) := by
        refine hs.trans (congrArg validP (pk_is (h := (pkU b).1) (l := (pkU b).2) (fun j hj => ?_) (toL_is ?_ (isRow_o48 ?_))))
        · iterate 38 (rcases j with _ | j; exact rfl)
          exact absurd hj (by omega)
        · show _ = (b.drop 48).length
          rw [List.length_drop]; omega
        · exact min_ge (by omega) (by omega)
      have q' := (q.symm.trans (by assumption) : validP (pkU b) = true)
      have e : L0 = (pk0, 6) := by
        rw [← eL]
        unfold decF
        rw [if_neg (by omega), if_neg (by omega), if_neg (by omega), if_neg (by omega), if_neg (by rw [eF, q']; decide), if_pos ⟨hu, by assumption⟩]
      rw [e]
      refine Done.mk (leF_tup ⟨leE_tail rfl (fun j hj => ?_) (leC_nils_sl rfl), leC_int rfl, trivial⟩)
      iterate 38 (rcases j with _ | j; exact leC_int rfl)
      exact absurd hj (by show ¬ _ < 38; omega)
    · have q : s = validP (pkU b) := by
        refine hs.trans (congrArg validP (pk_is (h := (pkU b).1) (l := (pkU b).2) (fun j hj => ?_) (toL_is ?_ (isRow_o48 ?_))))
        · iterate 38 (rcases j with _ | j; exact rfl)
          exact absurd hj (by omega)
        · show _ = (b.drop 48).length
          rw [List.length_drop]; omega
        · exact min_ge (by omega) (by omega)
      have q' := (q.symm.trans (by assumption) : validP (pkU b) = true)
      have e : L0 = (pkU b, 0) := by
        rw [← eL]
        unfold decF
        rw [if_neg (by omega), if_neg (by omega), if_neg (by omega), if_neg (by omega), if_neg (by rw [eF, q']; decide), if_neg (fun h => h.2 (by assumption)), eF]
      rw [e]
      refine Done.mk (leF_tup ⟨leE_tail rfl (fun j hj => ?_) (leC_os_is (l := b.drop 48) rfl rfl rfl ?_ ?_ ?_), leC_int rfl, trivial⟩)
      · iterate 38 (rcases j with _ | j; exact leC_int rfl)
        exact absurd hj (by show ¬ _ < 38; omega)
      · rw [List.length_drop]; omega
      · show _ ≤ _; dsimp only; omega
      · dsimp only
        refine isRow_o48 ?_
        exact min_ge (by omega) (by omega)
  · have eF : pkF b = pkN b := if_neg hu
    refine pure_intro (wd := 1) (Q := mkQ LPg) (by decide) tysOk (q_of LPg_ok) mixed Try.func30 rfl _ (by show 1 ≤ _; decide) _ ?_
    repeat' (first | (apply And.intro <;> intro hc <;> (first | exact Bool.noConfusion hc | (exfalso; first | exact absurd hu hc | exact absurd hc hu) | (simp only [decide_eq_true_eq, decide_eq_false_iff_not, Bool.not_eq_true', Bool.not_eq_false', beq_iff_eq, beq_eq_false_iff_ne, bne_iff_ne, bne_eq_false_iff_eq, Bool.true_eq_false, Bool.false_eq_true, ne_eq, not_true_eq_false] at hc <;> first | exact absurd rfl hc | (exfalso; first | exact absurd hu hc | exact absurd hc hu) | skip) | skip)) | (refine And.intro (by first | exact trivial | decide | omega | (dsimp only; omega) | exact fun _ _ => rfl | exact ⟨by assumption, by first | exact trivial | decide | omega | (dsimp only; omega)⟩) ?_) | (apply And.intro) | (intro s hs; (first | (have q := hs; dsimp only at q; rw [toL_b] at q; clear hs; subst q) | skip)))
    all_goals first
      | (dsimp only; rw [toL_b]; exact hb)
      | (dsimp only; rw [toL_b]; omega)
      | (show (toL eB _ _).length ≤ _; rw [toL_len]; omega)
      | skip
    · have e : L0 = (pk0, 3) := by
        rw [← eL]
        unfold decF
        rw [if_pos (by omega)]
      rw [e]
      refine Done.mk (leF_tup ⟨leE_tail rfl (fun j hj => ?_) (leC_nils_sl rfl), leC_int rfl, trivial⟩)
      iterate 38 (rcases j with _ | j; exact leC_int rfl)
      exact absurd hj (by show ¬ _ < 38; omega)
    · have e : L0 = (pk0, 4) := by
        rw [← eL]
        unfold decF
        rw [if_neg (by omega), if_pos (by omega)]
      rw [e]
      refine Done.mk (leF_tup ⟨leE_tail rfl (fun j hj => ?_) (leC_nils_sl rfl), leC_int rfl, trivial⟩)
      iterate 38 (rcases j with _ | j; exact leC_int rfl)
      exact absurd hj (by show ¬ _ < 38; omega)
    · have e : L0 = (pk0, 5) := by
        rw [← eL]
        unfold decF
        rw [if_neg (by omega), if_neg (by omega), if_pos (by omega)]
      rw [e]
      refine Done.mk (leF_tup ⟨leE_tail rfl (fun j hj => ?_) (leC_nils_sl rfl), leC_int rfl, trivial⟩)
      iterate 38 (rcases j with _ | j; exact leC_int rfl)
      exact absurd hj (by show ¬ _ < 38; omega)
    · have e : L0 = (pk0, 5) := by
        rw [← eL]
        unfold decF
        rw [if_neg (by omega), if_neg (by omega), if_pos (by omega)]
      rw [e]
      refine Done.mk (leF_tup ⟨leE_tail rfl (fun j hj => ?_) (leC_nils_sl rfl), leC_int rfl, trivial⟩)
      iterate 38 (rcases j with _ | j; exact leC_int rfl)
      exact absurd hj (by show ¬ _ < 38; omega)
    · refine ok_is (isRow_un (isRow_o40 ?_)) ?_
      · exact min_ge (by omega) (by omega)
      · rw [List.length_drop]; omega
    · have q : s = validP (pkN b) := by
        refine hs.trans (congrArg validP (pk_is (h := (pkN b).1) (l := (pkN b).2) (fun j hj => ?_) (toL_is ?_ (isRow_o40 ?_))))
        · iterate 38 (rcases j with _ | j; exact rfl)
          exact absurd hj (by omega)
        · show _ = (b.drop 40).length
          rw [List.length_drop]; omega
        · exact min_ge (by omega) (by omega)
      have q' := (q.symm.trans (by assumption) : validP (pkN b) = false)
      have e : L0 = (pk0, 5) := by
        rw [← eL]
        unfold decF
        rw [if_neg (by omega), if_neg (by omega), if_neg (by omega), if_neg (fun h => hu h.1), if_pos (by rw [eF]; exact q')]
      rw [e]
      refine Done.mk (leF_tup ⟨leE_tail rfl (fun j hj => ?_) (leC_nils_sl rfl), leC_int rfl, trivial⟩)
      iterate 38 (rcases j with _ | j; exact leC_int rfl)
      exact absurd hj (by show ¬ _ < 38; omega)
    · have q : s = validP (pkN b) := by
        refine hs.trans (congrArg validP (pk_is (h := (pkN b).1) (l := (pkN b).2) (fun j hj => ?_) (toL_is ?_ (isRow_o40 ?_))))
        · iterate 38 (rcases j with _ | j; exact rfl)
          exact absurd hj (by omega)
        · show _ = (b.drop 40).length
          rw [List.length_drop]; omega
        · exact min_ge (by omega) (by omega)
      have q' := (q.symm.trans (by assumption) : validP (pkN b) = true)
      have e : L0 = (pkN b, 0) := by
        rw [← eL]
        unfold decF
        rw [if_neg (by omega), if_neg (by omega), if_neg (by omega), if_neg (fun h => hu h.1), if_neg (by rw [eF, q']; decide), if_neg (fun h => hu h.1), eF]
      rw [e]
      refine Done.mk (leF_tup ⟨leE_tail rfl (fun j hj => ?_) (leC_os_is (l := b.drop 40) rfl rfl rfl ?_ ?_ ?_), leC_int rfl, trivial⟩)
      · iterate 38 (rcases j with _ | j; exact leC_int rfl)
        exact absurd hj (by show ¬ _ < 38; omega)
      · rw [List.length_drop]; omega
      · show _ ≤ _; dsimp only; omega
      · dsimp only
        refine isRow_o40 ?_
        exact min_ge (by omega) (by omega)
    · have e : L0 = (pk0, 5) := by
        rw [← eL]
        unfold decF
        rw [if_neg (by omega), if_neg (by omega), if_pos (by omega)]
      rw [e]
      refine Done.mk (leF_tup ⟨leE_tail rfl (fun j hj => ?_) (leC_nils_sl rfl), leC_int rfl, trivial⟩)
      iterate 38 (rcases j with _ | j; exact leC_int rfl)
      exact absurd hj (by show ¬ _ < 38; omega)
    · have e : L0 = (pk0, 5) := by
        rw [← eL]
        unfold decF
        rw [if_neg (by omega), if_neg (by omega), if_pos (by omega)]
      rw [e]
      refine Done.mk (leF_tup ⟨leE_tail rfl (fun j hj => ?_) (leC_nils_sl rfl), leC_int rfl, trivial⟩)
      iterate 38 (rcases j with _ | j; exact leC_int rfl)
      exact absurd hj (by show ¬ _ < 38; omega)
    · refine ok_is (isRow_un (isRow_o40 ?_)) ?_
      · exact min_ge (by omega) (by omega)
      · rw [List.length_drop]; omega
    · have q : s = validP (pkN b) := by
        refine hs.trans (congrArg validP (pk_is (h := (pkN b).1) (l := (pkN b).2) (fun j hj => ?_) (toL_is ?_ (isRow_o40 ?_))))
        · iterate 38 (rcases j with _ | j; exact rfl)
          exact absurd hj (by omega)
        · show _ = (b.drop 40).length
          rw [List.length_drop]; omega
        · exact min_ge (by omega) (by omega)
      have q' := (q.symm.trans (by assumption) : validP (pkN b) = false)
      have e : L0 = (pk0, 5) := by
        rw [← eL]
        unfold decF
        rw [if_neg (by omega), if_neg (by omega), if_neg (by omega), if_neg (fun h => hu h.1), if_pos (by rw [eF]; exact q')]
      rw [e]
      refine Done.mk (leF_tup ⟨leE_tail rfl (fun j hj => ?_) (leC_nils_sl rfl), leC_int rfl, trivial⟩)
      iterate 38 (rcases j with _ | j; exact leC_int rfl)
      exact absurd hj (by show ¬ _ < 38; omega)
    · have q : s = validP (pkN b) := by
        refine hs.trans (congrArg validP (pk_is (h := (pkN b).1) (l := (pkN b).2) (fun j hj => ?_) (toL_is ?_ (isRow_o40 ?_))))
        · iterate 38 (rcases j with _ | j; exact rfl)
          exact absurd hj (by omega)
        · show _ = (b.drop 40).length
          rw [List.length_drop]; omega
        · exact min_ge (by omega) (by omega)
      have q' := (q.symm.trans (by assumption) : validP (pkN b) = true)
      have e : L0 = (pkN b, 0) := by
        rw [← eL]
        unfold decF
        rw [if_neg (by omega), if_neg (by omega), if_neg (by omega), if_neg (fun h => hu h.1), if_neg (by rw [eF, q']; decide), if_neg (fun h => hu h.1), eF]
      rw [e]
      refine Done.mk (leF_tup ⟨leE_tail rfl (fun j hj => ?_) (leC_os_is (l := b.drop 40) rfl rfl rfl ?_ ?_ ?_), leC_int rfl, trivial⟩)
      · iterate 38 (rcases j with _ | j; exact leC_int rfl)
        exact absurd hj (by show ¬ _ < 38; omega)
      · rw [List.length_drop]; omega
      · show _ ≤ _; dsimp only; omega
      · dsimp only
        refine isRow_o40 ?_
        exact min_ge (by omega) (by omega)
abbrev decE : Entry := pureE (AC.cons (cSl eB eB_sz) AC.nil) (fun a => BL a.1 ∧ a.1.length ≤ 140737488355328) (fun a => decF a.1) encPE
def LPh : CsL := (30, some decE) :: LPg
theorem LPh_ok : AllOk Try.prog LPh := ⟨pureE_ok ⟨_, Try.func30, rfl, by kernel_rfl⟩ fun a h => pdecode_ok a.1 h.1 h.2, LPg_ok⟩
end Go.Proofs.Ytjknkfjhcapocaa.AX
