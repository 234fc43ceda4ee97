/- Texts of one's own in one file: DiF, DiscoveryFormsA, Du, DiscoveryFormsW. -/
import Derived.Test.YthbhidfohdipnaaJDiscoveryFormse
import Derived.Test.YthbhidfohdipnaaJDiscoveryFormsc
/- Layer 20 by AX2: the law's helper 'spoiled'. -/
namespace Go.Proofs.Ythbhidfohdipnaa.AX
open Go.RowKit
set_option linter.unusedVariables false
set_option linter.unusedSimpArgs false
/-- A slice that is shared. -/
theorem bo_slT {α : Type} [Inhabited α] {E : Elem α} {H : Hp} {n : Nat} {f : Nat → Nat → CV} {rd : List Nat} (hok : ∀ i, i < n → E.ok (f i) = true) : Bo H rd (.e (.c (.sl true n E.sz f))) (.e (.c (slR E (toL E n f)))) := by
  rintro cx r w v st ⟨a, cap, rfl, c1, c2⟩
  show CV.rel (fun _ => none) (fun b => cx.X b ∨ wr r H b) (wrBut r H rd) w (.sl true (toL E n f).length E.sz (rowF E (toL E n f))) (.slice a n cap)
  rw [toL_len]
  refine ⟨a, cap, rfl, c1, fun h0 => ?_⟩
  obtain ⟨ad, rfl, hs, ho, hX, hlt, hc⟩ := c2 h0
  refine ⟨ad, rfl, hs, fun ⟨k, e, x, q1, q2, q3, _⟩ => ho ⟨k, e, x, q1, q2, q3⟩, fun _ h => h.elim (hX rfl) ho, hlt, fun i hi j hj => ?_⟩
  obtain ⟨u, hu, hr⟩ := hc i hi j hj
  refine ⟨u, hu, ?_⟩
  have key : rowF E (toL E n f) i j = f i j := by
    unfold rowF
    rw [toL_get hi]
    exact (E.ok_eq _ (hok i hi) j hj).symm
  rw [← key] at hr
  exact E.flat _ _ _ _ _ _ _ _ _ _ _ hr
theorem msg_leX {f : Nat → CV} {m : Msg} {P C : CV} {H : Hp} {rd : List Nat} (h1 : eMA.ok f = true) (h2 : eMZ.ok (fun q => f (29 + q)) = true) (e1 : eMA.rd f = m.a) (e2 : eMZ.rd (fun q => f (29 + q)) = m.z) (h3 : Bo H rd (.e (.c (f 27))) (.e (.c P))) (h4 : Bo H rd (.e (.c (f 28))) (.e (.c C))) :
    Bo H rd (.e (.agg 48 f)) (.e (.agg 48 (msgC m.a P C m.z))) := by
  rintro cx r w v st ⟨cs, rfl, c1, c2⟩
  refine ⟨cs, rfl, c1, fun i u hu => ?_⟩
  have hi : i < 48 := by rw [← c1]; exact (Array.getElem?_eq_some_iff.1 hu).1
  have h5 := c2 i u hu
  by_cases ha : i < 27
  · rw [msgC_a ha, ← e1]
    rw [eMA.ok_eq f h1 i ha] at h5
    exact eMA.flat _ _ _ _ _ _ _ _ _ _ _ h5
  · by_cases hz : 29 ≤ i
    · rw [msgC_z hz, ← e2]
      have := eMZ.ok_eq _ h2 (i - 29) (show i - 29 < 19 by omega)
      rw [show 29 + (i - 29) = i by omega] at this
      rw [this] at h5
      exact eMZ.flat _ _ _ _ _ _ _ _ _ _ _ h5
    · by_cases h7 : i = 27
      · subst h7; exact h3 cx r w u st h5
      · have : i = 28 := by omega
        subst this; exact h4 cx r w u st h5
/-- A message whose slices are shared. -/
def cMsgT : Codec Msg where
  enc m := .e (msgR m)
  dec H x := (ga 48 x).bind fun f => bif eMA.ok f && eMZ.ok (fun q => f (29 + q)) then
    match f 27, f 28 with
    | .sl true n s g, .sl true n' s' g' => bif Nat.beq s ePI.sz && Nat.beq s' eCI.sz then some (⟨eMA.rd f, toL ePI n g, toL eCI n' g', eMZ.rd (fun q => f (29 + q))⟩, both (some (∀ i, i < n → ePI.ok (g i) = true)) (some (∀ i, i < n' → eCI.ok (g' i) = true)), []) else none
    | _, _ => none
    else none
  sound H H' x a p rd h hp hh := by
    obtain ⟨f, h1, h⟩ := bind_some h
    obtain ⟨hk, h⟩ : (eMA.ok f && eMZ.ok (fun q => f (29 + q))) = true ∧ _ = some (a, p, rd) := by
      cases hb : (eMA.ok f && eMZ.ok (fun q => f (29 + q))) with
      | true => rw [hb] at h; exact ⟨rfl, h⟩
      | false => rw [hb] at h; cases h
    rw [Bool.and_eq_true] at hk
    split at h
    · rename_i n s g n' s' g' e1 e2
      obtain ⟨hb, h⟩ := cond_some h
      rw [Bool.and_eq_true] at hb
      have b1 := Nat.eq_of_beq_eq_true hb.1
      have b2 := Nat.eq_of_beq_eq_true hb.2
      subst b1 b2
      injection h with h
      injection h with h h'
      injection h' with h' h''
      subst h h' h''
      obtain ⟨q1, q2⟩ := both_ok.1 hp
      rw [ga_eq h1]
      exact msg_leX hk.1 hk.2 rfl rfl (by rw [e1]; exact bo_slT q1) (by rw [e2]; exact bo_slT q2)
    · cases h
theorem leC_snoc_fin {c : Wc} {k n n' : Nat} {t : TypeId} {α : Type} [Inhabited α] {E : Elem α} {L : List α} {x : α} {f : Nat → Nat → CV} (he : hget c.H k = some ⟨t, n, E.sz, false, f⟩) (hd : c.dead k = true) (hn : n = L.length + 1) (hn' : n' = n) (h1 : ∀ i, i < L.length → ∀ j, j < E.sz → LeC c (f i j) (rowF E L i j)) (h2 : allLt E.sz fun j => LeC c (f L.length j) (E.cell x j)) : LeC c (.os k 0 n') (slR E (L ++ [x])) := by
  subst hn'
  have h := leN_snoc (c := c) (t := t) (E := E) (L := L) (x := x) (f := f) hn h1 h2
  refine leC_os_sl he hd rfl (by rw [hn, List.length_append]; rfl) (by simp) fun q hq j hj => ?_
  rw [Nat.zero_add]
  exact h.f q hq j hj
structure SpI (m : Msg) : Prop where
  r : MsgR m
  p : m.p.length ≤ 16
  c : m.c.length ≤ 16
structure SpO (m : Msg) : Prop where
  r : MsgR m
  p : m.p.length ≤ 32
  c : m.c.length ≤ 32
def LSp : CsL := LT4
theorem LSp_ok : AllOk Try.prog LSp := LT4_ok
/-- The state at the head of the loop. -/
structure SpL (n : Nat) (l : List Int) where
  P : List PI
  q : Int
  hP : ∀ x ∈ P, PIr x
  hn : P.length ≤ 17
  ht : TapeOk n (rI l) q
def mER (m : Msg) (P : List PI) : Ent := ⟨38, 1, 48, true, fun _ => msgC m.a (slR ePI P) (slR eCI m.c) m.z⟩
theorem pir_0 : PIr ⟨fun _ => 0, 0, false, false, 0⟩ := ⟨⟨fun i => by show 0 ≤ (0 : Int) ∧ (0 : Int) < 256; decide⟩, by decide⟩
set_option maxHeartbeats 8000000 in
set_option maxRecDepth 20000 in
theorem spoil_ok (n : Nat) (l : List Int) (q : Int) (m : Msg) (ht : TapeOk n (rI l) q) (hm : SpI m) :
    ∃ (r : Msg) (q' : Int), SpO r ∧ TapeOk n (rI l) q' ∧ MethOk Try.prog 10 [.e (msgR m)] (tapeN n (rI l) q) (.e (msgR r)) (tapeN n (rI l) q') := by
  refine tape_intro (enc := fun m => .e (msgR m)) (S := SpO) (wd := 1) (Q := mkQ LSp) (by decide) tysOk (q_of LSp_ok) mixed Try.func10 rfl _ (by show 1 + 1 ≤ _; decide) (fun _ => nfE_msg) ?_
  obtain ⟨hr, hp, hcn⟩ := hm
  have z1 : m.c.length - (0 + m.c.length) = 0 := by omega
  have z2 : m.p.length - (0 + m.p.length) = 0 := by omega
  refine And.intro ⟨ht, by decide, by decide⟩ ?_
  intro t htt q1 hq1
  have htt : 0 ≤ t ∧ t < 9 := htt
  obtain h | h | h | h | h | h | h | h | h : t = 0 ∨ t = 1 ∨ t = 2 ∨ t = 3 ∨ t = 4 ∨ t = 5 ∨ t = 6 ∨ t = 7 ∨ t = 8 := by omega
  · subst h
    repeat' (first | (apply And.intro <;> intro hc <;> (first | exact Bool.noConfusion hc | (simp only [decide_eq_true_eq, decide_eq_false_iff_not, Bool.not_eq_true', Bool.not_eq_false', beq_iff_eq, beq_eq_false_iff_ne, bne_iff_ne, bne_eq_false_iff_eq, Bool.true_eq_false, Bool.false_eq_true] at hc) | skip)) | (refine And.intro (by first | exact trivial | decide | omega | (dsimp only; omega) | exact fun _ _ => rfl | exact ⟨by assumption, by first | exact trivial | decide | omega | (dsimp only; omega)⟩) ?_) | (apply And.intro) | (intro s hs))
    rename_i v hv
    refine ⟨({ m with a := { m.a with ty := IntKind.u8.wrap v } }, _), ⟨⟨⟨{ hr.a with ty := u8r _ }, hr.p, hr.c, hr.z⟩, by dsimp only; omega, by dsimp only; omega⟩, by assumption⟩, ⟨leF_e (leE_msg rfl (fun j hj => ?_) ?_ ?_ (fun j hj => ?_)), tapeN_le⟩⟩
    · iterate 27 (rcases j with _ | j; · first | exact leC_int rfl | exact leC_bool rfl)
      exact absurd hj (by omega)
    · exact leC_sl (fun _ => rfl) rfl rfl fun i _ j _ => leC_cell rfl
    · exact leC_sl (fun _ => rfl) rfl rfl fun i _ j _ => leC_cell rfl
    · iterate 19 (rcases j with _ | j; · first | exact leC_int rfl | exact leC_bool rfl)
      exact absurd hj (by omega)
  · subst h
    repeat' (first | (apply And.intro <;> intro hc <;> (first | exact Bool.noConfusion hc | (simp only [decide_eq_true_eq, decide_eq_false_iff_not, Bool.not_eq_true', Bool.not_eq_false', beq_iff_eq, beq_eq_false_iff_ne, bne_iff_ne, bne_eq_false_iff_eq, Bool.true_eq_false, Bool.false_eq_true, ne_eq, not_true_eq_false] at hc <;> first | exact absurd rfl hc | skip) | skip)) | (refine And.intro (by first | exact trivial | decide | omega | (dsimp only; omega) | exact fun _ _ => rfl | exact ⟨by assumption, by first | exact trivial | decide | omega | (dsimp only; omega)⟩) ?_) | (apply And.intro) | (intro s hs; (first | (have hv : 0 ≤ s ∧ s < 16 := hs; clear hs; (obtain h | h | h | h | h | h | h | h | h | h | h | h | h | h | h | h : s = 0 ∨ s = 1 ∨ s = 2 ∨ s = 3 ∨ s = 4 ∨ s = 5 ∨ s = 6 ∨ s = 7 ∨ s = 8 ∨ s = 9 ∨ s = 10 ∨ s = 11 ∨ s = 12 ∨ s = 13 ∨ s = 14 ∨ s = 15 := (by omega)) <;> subst h) | skip)))
    · refine ⟨({ m with a := { m.a with tgt := fun i => if i.1 = 0 then IntKind.u8.wrap (m.a.tgt i + 1) else m.a.tgt i } }, _), ⟨⟨⟨{ hr.a with tgt := ⟨fun i => ?_⟩ }, hr.p, hr.c, hr.z⟩, by dsimp only; omega, by dsimp only; omega⟩, by assumption⟩, ⟨leF_e (leE_msg rfl (fun j hj => ?_) ?_ ?_ (fun j hj => ?_)), tapeN_le⟩⟩
      · dsimp only
        split
        · exact u8r _
        · exact hr.a.tgt.q i
      · iterate 27 (rcases j with _ | j; · first | exact leC_int rfl | exact leC_bool rfl)
        exact absurd hj (by omega)
      · exact leC_sl (fun _ => rfl) rfl rfl fun i _ j _ => leC_cell rfl
      · exact leC_sl (fun _ => rfl) rfl rfl fun i _ j _ => leC_cell rfl
      · iterate 19 (rcases j with _ | j; · first | exact leC_int rfl | exact leC_bool rfl)
        exact absurd hj (by omega)
    · refine ⟨({ m with a := { m.a with tgt := fun i => if i.1 = 1 then IntKind.u8.wrap (m.a.tgt i + 1) else m.a.tgt i } }, _), ⟨⟨⟨{ hr.a with tgt := ⟨fun i => ?_⟩ }, hr.p, hr.c, hr.z⟩, by dsimp only; omega, by dsimp only; omega⟩, by assumption⟩, ⟨leF_e (leE_msg rfl (fun j hj => ?_) ?_ ?_ (fun j hj => ?_)), tapeN_le⟩⟩
      · dsimp only
        split
        · exact u8r _
        · exact hr.a.tgt.q i
      · iterate 27 (rcases j with _ | j; · first | exact leC_int rfl | exact leC_bool rfl)
        exact absurd hj (by omega)
      · exact leC_sl (fun _ => rfl) rfl rfl fun i _ j _ => leC_cell rfl
      · exact leC_sl (fun _ => rfl) rfl rfl fun i _ j _ => leC_cell rfl
      · iterate 19 (rcases j with _ | j; · first | exact leC_int rfl | exact leC_bool rfl)
        exact absurd hj (by omega)
    · refine ⟨({ m with a := { m.a with tgt := fun i => if i.1 = 2 then IntKind.u8.wrap (m.a.tgt i + 1) else m.a.tgt i } }, _), ⟨⟨⟨{ hr.a with tgt := ⟨fun i => ?_⟩ }, hr.p, hr.c, hr.z⟩, by dsimp only; omega, by dsimp only; omega⟩, by assumption⟩, ⟨leF_e (leE_msg rfl (fun j hj => ?_) ?_ ?_ (fun j hj => ?_)), tapeN_le⟩⟩
      · dsimp only
        split
        · exact u8r _
        · exact hr.a.tgt.q i
      · iterate 27 (rcases j with _ | j; · first | exact leC_int rfl | exact leC_bool rfl)
        exact absurd hj (by omega)
      · exact leC_sl (fun _ => rfl) rfl rfl fun i _ j _ => leC_cell rfl
      · exact leC_sl (fun _ => rfl) rfl rfl fun i _ j _ => leC_cell rfl
      · iterate 19 (rcases j with _ | j; · first | exact leC_int rfl | exact leC_bool rfl)
        exact absurd hj (by omega)
    · refine ⟨({ m with a := { m.a with tgt := fun i => if i.1 = 3 then IntKind.u8.wrap (m.a.tgt i + 1) else m.a.tgt i } }, _), ⟨⟨⟨{ hr.a with tgt := ⟨fun i => ?_⟩ }, hr.p, hr.c, hr.z⟩, by dsimp only; omega, by dsimp only; omega⟩, by assumption⟩, ⟨leF_e (leE_msg rfl (fun j hj => ?_) ?_ ?_ (fun j hj => ?_)), tapeN_le⟩⟩
      · dsimp only
        split
        · exact u8r _
        · exact hr.a.tgt.q i
      · iterate 27 (rcases j with _ | j; · first | exact leC_int rfl | exact leC_bool rfl)
        exact absurd hj (by omega)
      · exact leC_sl (fun _ => rfl) rfl rfl fun i _ j _ => leC_cell rfl
      · exact leC_sl (fun _ => rfl) rfl rfl fun i _ j _ => leC_cell rfl
      · iterate 19 (rcases j with _ | j; · first | exact leC_int rfl | exact leC_bool rfl)
        exact absurd hj (by omega)
    · refine ⟨({ m with a := { m.a with tgt := fun i => if i.1 = 4 then IntKind.u8.wrap (m.a.tgt i + 1) else m.a.tgt i } }, _), ⟨⟨⟨{ hr.a with tgt := ⟨fun i => ?_⟩ }, hr.p, hr.c, hr.z⟩, by dsimp only; omega, by dsimp only; omega⟩, by assumption⟩, ⟨leF_e (leE_msg rfl (fun j hj => ?_) ?_ ?_ (fun j hj => ?_)), tapeN_le⟩⟩
      · dsimp only
        split
        · exact u8r _
        · exact hr.a.tgt.q i
      · iterate 27 (rcases j with _ | j; · first | exact leC_int rfl | exact leC_bool rfl)
        exact absurd hj (by omega)
      · exact leC_sl (fun _ => rfl) rfl rfl fun i _ j _ => leC_cell rfl
      · exact leC_sl (fun _ => rfl) rfl rfl fun i _ j _ => leC_cell rfl
      · iterate 19 (rcases j with _ | j; · first | exact leC_int rfl | exact leC_bool rfl)
        exact absurd hj (by omega)
    · refine ⟨({ m with a := { m.a with tgt := fun i => if i.1 = 5 then IntKind.u8.wrap (m.a.tgt i + 1) else m.a.tgt i } }, _), ⟨⟨⟨{ hr.a with tgt := ⟨fun i => ?_⟩ }, hr.p, hr.c, hr.z⟩, by dsimp only; omega, by dsimp only; omega⟩, by assumption⟩, ⟨leF_e (leE_msg rfl (fun j hj => ?_) ?_ ?_ (fun j hj => ?_)), tapeN_le⟩⟩
      · dsimp only
        split
        · exact u8r _
        · exact hr.a.tgt.q i
      · iterate 27 (rcases j with _ | j; · first | exact leC_int rfl | exact leC_bool rfl)
        exact absurd hj (by omega)
      · exact leC_sl (fun _ => rfl) rfl rfl fun i _ j _ => leC_cell rfl
      · exact leC_sl (fun _ => rfl) rfl rfl fun i _ j _ => leC_cell rfl
      · iterate 19 (rcases j with _ | j; · first | exact leC_int rfl | exact leC_bool rfl)
        exact absurd hj (by omega)
    · refine ⟨({ m with a := { m.a with tgt := fun i => if i.1 = 6 then IntKind.u8.wrap (m.a.tgt i + 1) else m.a.tgt i } }, _), ⟨⟨⟨{ hr.a with tgt := ⟨fun i => ?_⟩ }, hr.p, hr.c, hr.z⟩, by dsimp only; omega, by dsimp only; omega⟩, by assumption⟩, ⟨leF_e (leE_msg rfl (fun j hj => ?_) ?_ ?_ (fun j hj => ?_)), tapeN_le⟩⟩
      · dsimp only
        split
        · exact u8r _
        · exact hr.a.tgt.q i
      · iterate 27 (rcases j with _ | j; · first | exact leC_int rfl | exact leC_bool rfl)
        exact absurd hj (by omega)
      · exact leC_sl (fun _ => rfl) rfl rfl fun i _ j _ => leC_cell rfl
      · exact leC_sl (fun _ => rfl) rfl rfl fun i _ j _ => leC_cell rfl
      · iterate 19 (rcases j with _ | j; · first | exact leC_int rfl | exact leC_bool rfl)
        exact absurd hj (by omega)
    · refine ⟨({ m with a := { m.a with tgt := fun i => if i.1 = 7 then IntKind.u8.wrap (m.a.tgt i + 1) else m.a.tgt i } }, _), ⟨⟨⟨{ hr.a with tgt := ⟨fun i => ?_⟩ }, hr.p, hr.c, hr.z⟩, by dsimp only; omega, by dsimp only; omega⟩, by assumption⟩, ⟨leF_e (leE_msg rfl (fun j hj => ?_) ?_ ?_ (fun j hj => ?_)), tapeN_le⟩⟩
      · dsimp only
        split
        · exact u8r _
        · exact hr.a.tgt.q i
      · iterate 27 (rcases j with _ | j; · first | exact leC_int rfl | exact leC_bool rfl)
        exact absurd hj (by omega)
      · exact leC_sl (fun _ => rfl) rfl rfl fun i _ j _ => leC_cell rfl
      · exact leC_sl (fun _ => rfl) rfl rfl fun i _ j _ => leC_cell rfl
      · iterate 19 (rcases j with _ | j; · first | exact leC_int rfl | exact leC_bool rfl)
        exact absurd hj (by omega)
    · refine ⟨({ m with a := { m.a with tgt := fun i => if i.1 = 8 then IntKind.u8.wrap (m.a.tgt i + 1) else m.a.tgt i } }, _), ⟨⟨⟨{ hr.a with tgt := ⟨fun i => ?_⟩ }, hr.p, hr.c, hr.z⟩, by dsimp only; omega, by dsimp only; omega⟩, by assumption⟩, ⟨leF_e (leE_msg rfl (fun j hj => ?_) ?_ ?_ (fun j hj => ?_)), tapeN_le⟩⟩
      · dsimp only
        split
        · exact u8r _
        · exact hr.a.tgt.q i
      · iterate 27 (rcases j with _ | j; · first | exact leC_int rfl | exact leC_bool rfl)
        exact absurd hj (by omega)
      · exact leC_sl (fun _ => rfl) rfl rfl fun i _ j _ => leC_cell rfl
      · exact leC_sl (fun _ => rfl) rfl rfl fun i _ j _ => leC_cell rfl
      · iterate 19 (rcases j with _ | j; · first | exact leC_int rfl | exact leC_bool rfl)
        exact absurd hj (by omega)
    · refine ⟨({ m with a := { m.a with tgt := fun i => if i.1 = 9 then IntKind.u8.wrap (m.a.tgt i + 1) else m.a.tgt i } }, _), ⟨⟨⟨{ hr.a with tgt := ⟨fun i => ?_⟩ }, hr.p, hr.c, hr.z⟩, by dsimp only; omega, by dsimp only; omega⟩, by assumption⟩, ⟨leF_e (leE_msg rfl (fun j hj => ?_) ?_ ?_ (fun j hj => ?_)), tapeN_le⟩⟩
      · dsimp only
        split
        · exact u8r _
        · exact hr.a.tgt.q i
      · iterate 27 (rcases j with _ | j; · first | exact leC_int rfl | exact leC_bool rfl)
        exact absurd hj (by omega)
      · exact leC_sl (fun _ => rfl) rfl rfl fun i _ j _ => leC_cell rfl
      · exact leC_sl (fun _ => rfl) rfl rfl fun i _ j _ => leC_cell rfl
      · iterate 19 (rcases j with _ | j; · first | exact leC_int rfl | exact leC_bool rfl)
        exact absurd hj (by omega)
    · refine ⟨({ m with a := { m.a with tgt := fun i => if i.1 = 10 then IntKind.u8.wrap (m.a.tgt i + 1) else m.a.tgt i } }, _), ⟨⟨⟨{ hr.a with tgt := ⟨fun i => ?_⟩ }, hr.p, hr.c, hr.z⟩, by dsimp only; omega, by dsimp only; omega⟩, by assumption⟩, ⟨leF_e (leE_msg rfl (fun j hj => ?_) ?_ ?_ (fun j hj => ?_)), tapeN_le⟩⟩
      · dsimp only
        split
        · exact u8r _
        · exact hr.a.tgt.q i
      · iterate 27 (rcases j with _ | j; · first | exact leC_int rfl | exact leC_bool rfl)
        exact absurd hj (by omega)
      · exact leC_sl (fun _ => rfl) rfl rfl fun i _ j _ => leC_cell rfl
      · exact leC_sl (fun _ => rfl) rfl rfl fun i _ j _ => leC_cell rfl
      · iterate 19 (rcases j with _ | j; · first | exact leC_int rfl | exact leC_bool rfl)
        exact absurd hj (by omega)
    · refine ⟨({ m with a := { m.a with tgt := fun i => if i.1 = 11 then IntKind.u8.wrap (m.a.tgt i + 1) else m.a.tgt i } }, _), ⟨⟨⟨{ hr.a with tgt := ⟨fun i => ?_⟩ }, hr.p, hr.c, hr.z⟩, by dsimp only; omega, by dsimp only; omega⟩, by assumption⟩, ⟨leF_e (leE_msg rfl (fun j hj => ?_) ?_ ?_ (fun j hj => ?_)), tapeN_le⟩⟩
      · dsimp only
        split
        · exact u8r _
        · exact hr.a.tgt.q i
      · iterate 27 (rcases j with _ | j; · first | exact leC_int rfl | exact leC_bool rfl)
        exact absurd hj (by omega)
      · exact leC_sl (fun _ => rfl) rfl rfl fun i _ j _ => leC_cell rfl
      · exact leC_sl (fun _ => rfl) rfl rfl fun i _ j _ => leC_cell rfl
      · iterate 19 (rcases j with _ | j; · first | exact leC_int rfl | exact leC_bool rfl)
        exact absurd hj (by omega)
    · refine ⟨({ m with a := { m.a with tgt := fun i => if i.1 = 12 then IntKind.u8.wrap (m.a.tgt i + 1) else m.a.tgt i } }, _), ⟨⟨⟨{ hr.a with tgt := ⟨fun i => ?_⟩ }, hr.p, hr.c, hr.z⟩, by dsimp only; omega, by dsimp only; omega⟩, by assumption⟩, ⟨leF_e (leE_msg rfl (fun j hj => ?_) ?_ ?_ (fun j hj => ?_)), tapeN_le⟩⟩
      · dsimp only
        split
        · exact u8r _
        · exact hr.a.tgt.q i
      · iterate 27 (rcases j with _ | j; · first | exact leC_int rfl | exact leC_bool rfl)
        exact absurd hj (by omega)
      · exact leC_sl (fun _ => rfl) rfl rfl fun i _ j _ => leC_cell rfl
      · exact leC_sl (fun _ => rfl) rfl rfl fun i _ j _ => leC_cell rfl
      · iterate 19 (rcases j with _ | j; · first | exact leC_int rfl | exact leC_bool rfl)
        exact absurd hj (by omega)
    · refine ⟨({ m with a := { m.a with tgt := fun i => if i.1 = 13 then IntKind.u8.wrap (m.a.tgt i + 1) else m.a.tgt i } }, _), ⟨⟨⟨{ hr.a with tgt := ⟨fun i => ?_⟩ }, hr.p, hr.c, hr.z⟩, by dsimp only; omega, by dsimp only; omega⟩, by assumption⟩, ⟨leF_e (leE_msg rfl (fun j hj => ?_) ?_ ?_ (fun j hj => ?_)), tapeN_le⟩⟩
      · dsimp only
        split
        · exact u8r _
        · exact hr.a.tgt.q i
      · iterate 27 (rcases j with _ | j; · first | exact leC_int rfl | exact leC_bool rfl)
        exact absurd hj (by omega)
      · exact leC_sl (fun _ => rfl) rfl rfl fun i _ j _ => leC_cell rfl
      · exact leC_sl (fun _ => rfl) rfl rfl fun i _ j _ => leC_cell rfl
      · iterate 19 (rcases j with _ | j; · first | exact leC_int rfl | exact leC_bool rfl)
        exact absurd hj (by omega)
    · refine ⟨({ m with a := { m.a with tgt := fun i => if i.1 = 14 then IntKind.u8.wrap (m.a.tgt i + 1) else m.a.tgt i } }, _), ⟨⟨⟨{ hr.a with tgt := ⟨fun i => ?_⟩ }, hr.p, hr.c, hr.z⟩, by dsimp only; omega, by dsimp only; omega⟩, by assumption⟩, ⟨leF_e (leE_msg rfl (fun j hj => ?_) ?_ ?_ (fun j hj => ?_)), tapeN_le⟩⟩
      · dsimp only
        split
        · exact u8r _
        · exact hr.a.tgt.q i
      · iterate 27 (rcases j with _ | j; · first | exact leC_int rfl | exact leC_bool rfl)
        exact absurd hj (by omega)
      · exact leC_sl (fun _ => rfl) rfl rfl fun i _ j _ => leC_cell rfl
      · exact leC_sl (fun _ => rfl) rfl rfl fun i _ j _ => leC_cell rfl
      · iterate 19 (rcases j with _ | j; · first | exact leC_int rfl | exact leC_bool rfl)
        exact absurd hj (by omega)
    · refine ⟨({ m with a := { m.a with tgt := fun i => if i.1 = 15 then IntKind.u8.wrap (m.a.tgt i + 1) else m.a.tgt i } }, _), ⟨⟨⟨{ hr.a with tgt := ⟨fun i => ?_⟩ }, hr.p, hr.c, hr.z⟩, by dsimp only; omega, by dsimp only; omega⟩, by assumption⟩, ⟨leF_e (leE_msg rfl (fun j hj => ?_) ?_ ?_ (fun j hj => ?_)), tapeN_le⟩⟩
      · dsimp only
        split
        · exact u8r _
        · exact hr.a.tgt.q i
      · iterate 27 (rcases j with _ | j; · first | exact leC_int rfl | exact leC_bool rfl)
        exact absurd hj (by omega)
      · exact leC_sl (fun _ => rfl) rfl rfl fun i _ j _ => leC_cell rfl
      · exact leC_sl (fun _ => rfl) rfl rfl fun i _ j _ => leC_cell rfl
      · iterate 19 (rcases j with _ | j; · first | exact leC_int rfl | exact leC_bool rfl)
        exact absurd hj (by omega)
  · subst h
    repeat' (first | (apply And.intro <;> intro hc <;> (first | exact Bool.noConfusion hc | (simp only [decide_eq_true_eq, decide_eq_false_iff_not, Bool.not_eq_true', Bool.not_eq_false', beq_iff_eq, beq_eq_false_iff_ne, bne_iff_ne, bne_eq_false_iff_eq, Bool.true_eq_false, Bool.false_eq_true] at hc) | skip)) | (refine And.intro (by first | exact trivial | decide | omega | (dsimp only; omega) | exact fun _ _ => rfl | exact ⟨by assumption, by first | exact trivial | decide | omega | (dsimp only; omega)⟩) ?_) | (apply And.intro) | (intro s hs))
    refine ⟨({ m with a := { m.a with hops := IntKind.u8.wrap (m.a.hops + 1) } }, _), ⟨⟨⟨{ hr.a with hops := u8r _ }, hr.p, hr.c, hr.z⟩, by dsimp only; omega, by dsimp only; omega⟩, by assumption⟩, ⟨leF_e (leE_msg rfl (fun j hj => ?_) ?_ ?_ (fun j hj => ?_)), tapeN_le⟩⟩
    · iterate 27 (rcases j with _ | j; · first | exact leC_int rfl | exact leC_bool rfl)
      exact absurd hj (by omega)
    · exact leC_sl (fun _ => rfl) rfl rfl fun i _ j _ => leC_cell rfl
    · exact leC_sl (fun _ => rfl) rfl rfl fun i _ j _ => leC_cell rfl
    · iterate 19 (rcases j with _ | j; · first | exact leC_int rfl | exact leC_bool rfl)
      exact absurd hj (by omega)
  · subst h
    repeat' (first | (apply And.intro <;> intro hc <;> (first | exact Bool.noConfusion hc | (simp only [decide_eq_true_eq, decide_eq_false_iff_not, Bool.not_eq_true', Bool.not_eq_false', beq_iff_eq, beq_eq_false_iff_ne, bne_iff_ne, bne_eq_false_iff_eq, Bool.true_eq_false, Bool.false_eq_true] at hc) | skip)) | (refine And.intro (by first | exact trivial | decide | omega | (dsimp only; omega) | exact fun _ _ => rfl | exact ⟨by assumption, by first | exact trivial | decide | omega | (dsimp only; omega)⟩) ?_) | (apply And.intro) | (intro s hs))
    refine ⟨({ m with a := { m.a with hasO := !m.a.hasO } }, _), ⟨⟨⟨{ hr.a with }, hr.p, hr.c, hr.z⟩, by dsimp only; omega, by dsimp only; omega⟩, by assumption⟩, ⟨leF_e (leE_msg rfl (fun j hj => ?_) ?_ ?_ (fun j hj => ?_)), tapeN_le⟩⟩
    · iterate 27 (rcases j with _ | j; · first | exact leC_int rfl | exact leC_bool rfl)
      exact absurd hj (by omega)
    · exact leC_sl (fun _ => rfl) rfl rfl fun i _ j _ => leC_cell rfl
    · exact leC_sl (fun _ => rfl) rfl rfl fun i _ j _ => leC_cell rfl
    · iterate 19 (rcases j with _ | j; · first | exact leC_int rfl | exact leC_bool rfl)
      exact absurd hj (by omega)
  · subst h
    repeat' (first | (apply And.intro <;> intro hc <;> (first | exact Bool.noConfusion hc | (simp only [decide_eq_true_eq, decide_eq_false_iff_not, Bool.not_eq_true', Bool.not_eq_false', beq_iff_eq, beq_eq_false_iff_ne, bne_iff_ne, bne_eq_false_iff_eq, Bool.true_eq_false, Bool.false_eq_true] at hc) | skip)) | (refine And.intro (by first | exact trivial | decide | omega | (dsimp only; omega) | exact fun _ _ => rfl | exact ⟨by assumption, by first | exact trivial | decide | omega | (dsimp only; omega)⟩) ?_) | (apply And.intro) | (intro s hs))
    refine ⟨({ m with z := { m.z with hasB := !m.z.hasB } }, _), ⟨⟨⟨hr.a, hr.p, hr.c, { hr.z with }⟩, by dsimp only; omega, by dsimp only; omega⟩, by assumption⟩, ⟨leF_e (leE_msg rfl (fun j hj => ?_) ?_ ?_ (fun j hj => ?_)), tapeN_le⟩⟩
    · iterate 27 (rcases j with _ | j; · first | exact leC_int rfl | exact leC_bool rfl)
      exact absurd hj (by omega)
    · exact leC_sl (fun _ => rfl) rfl rfl fun i _ j _ => leC_cell rfl
    · exact leC_sl (fun _ => rfl) rfl rfl fun i _ j _ => leC_cell rfl
    · iterate 19 (rcases j with _ | j; · first | exact leC_int rfl | exact leC_bool rfl)
      exact absurd hj (by omega)
  · subst h
    repeat' (first | (apply And.intro <;> intro hc <;> (first | exact Bool.noConfusion hc | (simp only [decide_eq_true_eq, decide_eq_false_iff_not, Bool.not_eq_true', Bool.not_eq_false', beq_iff_eq, beq_eq_false_iff_ne, bne_iff_ne, bne_eq_false_iff_eq, Bool.true_eq_false, Bool.false_eq_true] at hc) | skip)) | (refine And.intro (by first | exact trivial | decide | omega | (dsimp only; omega) | exact fun _ _ => rfl | exact ⟨by assumption, by first | exact trivial | decide | omega | (dsimp only; omega)⟩) ?_) | (apply And.intro) | (intro s hs))
    rename_i v1 hv1 _ _ v2 hv2 _ _ v3 hv3
    refine ⟨({ m with a := { m.a with mode := v1, short := IntKind.u16.wrap (IntKind.i64.wrap (65535 * v2)), eui := IntKind.u64.wrap v3 } }, _), ⟨⟨⟨{ hr.a with short := wr16 _, eui := wr64 _ }, hr.p, hr.c, hr.z⟩, by dsimp only; omega, by dsimp only; omega⟩, by assumption⟩, ⟨leF_e (leE_msg rfl (fun j hj => ?_) ?_ ?_ (fun j hj => ?_)), tapeN_le⟩⟩
    · iterate 27 (rcases j with _ | j; · first | exact leC_int rfl | exact leC_bool rfl)
      exact absurd hj (by omega)
    · exact leC_sl (fun _ => rfl) rfl rfl fun i _ j _ => leC_cell rfl
    · exact leC_sl (fun _ => rfl) rfl rfl fun i _ j _ => leC_cell rfl
    · iterate 19 (rcases j with _ | j; · first | exact leC_int rfl | exact leC_bool rfl)
      exact absurd hj (by omega)
  · subst h
    repeat' (first | (apply And.intro <;> intro hc <;> (first | exact Bool.noConfusion hc | (simp only [decide_eq_true_eq, decide_eq_false_iff_not, Bool.not_eq_true', Bool.not_eq_false', beq_iff_eq, beq_eq_false_iff_ne, bne_iff_ne, bne_eq_false_iff_eq, Bool.true_eq_false, Bool.false_eq_true] at hc) | skip)) | (refine And.intro (by first | exact trivial | decide | omega | (dsimp only; omega) | exact fun _ _ => rfl | exact ⟨by assumption, by first | exact trivial | decide | omega | (dsimp only; omega)⟩) ?_) | (apply And.intro) | (intro s hs))
    rename_i v hv q2 hq2 p hpp
    refine ⟨({ m with c := m.c ++ [⟨IntKind.i64.wrap (v - 1), p.ip, p.bits, false, 0⟩] }, _), ⟨⟨⟨hr.a, hr.p, fun x hx => ?_, hr.z⟩, by dsimp only; omega, by dsimp only; rw [List.length_append]; simp only [List.length_cons, List.length_nil]; omega⟩, by assumption⟩, ⟨leF_e (leE_msg rfl (fun j hj => ?_) ?_ ?_ (fun j hj => ?_)), tapeN_le⟩⟩
    · rcases List.mem_append.1 hx with hx | hx
      · exact hr.c x hx
      · rw [List.mem_singleton.1 hx]; exact ⟨hpp.2, by dsimp only; decide⟩
    · iterate 27 (rcases j with _ | j; · first | exact leC_int rfl | exact leC_bool rfl)
      exact absurd hj (by omega)
    · exact leC_sl (fun _ => rfl) rfl rfl fun i _ j _ => leC_cell rfl
    · refine leC_snoc_fin (E := eCI) (L := m.c) (x := ⟨IntKind.i64.wrap (v - 1), p.ip, p.bits, false, 0⟩) rfl rfl (by first | rfl | (simp only [Nat.zero_add]; done) | omega) (by first | rfl | omega) (fun i hi j hj => selC_in (Nat.ble_eq_true_of_le (by omega)) (selC_out rfl (by rw [Nat.sub_zero]; exact (Elem.flat _ _ _).le))) ?_
      repeat' (first | exact trivial | (refine selC_out (by rw [Nat.zero_add]; exact blt_self _) ?_; (first | rw [z1] | rw [z2] | rw [z3]); first | exact leC_int rfl | exact leC_bool rfl) | apply And.intro)
    · iterate 19 (rcases j with _ | j; · first | exact leC_int rfl | exact leC_bool rfl)
      exact absurd hj (by omega)
  · subst h
    repeat' (first | (apply And.intro <;> intro hc <;> (first | exact Bool.noConfusion hc | (simp only [decide_eq_true_eq, decide_eq_false_iff_not, Bool.not_eq_true', Bool.not_eq_false', beq_iff_eq, beq_eq_false_iff_ne, bne_iff_ne, bne_eq_false_iff_eq, Bool.true_eq_false, Bool.false_eq_true] at hc) | skip)) | (refine And.intro (by first | exact trivial | decide | omega | (dsimp only; omega) | exact fun _ _ => rfl | exact ⟨by assumption, by first | exact trivial | decide | omega | (dsimp only; omega)⟩) ?_) | (apply And.intro) | (intro s hs))
    rename_i p hpp q2 hq2 v hv
    refine ⟨({ m with p := m.p ++ [⟨p.ip, IntKind.i64.wrap (p.bits + IntKind.i64.wrap (v - 1)), false, false, 0⟩] }, _), ⟨⟨⟨hr.a, fun x hx => ?_, hr.c, hr.z⟩, by dsimp only; rw [List.length_append]; simp only [List.length_cons, List.length_nil]; omega, by dsimp only; omega⟩, by assumption⟩, ⟨leF_e (leE_msg rfl (fun j hj => ?_) ?_ ?_ (fun j hj => ?_)), tapeN_le⟩⟩
    · rcases List.mem_append.1 hx with hx | hx
      · exact hr.p x hx
      · rw [List.mem_singleton.1 hx]; exact ⟨hpp.2, by dsimp only; decide⟩
    · iterate 27 (rcases j with _ | j; · first | exact leC_int rfl | exact leC_bool rfl)
      exact absurd hj (by omega)
    · refine leC_snoc_fin (E := ePI) (L := m.p) (x := ⟨p.ip, IntKind.i64.wrap (p.bits + IntKind.i64.wrap (v - 1)), false, false, 0⟩) rfl rfl (by first | rfl | (simp only [Nat.zero_add]; done) | omega) (by first | rfl | omega) (fun i hi j hj => selC_in (Nat.ble_eq_true_of_le (by omega)) (selC_out rfl (by rw [Nat.sub_zero]; exact (Elem.flat _ _ _).le))) ?_
      repeat' (first | exact trivial | (refine selC_out (by rw [Nat.zero_add]; exact blt_self _) ?_; (first | rw [z1] | rw [z2] | rw [z3]); first | exact leC_int rfl | exact leC_bool rfl) | apply And.intro)
    · exact leC_sl (fun _ => rfl) rfl rfl fun i _ j _ => leC_cell rfl
    · iterate 19 (rcases j with _ | j; · first | exact leC_int rfl | exact leC_bool rfl)
      exact absurd hj (by omega)
  · subst h
    repeat' (first | (apply And.intro <;> intro hc <;> (first | exact Bool.noConfusion hc | (simp only [decide_eq_true_eq, decide_eq_false_iff_not, Bool.not_eq_true', Bool.not_eq_false', beq_iff_eq, beq_eq_false_iff_ne, bne_iff_ne, bne_eq_false_iff_eq, Bool.true_eq_false, Bool.false_eq_true] at hc) | skip)) | (refine And.intro (by first | exact trivial | decide | omega | (dsimp only; omega) | exact fun _ _ => rfl | exact ⟨by assumption, by first | exact trivial | decide | omega | (dsimp only; omega)⟩) ?_) | (apply And.intro) | (intro s hs))
    conv => whnf
    refine loop_intro (mono_of LSp_ok) (fun s : SpL n l => (⟨[(0, one (.ptr 0 0 0 false)), (3, one (.ptr 1 0 0 false)), (4, one (.ptr 2 0 0 false)), (6, one (.int .i64 (s.P.length : Int)))], [(0, some (tapeN n (rI l) s.q)), (1, some (mER m s.P)), (2, some zEnt)], 3⟩ : Hd)) (fun s => 17 - s.P.length) (fun _ => rfl) ?_ ⟨m.p, _, hr.p, by omega, by assumption⟩ [] ⟨rfl, ⟨leF_ptr rfl, leF_ptr rfl, leF_ptr rfl, leF_int rfl, trivial⟩, ⟨rfl, tapeN_le⟩, ⟨rfl, ?_⟩, ⟨rfl, leN_zE⟩, trivial⟩
    · rintro ⟨P, q5, hP, hPn, ht5⟩
      dsimp only at hP hPn ht5 ⊢
      unfold mER
      have z3 : P.length - (0 + P.length) = 0 := by omega
      repeat' (first | (apply And.intro <;> intro hc <;> (first | exact Bool.noConfusion hc | (simp only [decide_eq_true_eq, decide_eq_false_iff_not, Bool.not_eq_true', Bool.not_eq_false', beq_iff_eq, beq_eq_false_iff_ne, bne_iff_ne, bne_eq_false_iff_eq, Bool.true_eq_false, Bool.false_eq_true] at hc) | skip)) | (refine And.intro (by first | exact trivial | decide | omega | (dsimp only; omega) | exact fun _ _ => rfl | exact ⟨by assumption, by first | exact trivial | decide | omega | (dsimp only; omega)⟩) ?_) | (apply And.intro) | (intro s hs))
      · rename_i v hv
        have hv : 0 ≤ v ∧ v < 2 := hv
        rw [IntWalk.i64_in _ (by omega)] at hc
        have w1 : IntKind.i64.wrap ((P.length : Int) + 1) = ((P ++ [(⟨fun _ => 0, 0, false, false, 0⟩ : PI)]).length : Int) := by
          rw [List.length_append, IntWalk.i64_in _ (by omega)]; simp only [List.length_cons, List.length_nil]; omega
        refine ⟨⟨P ++ [⟨fun _ => 0, 0, false, false, 0⟩], _, fun x hx => ?_, by rw [List.length_append]; simp only [List.length_cons, List.length_nil]; omega, by assumption⟩, [], ?_, rfl, ⟨leF_ptr rfl, leF_ptr rfl, leF_ptr rfl, leF_int w1, trivial⟩, ⟨rfl, tapeN_le⟩, ⟨rfl, leN_m48 rfl fun j hj => ?_⟩, ⟨rfl, leN_zE⟩, trivial⟩
        · rcases List.mem_append.1 hx with hx | hx
          · exact hP x hx
          · rw [List.mem_singleton.1 hx]; exact pir_0
        · dsimp only; rw [List.length_append]; simp only [List.length_cons, List.length_nil]; omega
        · iterate 27 (rcases j with _ | j; · first | exact leC_int rfl | exact leC_bool rfl)
          rcases j with _ | j
          · refine leC_snoc_fin (E := ePI) (L := P) (x := ⟨fun _ => 0, 0, false, false, 0⟩) rfl rfl (by first | rfl | (simp only [Nat.zero_add]; done) | omega) (by first | rfl | omega) (fun i hi j hj => selC_in (Nat.ble_eq_true_of_le (by omega)) (selC_out rfl (by rw [Nat.sub_zero]; exact (Elem.flat _ _ _).le))) ?_
            repeat' (first | exact trivial | (refine selC_out (by rw [Nat.zero_add]; exact blt_self _) ?_; (first | rw [z1] | rw [z2] | rw [z3]); first | exact leC_int rfl | exact leC_bool rfl) | apply And.intro)
          iterate 20 (rcases j with _ | j; · first | exact leC_int rfl | exact leC_bool rfl | exact leC_cl (cl_slR eCI m.c))
          exact absurd hj (by omega)
      · refine ⟨({ m with p := P }, _), ⟨⟨⟨hr.a, hP, hr.c, hr.z⟩, by dsimp only; omega, by dsimp only; omega⟩, by assumption⟩, ⟨leF_e (leE_msg rfl (fun j hj => ?_) ?_ ?_ (fun j hj => ?_)), tapeN_le⟩⟩
        · iterate 27 (rcases j with _ | j; · first | exact leC_int rfl | exact leC_bool rfl)
          exact absurd hj (by omega)
        · exact leC_sl (fun _ => rfl) rfl rfl fun i _ j _ => leC_cell rfl
        · exact leC_sl (fun _ => rfl) rfl rfl fun i _ j _ => leC_cell rfl
        · iterate 19 (rcases j with _ | j; · first | exact leC_int rfl | exact leC_bool rfl)
          exact absurd hj (by omega)
    · refine leN_m48 rfl fun j hj => ?_
      iterate 48 (rcases j with _ | j; · first | exact leC_int rfl | exact leC_bool rfl | exact leC_cl (cl_slR ePI m.p) | exact leC_cl (cl_slR eCI m.c))
      exact absurd hj (by omega)
abbrev spoilE : Entry := tapeE (AC.cons cMsgT AC.nil) (fun a => SpI a.1) (fun a (m : Msg) => SpO m) (fun m => .e (msgR m))
theorem spoilE_ok : EntOk Try.prog 10 spoilE := tapeE_ok ⟨_, Try.func10, rfl, by kernel_rfl⟩ fun n l q a ht h => spoil_ok n l q a.1 ht h
end Go.Proofs.Ythbhidfohdipnaa.AX

/- DiscoveryForms, by AX2: the law returns true. -/
namespace Go.Proofs.Ythbhidfohdipnaa.AX
open Go.RowKit
set_option linter.unusedVariables false
set_option linter.unusedSimpArgs false
def LDf : CsL := (10, some spoilE) :: (14, some rvalE2) :: (17, some dsumE) :: (15, some sameE) :: LDz
theorem LDf_ok : AllOk Try.prog LDf := ⟨spoilE_ok, pureE_ok ⟨_, Try.func14, rfl, by kernel_rfl⟩ fun a h => rvalid_ok2 a.1 h.1 h.2.1 h.2.2, (LDs_ok).1, sameE_ok, LDz_ok⟩
structure FmI (m : Msg) : Prop where
  r : MsgR m
  p : m.p.length ≤ 9223372036854775807
  c : m.c.length ≤ 9223372036854775807
theorem spI_at {M m : Msg} (h1 : M = m) (h : SpI m) : SpI M := by rw [h1]; exact h
theorem vl_at {s : Bool} {M m : Msg} (hs : s = validM M) (h1 : M = m) : s = validM m := by rw [hs, h1]
theorem dec_t {A B x : List Int} (h1 : A = x) (h2 : B = x) : decide (A = B) = true := by rw [h1, h2]; exact decide_eq_true rfl
theorem msg_rdI {L : List Msg} {i : Nat} {M : Msg} (e : L.getD i default = M) : (⟨eMA.rd fun q => msgC (L.getD i default).a (slR ePI (L.getD i default).p) (slR eCI (L.getD i default).c) (L.getD i default).z (0 + q), toL ePI (L.getD i default).p.length (rowF ePI (L.getD i default).p), toL eCI (L.getD i default).c.length (rowF eCI (L.getD i default).c), eMZ.rd fun q => msgC (L.getD i default).a (slR ePI (L.getD i default).p) (slR eCI (L.getD i default).c) (L.getD i default).z (0 + (29 + q))⟩ : Msg) = M := by rw [e]; exact msg_rd
def lsM (L : List Msg) : Ent := ⟨38, L.length, 48, false, fun i => msgC (L.getD i default).a (slR ePI (L.getD i default).p) (slR eCI (L.getD i default).c) (L.getD i default).z⟩
theorem leC_msgI {c : Wc} {m : Msg} {j : Nat} : LeC c (msgC m.a (slR ePI m.p) (slR eCI m.c) m.z j) (msgC m.a (slR ePI m.p) (slR eCI m.c) m.z j) := by
  by_cases ha : j < 27
  · rw [msgC_a ha]; exact (eMA.flat _ _).le
  · by_cases hz : 29 ≤ j
    · rw [msgC_z hz]; exact (eMZ.flat _ _).le
    · by_cases h7 : j = 27
      · subst h7; exact leC_sl (fun _ => rfl) rfl rfl fun i _ j _ => leC_cell rfl
      · have : j = 28 := by omega
        subst this; exact leC_sl (fun _ => rfl) rfl rfl fun i _ j _ => leC_cell rfl
theorem leN_ls4 {c : Wc} {L : List Msg} : LeN c ⟨38, 4, 48, false, fun i => msgC (L.getD i default).a (slR ePI (L.getD i default).p) (slR eCI (L.getD i default).c) (L.getD i default).z⟩ ⟨38, 4, 48, false, fun i => msgC (L.getD i default).a (slR ePI (L.getD i default).p) (slR eCI (L.getD i default).c) (L.getD i default).z⟩ := ⟨rfl, rfl, rfl, rfl, fun i hi j hj => leC_msgI⟩
theorem isK_row (l : List Int) (k : Nat) : eB.ok ((fun k j => rowF eB l (0 + k) j) k) = true := rfl
set_option maxHeartbeats 8000000 in
set_option maxRecDepth 20000 in
theorem dforms_ok (raw : Msg) (hr : FmI raw) (src dst : Fin 16 → Int) (hs0 : byteOk src) (hd0 : byteOk dst) (n : Nat) (l : List Int) (hl : rngL l) (b : List Int) (hb : BL b) (hbl : b.length ≤ 140737488355000) : PureOk Try.prog 3 [.e (msgR raw), (cE (eA .u8 16)).enc src, (cE (eA .u8 16)).enc dst, .e (.c (.sl true n 1 (rI l))), .e (.c (.sl true b.length 1 (rowF eB b)))] (cB.enc true) := by
  have g1 : True := trivial
  refine pure_intro (wd := 1) (Q := mkQ LDf) (by decide) tysOk (q_of LDf_ok) mixed Try.func3 rfl _ (by show 5 ≤ _; decide) _ ?_
  repeat' (first | (apply And.intro <;> intro hc <;> (first | exact Bool.noConfusion hc | (simp only [decide_eq_true_eq, decide_eq_false_iff_not, Bool.not_eq_true', Bool.not_eq_false', beq_iff_eq, beq_eq_false_iff_ne, bne_iff_ne, bne_eq_false_iff_eq, Bool.true_eq_false, Bool.false_eq_true] at hc) | skip)) | (refine And.intro (by first | exact trivial | decide | omega | (dsimp only; omega) | exact fun _ _ => rfl | exact ⟨by assumption, by first | exact trivial | decide | omega | (dsimp only; omega)⟩) ?_) | (apply And.intro) | (intro s hs))
  · exact ⟨l, rfl, hl⟩
  intro ht0
  refine And.intro (by exact ⟨by assumption, trivial⟩) ?_
  intro m hm q1 ht1
  repeat' (first | (apply And.intro <;> intro hc <;> (first | exact Bool.noConfusion hc | (simp only [decide_eq_true_eq, decide_eq_false_iff_not, Bool.not_eq_true', Bool.not_eq_false', beq_iff_eq, beq_eq_false_iff_ne, bne_iff_ne, bne_eq_false_iff_eq, Bool.true_eq_false, Bool.false_eq_true] at hc) | skip)) | (refine And.intro (by first | exact trivial | decide | omega | (dsimp only; omega) | exact fun _ _ => rfl | exact ⟨by assumption, by first | exact trivial | decide | omega | (dsimp only; omega)⟩) ?_) | (apply And.intro) | (intro s hs))
  · exact fun _ => rfl
  · exact fun _ => rfl
  · exact spI_at (m := m) msg_rd ⟨hm.r, by have := hm.v.np; omega, by have := hm.v.nc; omega⟩
  · exact fun _ => rfl
  · exact fun _ => rfl
  · rename_i m2 hm2
    exact spI_at (m := m2) msg_rd0 ⟨hm2.r, by have := hm2.v.np; omega, by have := hm2.v.nc; omega⟩
  rename_i o1 ho1 q2 hq2 m2 hm2 q3 hq3 o2 ho2
  obtain ⟨L, eL⟩ : ∃ L, [raw, m, o1, o2] = L := ⟨_, rfl⟩
  have hL : ∀ x ∈ L, FmI x := by
    rw [← eL]
    intro x hx
    simp only [List.mem_cons, List.not_mem_nil, or_false] at hx
    rcases hx with rfl | rfl | rfl | rfl
    · exact hr
    · exact ⟨hm.r, by have := hm.v.np; omega, by have := hm.v.nc; omega⟩
    · exact ⟨ho1.r, by have := ho1.p; omega, by have := ho1.c; omega⟩
    · exact ⟨ho2.r, by have := ho2.p; omega, by have := ho2.c; omega⟩
  have h4 : L.length = 4 := by rw [← eL]; rfl
  conv => whnf
  refine loop_intro (mono_of LDf_ok) (fun s : {i : Nat // i ≤ 4} => (⟨[(4, one (.sl true b.length 1 (rowF eB b))), (6, one (.ptr 1 0 0 false)), (7, one (.ptr 2 0 0 false)), (13, one (.os 20 0 4)), (14, one (.int .i64 (s.1 : Int)))], [(1, some (ipE src)), (2, some (ipE dst)), (20, some (lsM L))], 21⟩ : Hd)) (fun s => 4 - s.1) (fun _ => rfl) ?_ ⟨0, by omega⟩ [] ⟨rfl, ⟨leF_cl (cl_slR eB b), leF_ptr rfl, leF_ptr rfl, leF_c (leC_os rfl rfl), leF_int rfl, trivial⟩, ⟨rfl, leN_varA fun _ _ => (Elem.flat _ _ _).le⟩, ⟨rfl, leN_varA fun _ _ => (Elem.flat _ _ _).le⟩, ⟨rfl, ?_⟩, trivial⟩
  · rintro ⟨i, hi⟩
    dsimp only at hi ⊢
    obtain ⟨S, eS⟩ : ∃ S, sumD b src dst = S := ⟨_, rfl⟩
    obtain ⟨M, eM⟩ : ∃ M, L.getD i default = M := ⟨_, rfl⟩
    by_cases hi4 : i < 4
    · have hM : FmI M := by rw [← eM]; exact getD_all FmI L i (by omega) hL
      obtain ⟨E, eE⟩ : ∃ E, encDM M src dst = E := ⟨_, rfl⟩
      obtain ⟨V, eV⟩ : ∃ V, validM M = V := ⟨_, rfl⟩
      have hE0 : EncP M src dst := ⟨hM.r, hs0, hd0, by have := hM.p; omega, by have := hM.c; omega⟩
      have hEl : (E.getD []).length ≤ 1056 := by
        rw [← eE]; unfold encDM
        split
        · exact encX_le (valM_iff.1 (by assumption)) _
        · exact Nat.zero_le _
      have w1 : IntKind.i64.wrap ((i : Int) + 1) = ((i + 1 : Nat) : Int) := (IntWalk.i64_in _ (by omega)).trans (by omega)
      unfold lsM
      rw [h4]
      have eM2 : L.getD (0 + ((i : Nat) : Int).toNat) default = M := by rw [Int.toNat_natCast, Nat.zero_add]; exact eM
      have g1 : True := trivial
      have g2 : True := trivial
      have g3 : True := trivial
      have g4 : True := trivial
      repeat' (first | (apply And.intro <;> intro hc <;> (first | exact Bool.noConfusion hc | (exfalso; first | exact absurd rfl hc | omega) | (simp only [decide_eq_true_eq, decide_eq_false_iff_not, Bool.not_eq_true', Bool.not_eq_false', beq_iff_eq, beq_eq_false_iff_ne, bne_iff_ne, bne_eq_false_iff_eq, Bool.true_eq_false, Bool.false_eq_true, ne_eq, not_true_eq_false] at hc <;> first | exact absurd rfl hc | (exfalso; first | exact absurd rfl hc | omega) | skip) | skip)) | (refine And.intro (by first | exact trivial | decide | omega | (dsimp only; omega) | exact fun _ _ => rfl | exact ⟨by assumption, by first | exact trivial | decide | omega | (dsimp only; omega)⟩) ?_) | (apply And.intro) | (intro s hs; (first | (clear g1; have q : E = s := ((enc_at (m := M) (src := src) (dst := dst) hs (msg_rdI eM2) (rd_ip src) (rd_ip dst)).trans eE).symm; clear hs; subst q) | (clear g2; have q : E = s := ((enc_at (m := M) (src := src) (dst := dst) hs (msg_rdI eM2) (rd_ip src) (rd_ip dst)).trans eE).symm; clear hs; subst q) | (clear g3; have q : V = s := ((vl_at hs (msg_rdI eM2)).trans eV).symm; clear hs; subst q) | (clear g4; have q : V = s := ((vl_at hs (msg_rdI eM2)).trans eV).symm; clear hs; subst q) | (have q : s = true := hs.trans (dec_t (toL_b0 _) (toL_b0 _)); clear hs; subst q) | skip)) | (refine Exists.intro _ (And.intro ⟨rfl, rfl, rfl⟩ ?_)))
      all_goals first
        | exact fun _ => rfl
        | exact encP_at (m := M) (src := src) (dst := dst) (msg_rdI eM2) (rd_ip src) (rd_ip dst) hE0
        | exact Eq.mpr (congrArg MsgR (msg_rdI eM2)) hM.r
        | exact Nat.le_trans (Nat.le_of_eq (congrArg (fun m : Msg => m.p.length) (msg_rdI eM2))) (by have := hM.p; show M.p.length ≤ _; omega)
        | exact Nat.le_trans (Nat.le_of_eq (congrArg (fun m : Msg => m.c.length) (msg_rdI eM2))) (by have := hM.c; show M.c.length ≤ _; omega)
        | (first | exact isK_row _ _ | exact rfl)
        | exact Nat.le_trans (Nat.le_of_eq (toL_len _ _ _)) (by omega)
        | exact ⟨⟨i + 1, by omega⟩, [], by dsimp only; omega, rfl, ⟨leF_cl (cl_slR eB b), leF_ptr rfl, leF_ptr rfl, leF_c (leC_os rfl rfl), leF_int w1, trivial⟩, ⟨rfl, leN_varA fun _ _ => (Elem.flat _ _ _).le⟩, ⟨rfl, leN_varA fun _ _ => (Elem.flat _ _ _).le⟩, ⟨rfl, leN_ls4⟩, trivial⟩
    · have g1 : True := trivial
      have g2 : True := trivial
      repeat' (first | (apply And.intro <;> intro hc <;> (first | exact Bool.noConfusion hc | (exfalso; first | exact absurd rfl hc | omega) | (simp only [decide_eq_true_eq, decide_eq_false_iff_not, Bool.not_eq_true', Bool.not_eq_false', beq_iff_eq, beq_eq_false_iff_ne, bne_iff_ne, bne_eq_false_iff_eq, Bool.true_eq_false, Bool.false_eq_true, ne_eq, not_true_eq_false] at hc <;> first | exact absurd rfl hc | (exfalso; first | exact absurd rfl hc | omega) | skip) | skip)) | (refine And.intro (by first | exact trivial | decide | omega | (dsimp only; omega) | exact fun _ _ => rfl | exact ⟨by assumption, by first | exact trivial | decide | omega | (dsimp only; omega)⟩) ?_) | (apply And.intro) | (intro s hs; (first | (have q : s = true := hs; clear hs; subst q) | (clear g1; have q : S = s := ((sum_at (b := b) (src := src) (dst := dst) hs (toL_b b) (rd_ip src) (rd_ip dst)).trans eS).symm; clear hs; subst q) | (clear g2; have q : S = s := ((sum_at (b := b) (src := src) (dst := dst) hs (toL_b b) (rd_ip src) (rd_ip dst)).trans eS).symm; clear hs; subst q) | skip)) | (refine Exists.intro _ (And.intro ⟨rfl, rfl, rfl⟩ ?_)))
      all_goals first
        | exact Eq.mpr (congrArg BL (toL_b _)) hb
        | exact Eq.mpr (congrArg byteOk (rd_ip src)) hs0
        | exact Eq.mpr (congrArg byteOk (rd_ip dst)) hd0
        | exact Nat.le_trans (Nat.le_of_eq (toL_len _ _ _)) (by omega)
        | exact Done.mk (leF_bool (by first | rfl | exact decide_eq_true rfl | exact beq_self_eq_true _))
  · refine ⟨rfl, h4.symm, rfl, rfl, fun i hi j hj => ?_⟩
    unfold lsM
    rw [← eL]
    have hi : i < 4 := hi
    have hj : j < 48 := hj
    rcases i with _ | _ | _ | _ | i
    · iterate 48 (rcases j with _ | j; · first | exact leC_int rfl | exact leC_bool rfl | exact leC_cl (cl_slR ePI raw.p) | exact leC_cl (cl_slR eCI raw.c))
      exact absurd hj (by omega)
    · iterate 48 (rcases j with _ | j; · first | exact leC_int rfl | exact leC_bool rfl | exact leC_cl (cl_slR ePI m.p) | exact leC_cl (cl_slR eCI m.c))
      exact absurd hj (by omega)
    · iterate 48 (rcases j with _ | j; · first | exact leC_int rfl | exact leC_bool rfl | exact leC_cl (cl_slR ePI o1.p) | exact leC_cl (cl_slR eCI o1.c))
      exact absurd hj (by omega)
    · iterate 48 (rcases j with _ | j; · first | exact leC_int rfl | exact leC_bool rfl | exact leC_cl (cl_slR ePI o2.p) | exact leC_cl (cl_slR eCI o2.c))
      exact absurd hj (by omega)
    · exact absurd hi (by omega)
end Go.Proofs.Ythbhidfohdipnaa.AX

/- Messages as arguments of laws. -/
namespace Go.Proofs.Ythbhidfohdipnaa
open Go.RowKit AX
set_option linter.unusedVariables false
theorem wf_u16d {n : Int} (h : (Lit.int .u16 n).wf = true) : 0 ≤ n ∧ n < 65536 := by
  simp [Lit.wf, IntKind.min, IntKind.max, IntKind.bits, IntKind.signed] at h
  omega
theorem wf_u32d {n : Int} (h : (Lit.int .u32 n).wf = true) : 0 ≤ n ∧ n < 4294967296 := by
  simp [Lit.wf, IntKind.min, IntKind.max, IntKind.bits, IntKind.signed] at h
  omega
theorem wf_u64d {n : Int} (h : (Lit.int .u64 n).wf = true) : 0 ≤ n ∧ n < 18446744073709551616 := by
  simp [Lit.wf, IntKind.min, IntKind.max, IntKind.bits, IntKind.signed] at h
  omega
abbrev ksMA : List (Option IntKind) := [some .u8, some .u8, some .u16, some .u8, some .u8, some .u8, some .u8, some .u8, some .u8, some .u8, some .u8, some .u8, some .u8, some .u8, some .u8, some .u8, some .u8, some .u8, some .u8, some .i64, some .u16, some .u64, some .u64, some .u8, some .u8, some .u16, none]
abbrev ksMZ : List (Option IntKind) := [some .u32, some .u16, some .u8, some .u8, some .u8, some .u8, some .u8, some .u8, some .u8, some .u8, some .u8, some .u8, some .u8, some .u8, some .u8, some .u8, some .u8, some .u8, none]
abbrev ksPI : List (Option IntKind) := [some .u8, some .u8, some .u8, some .u8, some .u8, some .u8, some .u8, some .u8, some .u8, some .u8, some .u8, some .u8, some .u8, some .u8, some .u8, some .u8, some .i64, none, none, some .u32]
abbrev ksCI : List (Option IntKind) := [some .i64, some .u8, some .u8, some .u8, some .u8, some .u8, some .u8, some .u8, some .u8, some .u8, some .u8, some .u8, some .u8, some .u8, some .u8, some .u8, some .u8, some .i64, none, some .u16]
abbrev shM : List Sh := ksMA.map .c ++ ([.s (ksPI.map .c)] ++ ([.s (ksCI.map .c)] ++ ksMZ.map .c))
theorem ksMA_at : ∀ i, i < 16 → ksMA[3 + i]? = some (some .u8) := by decide
theorem ksMZ_at : ∀ i, i < 16 → ksMZ[2 + i]? = some (some .u8) := by decide
theorem ksPI_at : ∀ i, i < 16 → ksPI[0 + i]? = some (some .u8) := by decide
theorem ksCI_at : ∀ i, i < 16 → ksCI[1 + i]? = some (some .u8) := by decide
theorem mt_of {w : World} {g : Nat → CV} {ks : List (Option IntKind)} {s : Nat → Sh} (h : ∀ j, j < ks.length → ∃ u, KV w (s j) u (g j)) (he : ∀ j (hj : j < ks.length), s j = .c ks[j]) : MtC ks g := fun j k hk => by
  obtain ⟨hj, rfl⟩ := List.getElem?_eq_some_iff.1 hk
  obtain ⟨u, hu⟩ := h j hj
  rw [he j hj] at hu
  exact hu.num
theorem sh_c {ks : List (Option IntKind)} {j : Nat} (hj : j < ks.length) : (ks.map Sh.c).getD j default = .c ks[j] := by
  rw [List.getD_eq_getElem?_getD, List.getElem?_map, List.getElem?_eq_getElem hj]; rfl
/-- A slice of flat elements. -/
theorem row_of {w : World} {ks : List (Option IntKind)} {u : Value} {x : CV} (h : KV w (.s (ks.map .c)) u x) : ∃ n f, x = .sl true n ks.length f ∧ n ≤ 9223372036854775807 ∧ ∀ i, i < n → MtC ks (f i) := by
  obtain ⟨n, f, e, hn, hk⟩ := h.row
  rw [List.length_map] at e hk
  exact ⟨n, f, e, hn, fun i hi => mt_of (s := fun j => (ks.map Sh.c).getD j default) (fun j hj => hk i j hi hj) fun j hj => sh_c hj⟩
theorem row_sl {w : World} {α : Type} [Inhabited α] {E : Elem α} {n : Nat} {f : Nat → Nat → CV} {u : Value} (hok : ∀ i, i < n → E.ok (f i) = true) (h : (CV.sl true n E.sz f).rel (fun _ => none) (fun _ => False) (fun _ => False) w u) : (slR E (toL E n f)).rel (fun _ => none) (fun _ => False) (fun _ => False) w u := by
  unfold slR
  rw [toL_len]
  refine sl_congr (fun i hi j hj => ?_) h
  unfold rowF
  rw [toL_get hi]
  exact E.ok_eq _ (hok i hi) j hj
theorem ok_MA (g : Nat → CV) (h : MtC ksMA g) : eMA.ok g = true := by
  show (isK .u8 (g 0) && isK .u8 (g 1) && isK .u16 (g 2) && okA .u8 g 3 16 && isK .i64 (g 19) && isK .u16 (g 20) && isK .u64 (g 21) && isK .u64 (g 22) && isK .u8 (g 23) && isK .u8 (g 24) && isK .u16 (g 25) && isB (g 26)) = true
  rw [h.k (j := 0) rfl, h.k (j := 1) rfl, h.k (j := 2) rfl, okA_of fun i hi => h.k (ksMA_at i hi), h.k (j := 19) rfl, h.k (j := 20) rfl, h.k (j := 21) rfl, h.k (j := 22) rfl, h.k (j := 23) rfl, h.k (j := 24) rfl, h.k (j := 25) rfl, h.b (j := 26) rfl]; rfl
theorem ok_MZ (g : Nat → CV) (h : MtC ksMZ g) : eMZ.ok g = true := by
  show (isK .u32 (g 0) && isK .u16 (g 1) && okA .u8 g 2 16 && isB (g 18)) = true
  rw [h.k (j := 0) rfl, h.k (j := 1) rfl, okA_of fun i hi => h.k (ksMZ_at i hi), h.b (j := 18) rfl]; rfl
theorem ok_PI (g : Nat → CV) (h : MtC ksPI g) : ePI.ok g = true := by
  show (okA .u8 g 0 16 && isK .i64 (g 16) && isB (g 17) && isB (g 18) && isK .u32 (g 19)) = true
  rw [okA_of fun i hi => h.k (ksPI_at i hi), h.k (j := 16) rfl, h.b (j := 17) rfl, h.b (j := 18) rfl, h.k (j := 19) rfl]; rfl
theorem ok_CI (g : Nat → CV) (h : MtC ksCI g) : eCI.ok g = true := by
  show (isK .i64 (g 0) && okA .u8 g 1 16 && isK .i64 (g 17) && isB (g 18) && isK .u16 (g 19)) = true
  rw [h.k (j := 0) rfl, okA_of fun i hi => h.k (ksCI_at i hi), h.k (j := 17) rfl, h.b (j := 18) rfl, h.k (j := 19) rfl]; rfl
theorem mar_of {g : Nat → CV} (h : MtC ksMA g) : MAr (eMA.rd g) :=
  ⟨wf_u8d (h.wf (j := 0) rfl), wf_u8d (h.wf (j := 1) rfl), wf_u16d (h.wf (j := 2) rfl), ⟨fun q => wf_u8d (h.wf (ksMA_at q.1 q.2))⟩, wf_u16d (h.wf (j := 20) rfl), wf_u64d (h.wf (j := 21) rfl), wf_u64d (h.wf (j := 22) rfl), wf_u8d (h.wf (j := 23) rfl), wf_u8d (h.wf (j := 24) rfl), wf_u16d (h.wf (j := 25) rfl)⟩
theorem mzr_of {g : Nat → CV} (h : MtC ksMZ g) : MZr (eMZ.rd g) := ⟨wf_u32d (h.wf (j := 0) rfl), wf_u16d (h.wf (j := 1) rfl), ⟨fun q => wf_u8d (h.wf (ksMZ_at q.1 q.2))⟩⟩
theorem pir_of {g : Nat → CV} (h : MtC ksPI g) : PIr (ePI.rd g) := ⟨⟨fun q => wf_u8d (h.wf (ksPI_at q.1 q.2))⟩, wf_u32d (h.wf (j := 19) rfl)⟩
theorem cir_of {g : Nat → CV} (h : MtC ksCI g) : CIr (eCI.rd g) := ⟨⟨fun q => wf_u8d (h.wf (ksCI_at q.1 q.2))⟩, wf_u16d (h.wf (j := 19) rfl)⟩
/-- A message that came in. -/
theorem msg_arg {w : World} {cs : Array Value} (h : KVs w shM cs.toList) : ∃ m : Msg, FmI m ∧ (FV.e (msgR m)).rel (fun _ => none) (fun _ => False) (fun _ => False) w (.agg cs) := by
  have hlen : cs.size = 48 := by have := h.1; simpa using this
  obtain ⟨g, hg⟩ := h.g
  have hg : ∀ j, j < 48 → ∃ u, cs.toList[j]? = some u ∧ KV w (shM.getD j default) u (g j) := hg
  have mA : MtC ksMA g := mt_of (w := w) (s := fun j => shM.getD j default) (fun j hj => by
    have hj : j < 27 := hj
    obtain ⟨u, _, hu⟩ := hg j (by omega); exact ⟨u, hu⟩) fun j hj => by
      have hj' : j < 27 := hj
      iterate 27 (rcases j with _ | j; · rfl)
      exact absurd hj' (by omega)
  have mZ : MtC ksMZ fun q => g (29 + q) := mt_of (w := w) (s := fun j => shM.getD (29 + j) default) (fun j hj => by
    have hj : j < 19 := hj
    obtain ⟨u, _, hu⟩ := hg (29 + j) (by omega); exact ⟨u, hu⟩) fun j hj => by
      have hj' : j < 19 := hj
      iterate 19 (rcases j with _ | j; · rfl)
      exact absurd hj' (by omega)
  obtain ⟨u7, e7, h7⟩ := hg 27 (by omega)
  obtain ⟨u8, e8, h8⟩ := hg 28 (by omega)
  have r7 := KV.rel h7
  have r8 := KV.rel h8
  obtain ⟨np, fp, p1, p2, p3⟩ := row_of (ks := ksPI) h7
  obtain ⟨nc, fc, c1, c2, c3⟩ := row_of (ks := ksCI) h8
  rw [p1] at r7
  rw [c1] at r8
  refine ⟨⟨eMA.rd g, toL ePI np fp, toL eCI nc fc, eMZ.rd fun q => g (29 + q)⟩, ⟨⟨mar_of mA, fun x hx => ?_, fun x hx => ?_, mzr_of mZ⟩, Nat.le_trans (Nat.le_of_eq (toL_len _ _ _)) p2, Nat.le_trans (Nat.le_of_eq (toL_len _ _ _)) c2⟩, cs, rfl, hlen, fun i u hu => ?_⟩
  · simp only [toL, List.mem_map, List.mem_range] at hx
    obtain ⟨i, hi, rfl⟩ := hx
    exact pir_of (p3 i hi)
  · simp only [toL, List.mem_map, List.mem_range] at hx
    obtain ⟨i, hi, rfl⟩ := hx
    exact cir_of (c3 i hi)
  · have hi : i < 48 := by rw [← hlen]; exact (Array.getElem?_eq_some_iff.1 hu).1
    obtain ⟨u', hu', hk⟩ := hg i hi
    have : u' = u := by
      have h2 : cs.toList[i]? = some u := by simpa using hu
      rw [hu'] at h2; injection h2
    subst this
    have hrel := KV.rel hk
    by_cases ha : i < 27
    · rw [msgC_a ha, ← eMA.ok_eq g (ok_MA g mA) i ha]; exact hrel
    · by_cases hz : 29 ≤ i
      · rw [msgC_z hz]
        have := eMZ.ok_eq _ (ok_MZ _ mZ) (i - 29) (show i - 29 < 19 by omega)
        rw [show 29 + (i - 29) = i by omega] at this
        rw [← this]; exact hrel
      · by_cases h27 : i = 27
        · subst h27
          rw [e7] at hu'; injection hu' with hu'; subst hu'
          exact row_sl (E := ePI) (fun i hi => ok_PI _ (p3 i hi)) r7
        · have : i = 28 := by omega
          subst this
          rw [e8] at hu'; injection hu' with hu'; subst hu'
          exact row_sl (E := eCI) (fun i hi => ok_CI _ (c3 i hi)) r8
end Go.Proofs.Ythbhidfohdipnaa

/- DiscoveryForms: the walk. -/
namespace Go.Proofs.Ythbhidfohdipnaa
open Go.RowKit AX
set_option linter.unusedVariables false
theorem walkDiscoveryForms (x0 : Array Value) (x1 : Array Value) (x2 : Array Value) (a3 : Option Addr) (len3 cap3 : Nat) (z3 : List Int) (a4 : Option Addr) (len4 cap4 : Nat) (z4 : List Int) (w : World) (w0 : KVs w shM x0.toList) (w1 : Mt ksIP x1.toList) (w2 : Mt ksIP x2.toList) (w3 : IsRow .i64 w a3 len3 cap3 z3) (rr3 : cap3 * 8 ≤ 140737488351232) (w4 : IsRow .u8 w a4 len4 cap4 z4) (rr4 : cap4 * 1 ≤ 140737488351232) :
    Calls Try.prog 3 #[.agg x0, .agg x1, .agg x2, .slice a3 len3 cap3, .slice a4 len4 cap4] w fun e w' => e = .returned (.bool true) ∧ Below w.heap.size w w' := by
  obtain ⟨b, hb, hl, hrel⟩ := rowB_cut w4
  have h3 := (rowB_all w4).2.2
  obtain ⟨m, hm, h0⟩ := msg_arg w0
  obtain ⟨g, hg, h1⟩ := flat_rel w1 (E := eA .u8 16) (w := w) rfl ok_ip
  obtain ⟨g2, hg2, h2⟩ := flat_rel w2 (E := eA .u8 16) (w := w) rfl ok_ip
  exact walk_of (dforms_ok m hm g g2 (by_ip hg) (by_ip hg2) len3 z3 (rng_of w3) b hb (by omega)) (relL_cons h0 (relL_cons h1 (relL_cons h2 (relL_cons (row_rel w3) (relL1 hrel)))))
end Go.Proofs.Ythbhidfohdipnaa

