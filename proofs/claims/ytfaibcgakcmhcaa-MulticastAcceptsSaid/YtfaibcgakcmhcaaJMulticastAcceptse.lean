/- Texts of one's own in one file: Mrd, Mre, Mri, Mrn, Mro, Mrq, Mrp, Mrr, Mrs, Tb, Mtb, Mtc, Mtd, TkG, Mte, MulticastAcceptsA, Fn, Mtg, MulticastAcceptsW. -/
import Derived.Test.YtfaibcgakcmhcaaJMulticastAcceptsd
import Derived.Test.YtfaibcgakcmhcaaJMulticastAcceptsc
set_option linter.unusedVariables false
set_option linter.unusedSimpArgs false
set_option maxHeartbeats 16000000
set_option maxRecDepth 20000
namespace Go.Proofs.Ytfaibcgakcmhcaa.AX
open Go.RowKit
def sdB (s : Sed) (j : Nat) : CV := bif Nat.beq j 0 then .int .u64 s.id else bif Nat.beq j 1 then .int .i64 s.mn else .sl false s.held.length 11 (rowN neH s.held)
structure OkSB (f : Nat -> CV) (n : Nat) (g : Nat -> Nat -> CV) : Prop where
 a : isK .u64 (f 0) = true
 b : isK .i64 (f 1) = true
 c : ∀ i, i < n -> neH.ok (g i)
def cSB : Codec Sed where
 enc s := .e (.agg 3 (sdB s))
 dec H x := (ga 3 x).bind fun f => match srcOf H 11 (one (f 2)) with
  | some ⟨n, g, p, rd⟩ => some (⟨valI (f 0), valI (f 1), toN neH n g⟩, both p (some (OkSB f n g)), rd)
  | none => none
 sound H H' x a p rd h hp hh := by
  obtain ⟨f, h1, h⟩ := bind_some h
  split at h
  . rename_i n g q rd' hs
    injection h with h
    injection h with h h'
    injection h' with h' h''
    subst h h' h''
    obtain ⟨p1, p2⟩ := both_ok.1 hp
    rw [ga_eq h1]
    rintro cx r w v st ⟨cs, rfl, c1, c2⟩
    refine ⟨cs, rfl, c1, fun i u hu => ?_⟩
    have hi : i < 3 := by rw [<- c1]; exact (Array.getElem?_eq_some_iff.1 hu).1
    have h2 := c2 i u hu
    rcases i with _ | _ | _ | i
    . rw [isK_eq p2.a] at h2; exact h2
    . rw [isK_eq p2.b] at h2; exact h2
    . exact bo_slN (E := neH) neH_sz (srcOf_congr hs hh) p1 p2.c cx r w u st h2
    . omega
  . cases h
def maxI (a b : Int) : Int := if a < b then b else a
def wantN (n : Int) (h : Hel) : Bool := decide (n <= h.num)
def closeS (s : Sed) (n : Int) : Sed := ⟨s.id, maxI s.mn n, s.held.filter (wantN (maxI s.mn n))⟩
def sdO (nm : Nat) (s : Sed) (j : Nat) : CV := bif Nat.beq j 0 then .int .u64 s.id else bif Nat.beq j 1 then .int .i64 s.mn else .os nm 0 s.held.length
theorem filter_at {L : List Hel} {P : Hel -> Bool} {k : Nat} (h : k < L.length) : (L.take (k + 1)).filter P = (L.take k).filter P ++ (if P (L.getD k default) = true then [L.getD k default] else []) := by
 rw [take_at h, List.filter_append, List.filter_cons]
 split
 . rfl
 . rfl
theorem rclose_ok (x : Sed) (n : Int) (hx : KpI x.held) : NewsOk Try.prog 66 [cSB.enc x, (cI .i64).enc n] (.e (.agg 3 (sdO 0 (closeS x n)))) [entH (closeS x n).held] := by
 have hn := hx.n
 obtain ⟨m, em⟩ : ∃ m, maxI x.mn n = m := ⟨_, rfl⟩
 refine news_intro (wd := 1) (Q := mkQ LE0) (by decide) tysOk (q_of LE0_ok) mixed Try.func66 rfl _ (by show 2 <= _; decide) ?_
 repeat' (first | (apply And.intro <;> intro hc <;> (first | exact Bool.noConfusion hc | (exfalso; first | exact absurd rfl hc | omega) | (simp only [zb0, ne_eq, not_true_eq_false] at hc <;> first | exact absurd rfl hc | (exfalso; first | exact absurd rfl hc | omega) | skip) | skip)) | (refine And.intro zp1 ?_) | (apply And.intro) | (intro s hs; skip) | (refine Exists.intro _ (And.intro ⟨rfl, rfl, rfl⟩ ?_)))
 conv => whnf
 refine loop_intro (mono_of LE0_ok) (fun s : {p : Nat × List Hel // p.1 <= x.held.length /\ p.2 = (x.held.take p.1).filter (wantN m)} => (⟨[(2, one (.ptr 0 0 0 false)), (4, one (.ptr 1 0 0 false)), (5, one (.os 2 0 s.1.2.length)), (14, one (.sl false x.held.length 11 (rowN neH x.held))), (15, one (.int .i64 (x.held.length : Int))), (16, one (.int .i64 (s.1.1 : Int)))], [(0, some ⟨78, 1, 3, true, fun _ => sdB ⟨x.id, m, x.held⟩⟩), (1, some ⟨78, 1, 3, true, fun _ => nth [.int .u64 0, .int .i64 0, .nils]⟩), (2, some (entH s.1.2))], 3⟩ : Hd)) (fun s => x.held.length - s.1.1) (fun _ => rfl) ?_ ⟨(0, []), Nat.zero_le _, rfl⟩ [(2, none)] ⟨rfl, ⟨leF_ptr rfl, leF_ptr rfl, leF_c (leC_nils_os rfl), leF_c (leC_sl (fun h => h) rfl rfl fun i hi j hj => (neH.sh _ j hj).le), leF_int rfl, leF_int rfl, trivial⟩, ⟨⟨rfl, leN_varA (lt3c ⟨leC_int rfl, leC_int em, leC_sl (fun h => h) rfl rfl fun i hi j hj => (neH.sh _ j hj).le⟩)⟩, ⟨rfl, leN_varA (lt3c ⟨leC_int rfl, leC_int rfl, leC_nils⟩)⟩, ⟨rfl, rfl, rfl, Nat.le_of_ble_eq_true rfl⟩, trivial⟩⟩
 rintro ⟨⟨k, H⟩, hk, hH⟩
 dsimp only at hk hH ⊢
 by_cases hkl : k < x.held.length
 . have w5 : IntKind.i64.wrap ((k : Int) + 1) = ((k + 1 : Nat) : Int) := (IntWalk.i64_in _ (by omega)).trans (by omega)
   obtain ⟨h, eh⟩ : ∃ h, x.held.getD k default = h := ⟨_, rfl⟩
   have eck : rowN neH x.held k = neH.cell h := congrArg neH.cell eh
   have zk : (k : Int).toNat = k := rfl
   have hf := filter_at (P := wantN m) hkl
   rw [<- hH, eh] at hf
   have hHl : H.length <= k := by rw [hH]; exact Nat.le_trans (List.length_filter_le _ _) (by rw [List.length_take]; omega)
   repeat' (first | (simp only [zk, eck]) | (apply And.intro <;> intro hc <;> (first | exact Bool.noConfusion hc | (exfalso; first | exact absurd rfl hc | omega) | (simp only [zb0, ne_eq, not_true_eq_false] at hc <;> first | exact absurd rfl hc | (exfalso; first | exact absurd rfl hc | omega) | skip) | skip)) | (refine And.intro zp1 ?_) | (apply And.intro) | (intro s hs; skip) | (refine Exists.intro _ (And.intro ⟨rfl, rfl, rfl⟩ ?_)))
   . rw [if_pos (show wantN m h = true from decide_eq_true (by assumption))] at hf
     conv => whnf
     exact ⟨⟨(k + 1, H ++ [h]), hkl, hf.symm⟩, [(2, some 16)], by dsimp only; omega, rfl, ⟨leF_ptr rfl, leF_ptr rfl, leF_c (leC_os rfl (by show _ = (H ++ [h]).length; rw [List.length_append]; rfl)), leF_c (leC_sl (fun h => h) rfl rfl fun i hi j hj => (neH.sh _ j hj).le), leF_int rfl, leF_int w5, trivial⟩, ⟨⟨rfl, leN_varA (lt3c ⟨leC_int rfl, leC_int rfl, leC_sl (fun h => h) rfl rfl fun i hi j hj => (neH.sh _ j hj).le⟩)⟩, ⟨rfl, leN_varA (lt3c ⟨leC_int rfl, leC_int rfl, leC_nils⟩)⟩, ⟨rfl, helds_snoc rfl (lt11c ⟨leC_int rfl, (neH.sh h 1 (by decide)).le, leC_int rfl, leC_int rfl, leC_int rfl, leC_int rfl, leC_int rfl, leC_int rfl, leC_int rfl, leC_bool rfl, leC_int rfl⟩)⟩, trivial⟩⟩
   . rw [if_neg (show ¬ wantN m h = true from fun g => absurd (of_decide_eq_true g) (by assumption)), List.append_nil] at hf
     conv => whnf
     exact ⟨⟨(k + 1, H), hkl, hf.symm⟩, [], by dsimp only; omega, rfl, ⟨leF_ptr rfl, leF_ptr rfl, leF_c (leC_os rfl rfl), leF_c (leC_sl (fun h => h) rfl rfl fun i hi j hj => (neH.sh _ j hj).le), leF_int rfl, leF_int w5, trivial⟩, ⟨⟨rfl, leN_varA (lt3c ⟨leC_int rfl, leC_int rfl, leC_sl (fun h => h) rfl rfl fun i hi j hj => (neH.sh _ j hj).le⟩)⟩, ⟨rfl, leN_varA (lt3c ⟨leC_int rfl, leC_int rfl, leC_nils⟩)⟩, ⟨rfl, leN_entN⟩, trivial⟩⟩
 . obtain rfl : k = x.held.length := by omega
   rw [List.take_length] at hH
   repeat' (first | (apply And.intro <;> intro hc <;> (first | exact Bool.noConfusion hc | (exfalso; first | exact absurd rfl hc | omega) | (simp only [zb0, ne_eq, not_true_eq_false] at hc <;> first | exact absurd rfl hc | (exfalso; first | exact absurd rfl hc | omega) | skip) | skip)) | (refine And.intro zp1 ?_) | (apply And.intro) | (intro s hs; skip) | (refine Exists.intro _ (And.intro ⟨rfl, rfl, rfl⟩ ?_)))
   conv => whnf
   have eH : H = (closeS x n).held := by unfold closeS; rw [em]; exact hH
   exact ⟨⟨[(0, some 2)], rfl, leF_e (leE_all ⟨⟨⟨trivial, leC_int rfl⟩, leC_int em.symm⟩, leC_os rfl (by rw [eH])⟩), ⟨⟨rfl, leN_eqN eH⟩, trivial⟩⟩⟩
theorem sftF_agg {m d : Nat} {k : Nat} {f g : Nat -> CV} (h : ∀ i, i < k -> Sft m d (f i) (g i)) : SftF m d (.e (.agg k f)) (.e (.agg k g)) := by
 rintro r r2 X W X2 W2 w v hr hX hW ⟨cs, rfl, c1, c2⟩
 refine ⟨cs, rfl, c1, fun i u hu => ?_⟩
 have hi : i < k := by rw [<- c1]; exact (Array.getElem?_eq_some_iff.1 hu).1
 exact h i hi r r2 X W X2 W2 w u hr hX hW (c2 i u hu)
theorem sft_sdO {nm : Nat} {s : Sed} : ∀ j, j < 3 -> Sft 1 nm (sdO 0 s j) (sdO nm s j) := lt3c ⟨sft_int, sft_int, (by have h : Sft 1 nm (.os 0 0 s.held.length) (.os (nm + 0) 0 s.held.length) := sft_os (by decide); exact h)⟩
abbrev rcloseE : Entry := newsE (AC.cons cSB (AC.cons (cI .i64) AC.nil)) (fun a => KpI a.1.held) (fun a => closeS a.1 a.2.1) 1 (fun nm s => .e (.agg 3 (sdO nm s))) (fun _ s => [entH s.held])
theorem rcloseE_ok : EntOk Try.prog 66 rcloseE := newsE_ok ⟨_, Try.func66, rfl, by kernel_rfl⟩ (fun _ _ => rfl) (fun nm s => sftF_agg sft_sdO) (fun nm a ha k e e' h h' => by
 rcases k with _ | k
 . injection h with h; injection h' with h'; subst h h'
   exact ⟨rfl, rfl, rfl, rfl, fun i hi j hj => sft_sh (neH.sh _ j hj)⟩
 . cases h) fun a h => rclose_ok a.1 a.2.1 h
theorem close_raise {s : Sed} {n : Int} (h : SdOk s) : closeS s n = raiseS s n := by
 unfold closeS raiseS maxI
 by_cases hn : n <= s.mn
 . rw [if_pos hn, if_neg (by omega)]
   have e : s.held.filter (wantN s.mn) = s.held := by
    apply List.filter_eq_self.2
    intro x hx
    have := vh_mem h.h x hx
    exact decide_eq_true (by omega)
   rw [e]
 . rw [if_neg hn, if_pos (by omega)]
   rfl
theorem rd_close {s : Sed} {x y : Sed} {n : Int} {z : Sed} (hs : s = closeS x n) (hx : x = y) (hz : closeS y n = z) : z = s := by rw [hs, hx, hz]
theorem sed_mk {s : Sed} {i m : Int} {H : List Hel} (hi : i = s.id) (hm : m = s.mn) (hH : H = s.held) : (⟨i, m, H⟩ : Sed) = s := by subst hi hm hH; rfl
theorem toNI (L : List Sed) : toN neI L.length (rowN neS L) = L.map Sed.id := by
 apply List.ext_getElem
 . simp [toN]
 . intro i h1 h2
   have hi : i < L.length := by simpa using h2
   simp only [toN, List.getElem_map, List.getElem_range]
   show (L.getD i default).id = _
   rw [List.getD_eq_getElem?_getD, List.getElem?_eq_getElem hi]; rfl
theorem rd_fndR {s F : Int} {id : Int} {M L : List Int} (hs : s = fndR id M 0) (h : M = L) (hF : fndR id L 0 = F) : F = s := by rw [hs, h, hF]
theorem vh_lt {mn : Int} : ∀ {L : List Hel} {last : Int} {i j : Nat}, validHs mn last L = true -> i < j -> j < L.length -> (L.getD i default).num < (L.getD j default).num := by
 intro L
 induction L with
 | nil => intro _ _ _ _ _ h; exact absurd h (Nat.not_lt_zero _)
 | cons a t ih =>
   intro last i j hv hij hj
   have hv' := vh_cons.1 hv
   cases j with
   | zero => exact absurd hij (Nat.not_lt_zero _)
   | succ j =>
     have hj : j < t.length := by simpa using hj
     rw [getD_cons1]
     cases i with
     | zero => exact (vh_mem hv'.2.2 _ (getD_in hj)).1
     | succ i => rw [getD_cons1]; exact ih hv'.2.2 (by omega) hj
theorem plc_is {mn last n : Int} {L : List Hel} {k : Nat} (hv : validHs mn last L = true) (hk : k < L.length) (h : (L.getD k default).num = n) : plcH n L 0 = (k, true) := by
 obtain ⟨h1, h2⟩ := plc_mem (k := 0) hv (getD_in hk)
 rw [h] at h1 h2
 rw [Nat.sub_zero] at h2
 have h3 := (plc_le (id := n) (L := L) (k := 0)).2.1 h1
 rw [Nat.zero_add] at h3
 have e : (plcH n L 0).1 = k := by
  rcases Nat.lt_trichotomy (plcH n L 0).1 k with g | g | g
  . have := vh_lt hv g hk; rw [h2] at this; omega
  . exact g
  . have := vh_lt hv g h3; rw [h2] at this; omega
 rw [<- e, <- h1]
theorem plc_no {n : Int} : ∀ {L : List Hel} {k : Nat}, (∀ p, p < L.length -> (L.getD p default).num ≠ n) -> (plcH n L k).2 = false := by
 intro L
 induction L with
 | nil => intro _ _; rfl
 | cons a t ih =>
   intro k h
   unfold plcH
   split
   . exact decide_eq_false (h 0 (by simp))
   . exact ih fun p hp => by have := h (p + 1) (by simpa using hp); rwa [getD_cons1] at this
theorem plc_lt {n : Int} : ∀ {L : List Hel} {k p : Nat}, k <= p -> p < (plcH n L k).1 -> (L.getD (p - k) default).num < n := by
 intro L
 induction L with
 | nil => intro k p h1 h2; exact absurd h2 (by show ¬ p < k; omega)
 | cons a t ih =>
   intro k p h1 h2
   unfold plcH at h2
   by_cases h : n <= a.num
   . rw [if_pos h] at h2; exact absurd h2 (by show ¬ p < k; omega)
   . rw [if_neg h] at h2
     by_cases hp : p = k
     . subst hp; rw [Nat.sub_self]; show a.num < n; omega
     . rw [show p - k = (p - (k + 1)) + 1 by omega, getD_cons1]
       exact ih (by omega) h2
theorem plc_at {n : Int} : ∀ {L : List Hel} {k : Nat}, (plcH n L k).2 = false -> (plcH n L k).1 - k < L.length -> n < (L.getD ((plcH n L k).1 - k) default).num := by
 intro L
 induction L with
 | nil => intro k _ h; exact absurd h (Nat.not_lt_zero _)
 | cons a t ih =>
   intro k h1 h2
   have hle := (plc_le (id := n) (L := t) (k := k + 1)).2.2
   unfold plcH at h1 h2 ⊢
   by_cases h : n <= a.num
   . rw [if_pos h] at h1 h2 ⊢
     rw [Nat.sub_self]
     have : a.num ≠ n := of_decide_eq_false h1
     show n < a.num
     omega
   . rw [if_neg h] at h1 h2 ⊢
     rw [show (plcH n t (k + 1)).1 - k = ((plcH n t (k + 1)).1 - (k + 1)) + 1 by omega, getD_cons1]
     exact ih h1 (by rw [List.length_cons] at h2; omega)
theorem fnd_lt {n : Int} : ∀ {L : List Sed} {k p : Nat}, k <= p -> p < (fndS n L k).1 -> (L.getD (p - k) default).id < n := by
 intro L
 induction L with
 | nil => intro k p h1 h2; exact absurd h2 (by show ¬ p < k; omega)
 | cons a t ih =>
   intro k p h1 h2
   unfold fndS at h2
   by_cases h : n <= a.id
   . rw [if_pos h] at h2; exact absurd h2 (by show ¬ p < k; omega)
   . rw [if_neg h] at h2
     by_cases hp : p = k
     . subst hp; rw [Nat.sub_self]; show a.id < n; omega
     . rw [show p - k = (p - (k + 1)) + 1 by omega, getD_cons1]
       exact ih (by omega) h2
theorem fnd_at {n : Int} : ∀ {L : List Sed} {k : Nat}, (fndS n L k).2 = false -> (fndS n L k).1 - k < L.length -> n < (L.getD ((fndS n L k).1 - k) default).id := by
 intro L
 induction L with
 | nil => intro k _ h; exact absurd h (Nat.not_lt_zero _)
 | cons a t ih =>
   intro k h1 h2
   have hle := (fnd_le (id := n) (L := t) (k := k + 1)).2.2
   unfold fndS at h1 h2 ⊢
   by_cases h : n <= a.id
   . rw [if_pos h] at h1 h2 ⊢
     rw [Nat.sub_self]
     have : a.id ≠ n := of_decide_eq_false h1
     show n < a.id
     omega
   . rw [if_neg h] at h1 h2 ⊢
     rw [show (fndS n t (k + 1)).1 - k = ((fndS n t (k + 1)).1 - (k + 1)) + 1 by omega, getD_cons1]
     exact ih h1 (by rw [List.length_cons] at h2; omega)
inductive InsI {α : Type} (g : Nat) (x : α) (H : List α) (p : Nat) : Bool -> List α -> Prop
 | no : p <= g -> InsI g x H p false (H.take p)
 | yes : g < p -> InsI g x H p true ((insA g x H).take (p + 1))
theorem takeA {α : Type} [Inhabited α] {x : List α} {k : Nat} (h : k < x.length) : x.take (k + 1) = x.take k ++ [x.getD k default] := by
 rw [List.take_add_one, List.getD_eq_getElem?_getD, List.getElem?_eq_getElem h]; rfl
theorem ins_no {α : Type} [Inhabited α] {g : Nat} {x : α} {H : List α} {p : Nat} (hp : p < g) (hl : p < H.length) : InsI g x H (p + 1) false (H.take p ++ [H.getD p default]) := by
 rw [<- takeA hl]; exact .no hp
theorem ins_at {α : Type} [Inhabited α] {g : Nat} {x : α} {H : List α} (hl : g < H.length) : InsI g x H (g + 1) true ((H.take g ++ [x]) ++ [H.getD g default]) := by
 have e : (H.take g ++ [x]) ++ [H.getD g default] = (insA g x H).take (g + 1 + 1) := by
  have hl2 : ((H.take g ++ [x]) ++ [H.getD g default]).length = g + 1 + 1 := by
   rw [List.length_append, List.length_append, List.length_take]
   show min g H.length + 1 + 1 = g + 1 + 1
   omega
  have e2 : insA g x H = ((H.take g ++ [x]) ++ [H.getD g default]) ++ H.drop (g + 1) := by
   unfold insA
   rw [dropAt (d := default) hl]
   simp only [List.append_assoc, List.cons_append, List.nil_append]
  rw [e2, List.take_append_of_le_length (Nat.le_of_eq hl2.symm), List.take_of_length_le (Nat.le_of_eq hl2)]
 rw [e]; exact .yes (by omega)
theorem ins_yes {α : Type} [Inhabited α] {g : Nat} {x : α} {H : List α} {p : Nat} (hg : g < p) (hl : p < H.length) : InsI g x H (p + 1) true ((insA g x H).take (p + 1) ++ [H.getD p default]) := by
 have e : (insA g x H).take (p + 1) ++ [H.getD p default] = (insA g x H).take (p + 1 + 1) := by
  rw [takeA (x := insA g x H) (k := p + 1) (by rw [insA_len (by omega)]; omega), insA_gt (by omega) (by omega), Nat.add_sub_cancel]
 rw [e]; exact .yes (by omega)
theorem ins_end0 {α : Type} {x : α} {H : List α} : H.take H.length ++ [x] = insA H.length x H := by
 unfold insA
 rw [List.drop_of_length_le (Nat.le_refl _)]
theorem ins_end1 {α : Type} {g : Nat} {x : α} {H : List α} (hg : g <= H.length) : (insA g x H).take (H.length + 1) = insA g x H := List.take_of_length_le (by rw [insA_len hg]; exact Nat.le_refl _)
theorem ins_len {α : Type} {g : Nat} {x : α} {H : List α} {p : Nat} {b : Bool} {Lo : List α} (h : InsI g x H p b Lo) : Lo.length <= p + 1 := by
 cases h with
 | no h => rw [List.length_take]; omega
 | yes h => rw [List.length_take]; omega
theorem fndR_acc {c : Cas} {L : List Sed} (hv : validL (accL c L) = true) (g : (fndS c.id L 0).1 < (accL c L).length) (h : ((accL c L).getD (fndS c.id L 0).1 default).id = c.id) : fndR c.id ((accL c L).map Sed.id) 0 = ((fndS c.id L 0).1 : Int) := by
 rw [fndR_eq (vl_vs hv)]
 obtain ⟨h1, h2⟩ := fnd_mem (k := 0) (vl_vs hv) (getD_in g)
 rw [h] at h1 h2
 rw [if_pos h1]
 rw [Nat.sub_zero] at h2
 have h3 := (fnd_le (id := c.id) (L := accL c L) (k := 0)).2.1 h1
 rw [Nat.zero_add] at h3
 have inj : ∀ {L : List Sed} {last : Int} {i j : Nat}, validSs last L = true -> i < j -> j < L.length -> (L.getD i default).id < (L.getD j default).id := by
  intro L
  induction L with
  | nil => intro _ _ _ _ _ h; exact absurd h (Nat.not_lt_zero _)
  | cons a t ih =>
    intro last i j hv hij hj
    have hv' := vs_cons.1 hv
    cases j with
    | zero => exact absurd hij (Nat.not_lt_zero _)
    | succ j =>
      have hj : j < t.length := by simpa using hj
      rw [getD_cons1]
      cases i with
      | zero => exact (vs_mem hv'.2.2 _ (getD_in hj)).1
      | succ i => rw [getD_cons1]; exact ih hv'.2.2 (by omega) hj
 have e : (fndS c.id (accL c L) 0).1 = (fndS c.id L 0).1 := by
  rcases Nat.lt_trichotomy (fndS c.id (accL c L) 0).1 (fndS c.id L 0).1 with q | q | q
  . have := inj (vl_vs hv) q g; rw [h2] at this; omega
  . exact q
  . have := inj (vl_vs hv) q h3; rw [h2] at this; omega
 rw [e]
def afterF (t d : Int) : Int := if 1099511627776 < t + d then 1099511627776 else t + d
theorem rafter_ok (t d : Int) (h : 0 <= t /\ t <= 1099511627776 /\ 0 <= d /\ d <= 1099511627776) : PureOk Try.prog 68 [(cI .i64).enc t, (cI .i64).enc d] ((cI .i64).enc (afterF t d)) := by
 have w : IntKind.i64.wrap (t + d) = t + d := IntWalk.i64_in _ (by omega)
 refine pure_intro (wd := 1) (Q := mkQ LE0) (by decide) tysOk (q_of LE0_ok) mixed Try.func68 rfl _ (by show 2 <= _; decide) _ ?_
 repeat' (first | (simp only [w]) | (apply And.intro <;> intro hc <;> (first | exact Bool.noConfusion hc | (exfalso; first | exact absurd rfl hc | omega) | (simp only [zb0, ne_eq, not_true_eq_false] at hc <;> first | exact absurd rfl hc | (exfalso; first | exact absurd rfl hc | omega) | skip) | skip)) | (refine And.intro zp1 ?_) | (apply And.intro) | (intro s hs; skip))
 conv => whnf
 exact Done.mk (leF_int (by rw [w]; rfl))
abbrev rafterE : Entry := pureE (AC.cons (cI .i64) (AC.cons (cI .i64) AC.nil)) (fun a => 0 <= a.1 /\ a.1 <= 1099511627776 /\ 0 <= a.2.1 /\ a.2.1 <= 1099511627776) (fun a => afterF a.1 a.2.1) (cI .i64).enc
def LRn : CsL := (40, some rvalidE) :: (63, some timeE) :: (68, some rafterE) :: (43, some rcopyE) :: (64, some rfindE) :: (66, some rcloseE) :: LTk
theorem LRn_ok : AllOk Try.prog LRn := ⟨pureE_ok ⟨_, Try.func40, rfl, by kernel_rfl⟩ fun a h => rvalid_ok a.1 h, pureE_ok ⟨_, Try.func63, rfl, by kernel_rfl⟩ fun a _ => TkR.tkTime_ok a.1, pureE_ok ⟨_, Try.func68, rfl, by kernel_rfl⟩ fun a h => rafter_ok a.1 a.2.1 h, rcopyE_ok, pureE_ok ⟨_, Try.func64, rfl, by kernel_rfl⟩ fun a h => rfind_ok a.1 a.2.1 h, rcloseE_ok, LTk_ok⟩
def rowT (a : Nat) (L : List Sed) (k j : Nat) : CV := bif Nat.beq k a then .top else rowN neS L k j
theorem rowT_ne {a k j : Nat} {L : List Sed} (h : k ≠ a) : rowT a L k j = rowN neS L k j := by unfold rowT; rw [beq_ne h]; rfl
theorem rowT_at {a j : Nat} {L : List Sed} : rowT a L a j = .top := by unfold rowT; rw [beq_refl_nat]; rfl
theorem rowT_le {c : Wc} {a k j : Nat} {L : List Sed} {x : CV} (hj : j < 3) (h : k ≠ a -> x = rowN neS L k j) : LeC c x (rowT a L k j) := by
 by_cases hk : k = a
 . subst hk; rw [rowT_at]; exact leC_top
 . rw [rowT_ne hk, h hk]; exact (neS.sh _ j hj).le
def SAr (L : List Sed) (a : Nat) (now : Int) (c : Cas) (deaf : Bool) (draw : Int) (_ : Unit) : Hd :=
 ⟨[(1, one (.int .i64 now)), (3, one (.bool deaf)), (4, one (.int .u32 draw)), (7, one (.ptr 0 0 0 false)), (13, one (.os 1 0 L.length))],
  [(0, some ⟨32, 1, 3, true, fun _ => neC.cell c⟩), (1, some ⟨78, L.length, 3, false, rowA 2 (L.getD a default) a L⟩), (2, some (entN neH 85 (L.getD a default).held))], 3⟩
def SBr (L : List Sed) (a : Nat) (s : Sed) (now : Int) (c : Cas) (deaf : Bool) (draw : Int) (_ : Unit) : Hd :=
 ⟨[(1, one (.int .i64 now)), (3, one (.bool deaf)), (4, one (.int .u32 draw)), (7, one (.ptr 0 0 0 false)), (13, one (.os 1 0 L.length)), (18, one (.int .i64 (a : Int))), (19, one (.ptr 3 0 0 false))],
  [(0, some ⟨32, 1, 3, true, fun _ => neC.cell c⟩), (1, some ⟨78, L.length, 3, false, rowT a L⟩), (2, some (entN neH 85 s.held)), (3, some ⟨78, 1, 3, true, fun _ => sdO 2 s⟩)], 4⟩
theorem rowA_neI {d a n : Nat} {s : Sed} {L : List Sed} (hs : s = L.getD a default) (hn : n = L.length) : toN neI n (fun k j => rowA d s a L (0 + k) j) = L.map Sed.id := by
 subst hn
 apply List.ext_getElem
 . simp [toN]
 . intro i h1 h2
   have hi : i < L.length := by simpa using h2
   simp only [toN, List.getElem_map, List.getElem_range]
   show valI (rowA d s a L (0 + i) 0) = _
   rw [Nat.zero_add]
   have e : valI (rowA d s a L i 0) = (L.getD i default).id := by
    by_cases h : i = a
    . subst h; rw [rowA_at, hs]; rfl
    . rw [rowA_ne h]; rfl
   rw [e, List.getD_eq_getElem?_getD, List.getElem?_eq_getElem hi]; rfl
theorem rowA_okI {d a n : Nat} {s : Sed} {L : List Sed} : ∀ i, i < n -> neI.ok (fun j => rowA d s a L (0 + i) j) := fun i _ => by
 show isK .u64 (rowA d s a L (0 + i) 0) = true
 rw [Nat.zero_add]
 by_cases h : i = a
 . subst h; rw [rowA_at]; rfl
 . rw [rowA_ne h]; rfl
def SLr (L : List Sed) (a : Nat) (s : Sed) (now : Int) (c : Cas) (deaf : Bool) (draw : Int) : Hd :=
 ⟨[(1, one (.int .i64 now)), (3, one (.bool deaf)), (4, one (.int .u32 draw)), (7, one (.ptr 0 0 0 false)), (13, one (.os 1 0 L.length)), (18, one (.int .i64 (a : Int))), (19, one (.ptr 3 0 0 false))],
  [(0, some ⟨32, 1, 3, true, fun _ => neC.cell c⟩), (1, some ⟨78, L.length, 3, false, rowA 2 s a L⟩), (2, some (entN neH 85 s.held)), (3, some ⟨78, 1, 3, true, fun _ => sdO 2 s⟩)], 4⟩
theorem sdO_le {c : Wc} {d d' : Nat} {s : Sed} (h : c.src d' = some d) : ∀ j, j < 3 -> LeC c (sdO d s j) (sdO d' s j) := lt3c ⟨leC_int rfl, leC_int rfl, leC_os h rfl⟩
structure AcR (L : List Sed) (a : Nat) (now : Int) (c : Cas) (draw : Int) : Prop where
 lt : a < L.length
 n : L.length <= 9
 ok : SdOk (L.getD a default)
 num : 0 <= c.num /\ c.num < 1073741824
 d : c.data.length <= 64
 now : 0 <= now /\ now <= 1099511627776
 dr : drawOk draw
 f : fndR c.id (L.map Sed.id) 0 = (a : Int)
theorem updE_atK {f : Nat -> Nat -> CV} {i j : Nat} {g : Nat -> CV} : updE false f i g i j = g j := by
 show selC (Nat.beq i i) (g j) (f i j) = g j
 rw [selC_eq, beq_refl_nat]; rfl
theorem helds_snoc2 {c : Wc} {t : TypeId} {Z : List Hel} {x : Hel} {n : Nat} {f : Nat -> Nat -> CV} {g z : Nat -> CV} (hn : n = Z.length) (hf : ∀ k, k < n -> ∀ j, j < 11 -> LeC c (f k j) (rowN neH Z k j)) (h : ∀ j, j < 11 -> LeC c (g j) (neH.cell x j)) : LeN c ⟨t, n + 1, 11, false, fun k j => selC (Nat.blt k n) (f k j) (selC (Nat.beq (0 + (k - n)) 0) (g j) (z j))⟩ (entN neH t (Z ++ [x])) := by
 subst hn
 refine ⟨rfl, by show _ = (Z ++ [x]).length; rw [List.length_append]; rfl, rfl, rfl, fun k hk j hj => ?_⟩
 have hk : k < Z.length + 1 := hk
 by_cases hkz : k < Z.length
 . refine selC_in (Nat.ble_eq_true_of_le hkz) ?_
   have e : rowN neH (Z ++ [x]) k j = rowN neH Z k j := congrArg (fun z => neH.cell z j) (by rw [List.getD_eq_getElem?_getD, List.getElem?_append_left hkz, <- List.getD_eq_getElem?_getD])
   show LeC c _ (rowN neH (Z ++ [x]) k j)
   rw [e]
   exact hf k hkz j hj
 . obtain rfl : k = Z.length := by omega
   refine selC_out (blt_self _) (selC_in (by rw [Nat.sub_self]; rfl) ?_)
   have e : rowN neH (Z ++ [x]) Z.length j = neH.cell x j := congrArg (fun z => neH.cell z j) (by simp [List.getD_eq_getElem?_getD])
   show LeC c _ (rowN neH (Z ++ [x]) Z.length j)
   rw [e]
   exact h j hj
theorem snoc_cell {c : Wc} {Z : List Hel} {x : Hel} {n k j : Nat} {B C : CV} (hn : n = Z.length) (hk : k < n + 1) (hj : j < 11) (h : LeC c B (neH.cell x j)) : LeC c (selC (Nat.blt k n) (rowN neH Z k j) (selC (Nat.beq (0 + (k - n)) 0) B C)) (rowN neH (Z ++ [x]) k j) := by
 subst hn
 by_cases hkz : k < Z.length
 . refine selC_in (Nat.ble_eq_true_of_le hkz) ?_
   have e : rowN neH (Z ++ [x]) k j = rowN neH Z k j := congrArg (fun z => neH.cell z j) (by rw [List.getD_eq_getElem?_getD, List.getElem?_append_left hkz, <- List.getD_eq_getElem?_getD])
   rw [e]
   exact (neH.sh _ j hj).le
 . obtain rfl : k = Z.length := by omega
   refine selC_out (blt_self _) (selC_in (by rw [Nat.sub_self]; rfl) ?_)
   have e : rowN neH (Z ++ [x]) Z.length j = neH.cell x j := congrArg (fun z => neH.cell z j) (by simp [List.getD_eq_getElem?_getD])
   rw [e]
   exact h
theorem racc_tail (L : List Sed) (a : Nat) (s s1 : Sed) (now : Int) (c : Cas) (deaf : Bool) (draw : Int) (ha : a < L.length) (hmin : ¬ c.num < s.mn) (hno : (plcH c.num s.held 0).2 = false) (hno1 : (plcH c.num s1.held 0).2 = false) (es1 : raiseS s (c.num - 31) = s1) (hok1 : SdOk s1) (hnum : 0 <= c.num /\ c.num < 1073741824) (hd : c.data.length <= 64) (hnow : 0 <= now /\ now <= 1099511627776) (hdr : drawOk draw) (R : List Sed × Bool × Int) (hR : R = (L.set a (accS s now c deaf draw).1, (accS s now c deaf draw).2, 0)) :
 Sem Try.prog Try.f39.ntmps 0 (dropC 11 (Try.f39.body.getD Code.ret)) (SBr L a s1 now c deaf draw ()).fr (SBr L a s1 now c deaf draw ()).H (SBr L a s1 now c deaf draw ()).nx (endH T Try.f39.results.toList fun x H _ => FinN (some R.1.length) (encAc R) (entN neS 78 R.1) x H) := by
 have hk1 := hok1.k
 have hn32 := hok1.n
 have z0 : 0 + (a : Int).toNat = a := Nat.zero_add a
 unfold SBr
 refine sem_exec (wd := 1) (Q := mkQ LRn) (by decide) tysOk (q_of LRn_ok) mixed ?_
 cases deaf with
 | true =>
   have hcl : closeS s1 (c.num + 1) = raiseS s1 (c.num + 1) := close_raise hok1
   obtain ⟨s2, es2⟩ : ∃ s2, raiseS s1 (c.num + 1) = s2 := ⟨_, rfl⟩
   rw [es2] at hcl
   have hRe : R = (L.set a s2, false, 0) := by
    rw [hR]; unfold accS; rw [if_neg hmin, if_neg (by rw [hno]; simp), if_pos rfl, es1, es2]
   have w33 : IntKind.i64.wrap (c.num + 1) = c.num + 1 := IntWalk.i64_in _ (by omega)
   repeat' (first | (simp only [w33, z0]) | (apply And.intro <;> intro hc <;> (first | exact Bool.noConfusion hc | (exfalso; first | exact absurd rfl hc | omega) | (simp only [zb0, ne_eq, not_true_eq_false] at hc <;> first | exact absurd rfl hc | (exfalso; first | exact absurd rfl hc | omega) | skip) | skip)) | (refine And.intro zp1 ?_) | (apply And.intro) | (intro s hs; (have q := rd_close hs (sed_mk rfl rfl (toN_row0 neH_rd _)) hcl; clear hs; subst q)) | (refine Exists.intro _ (And.intro ⟨rfl, rfl, rfl⟩ ?_)))
   . exact ⟨rfl, rfl, fun _ _ => ⟨rfl, okD_sl _⟩⟩
   . exact Eq.mpr (congrArg KpI (toN_row0 neH_rd _)) hk1
   conv => whnf
   refine fin_acc (s := s2) (d := 11) hRe ha rfl (fun p h j => (updE_ne h).trans (rowT_ne h)) (updE_atK.trans rfl) (updE_atK.trans rfl) (updE_atK.trans rfl) rfl rfl rfl rfl fun q hq j hj => (neH.sh _ j hj).le
 | false =>
   obtain ⟨T, eT⟩ : ∃ T, newT 2 3 2 now draw = T := ⟨_, rfl⟩
   obtain ⟨x, ex⟩ : ∃ x : Hel, (⟨c.num, c.data, T.1, afterF now 20⟩ : Hel) = x := ⟨_, rfl⟩
   have exn : newH c now draw = x := by rw [<- ex]; unfold newH afterF; rw [eT]
   have hRe : R = (L.set a (addSd s1 x (plcH c.num s1.held 0).1), true, 0) := by
    rw [hR]; unfold accS; rw [if_neg hmin, if_neg (by rw [hno]; simp), if_neg (by simp), es1, exn]
   repeat' (first | (simp only [z0]) | (apply And.intro <;> intro hc <;> (first | exact Bool.noConfusion hc | (exfalso; first | exact absurd rfl hc | omega) | (simp only [zb0, ne_eq, not_true_eq_false] at hc <;> first | exact absurd rfl hc | (exfalso; first | exact absurd rfl hc | omega) | skip) | skip)) | (refine And.intro zp1 ?_) | (apply And.intro) | (intro s hs; (first | (have q : T = s := eT.symm.trans hs.symm; clear hs; subst q) | subst hs)) | (refine Exists.intro _ (And.intro ⟨rfl, rfl, rfl⟩ ?_)))
   conv => whnf
   refine loop_intro (mono_of LRn_ok) (fun u : {u : Nat × Bool × List Hel // u.1 <= s1.held.length /\ InsI (plcH c.num s1.held 0).1 x s1.held u.1 u.2.1 u.2.2} => (⟨[(13, one (.os 1 0 L.length)), (18, one (.int .i64 (a : Int))), (19, one (.ptr 3 0 0 false)), (23, one (.ptr 4 0 0 false)), (24, one (.os 5 0 u.1.2.2.length)), (25, one (.bool u.1.2.1)), (191, one (.os 2 0 s1.held.length)), (192, one (.int .i64 (s1.held.length : Int))), (193, one (.int .i64 (u.1.1 : Int)))], [(1, some ⟨78, L.length, 3, false, rowT a L⟩), (2, some (entN neH 85 s1.held)), (3, some ⟨78, 1, 3, true, fun _ => sdO 2 s1⟩), (4, some ⟨85, 1, 11, true, fun _ => neH.cell x⟩), (5, some (entN neH 85 u.1.2.2))], 6⟩ : Hd)) (fun u => s1.held.length - u.1.1) (fun _ => rfl) ?_ ⟨(0, false, []), Nat.zero_le _, .no (Nat.zero_le _)⟩ [(4, some 23), (5, none)] ⟨rfl, ⟨leF_c (leC_os rfl rfl), leF_int rfl, leF_ptr rfl, leF_ptr rfl, leF_c (leC_nils_os rfl), leF_bool rfl, leF_c (leC_os rfl rfl), leF_int rfl, leF_int rfl, trivial⟩, ⟨⟨rfl, ⟨rfl, rfl, rfl, rfl, fun p hp j hj => rowT_le hj fun h => rowT_ne h⟩⟩, ⟨rfl, leN_entN⟩, ⟨rfl, leN_varA (sdO_le rfl)⟩, ⟨rfl, leN_varA (lt11c ⟨leC_int (by rw [<- ex]), leC_os_sl rfl rfl rfl (by rw [<- ex]) (Nat.le_of_eq (Nat.zero_add _)) (fun q hq j hj => leC_int (by rw [<- ex]; exact congrArg (fun z => c.data.getD z default) (Nat.zero_add q))), leC_int (by rw [<- ex]), leC_int (by rw [<- ex]), leC_int (by rw [<- ex]), leC_int (by rw [<- ex]), leC_int (by rw [<- ex]), leC_int (by rw [<- ex]), leC_int (by rw [<- ex]), leC_bool (by rw [<- ex]), leC_int (by rw [<- ex])⟩)⟩, ⟨rfl, rfl, rfl, Nat.le_of_ble_eq_true rfl⟩, trivial⟩⟩
   have exx : x.num = c.num := by rw [<- ex]
   obtain ⟨g, eg⟩ : ∃ g, (plcH c.num s1.held 0).1 = g := ⟨_, rfl⟩
   have hgl : g <= s1.held.length := by rw [<- eg]; have := (plc_le (id := c.num) (L := s1.held) (k := 0)).1; omega
   have hlt : ∀ p, p < g -> (s1.held.getD p default).num < c.num := fun p hp => by
    have := plc_lt (n := c.num) (L := s1.held) (k := 0) (p := p) (Nat.zero_le _) (by rw [eg]; exact hp)
    rwa [Nat.sub_zero] at this
   have hat : g < s1.held.length -> c.num < (s1.held.getD g default).num := fun hp => by
    have := plc_at (n := c.num) (L := s1.held) (k := 0) hno1 (by rw [eg]; exact hp)
    rwa [eg, Nat.sub_zero] at this
   rw [eg] at hRe ⊢
   rintro ⟨⟨p, dn, Lo⟩, hp, hIn⟩
   dsimp only at hp hIn ⊢
   by_cases hpl : p < s1.held.length
   . have w5 : IntKind.i64.wrap ((p : Int) + 1) = ((p + 1 : Nat) : Int) := (IntWalk.i64_in _ (by omega)).trans (by omega)
     have z1 : 0 + (p : Int).toNat = p := Nat.zero_add p
     obtain ⟨h, eh⟩ : ∃ h, s1.held.getD p default = h := ⟨_, rfl⟩
     have eck : rowN neH s1.held p = neH.cell h := congrArg neH.cell eh
     have hLl := ins_len hIn
     cases hIn with
     | no hpg =>
       by_cases hpq : p < g
       . have hlt1 := hlt p hpq
         rw [eh] at hlt1
         have hnx := ins_no (x := x) hpq hpl
         rw [eh] at hnx
         repeat' (first | (simp only [z1, eck]) | (apply And.intro <;> intro hc <;> (first | exact Bool.noConfusion hc | (exfalso; first | exact absurd rfl hc | omega) | (simp only [zb0, ne_eq, not_true_eq_false] at hc <;> first | exact absurd rfl hc | (exfalso; first | exact absurd rfl hc | omega) | skip) | skip)) | (refine And.intro zp1 ?_) | (apply And.intro) | (intro s hs; skip) | (refine Exists.intro _ (And.intro ⟨rfl, rfl, rfl⟩ ?_)))
         conv => whnf
         exact ⟨⟨(p + 1, false, s1.held.take p ++ [h]), hpl, hnx⟩, [(5, some 23)], by dsimp only; omega, rfl, ⟨leF_c (leC_os rfl rfl), leF_int rfl, leF_ptr rfl, leF_ptr rfl, leF_c (leC_os rfl (by rw [List.length_append]; rfl)), leF_bool rfl, leF_c (leC_os rfl rfl), leF_int rfl, leF_int w5, trivial⟩, ⟨⟨rfl, ⟨rfl, rfl, rfl, rfl, fun p hp j hj => rowT_le hj fun h => rowT_ne h⟩⟩, ⟨rfl, leN_entN⟩, ⟨rfl, leN_varA (sdO_le rfl)⟩, ⟨rfl, leN_varA fun j hj => (neH.sh _ j hj).le⟩, ⟨rfl, helds_snoc rfl (lt11c ⟨leC_int rfl, (neH.sh h 1 (by decide)).le, leC_int rfl, leC_int rfl, leC_int rfl, leC_int rfl, leC_int rfl, leC_int rfl, leC_int rfl, leC_bool rfl, leC_int rfl⟩)⟩, trivial⟩⟩
       . obtain rfl : p = g := by omega
         have hat1 := hat hpl
         rw [eh] at hat1
         have hnx := ins_at (x := x) hpl
         rw [eh] at hnx
         repeat' (first | (simp only [z1, eck]) | (apply And.intro <;> intro hc <;> (first | exact Bool.noConfusion hc | (exfalso; first | exact absurd rfl hc | omega) | (simp only [zb0, ne_eq, not_true_eq_false] at hc <;> first | exact absurd rfl hc | (exfalso; first | exact absurd rfl hc | omega) | skip) | skip)) | (refine And.intro zp1 ?_) | (apply And.intro) | (intro s hs; skip) | (refine Exists.intro _ (And.intro ⟨rfl, rfl, rfl⟩ ?_)))
         conv => whnf
         exact ⟨⟨(p + 1, true, (s1.held.take p ++ [x]) ++ [h]), hpl, hnx⟩, [(5, some 29)], by dsimp only; omega, rfl, ⟨leF_c (leC_os rfl rfl), leF_int rfl, leF_ptr rfl, leF_ptr rfl, leF_c (leC_os rfl (by rw [List.length_append, List.length_append]; rfl)), leF_bool rfl, leF_c (leC_os rfl rfl), leF_int rfl, leF_int w5, trivial⟩, ⟨⟨rfl, ⟨rfl, rfl, rfl, rfl, fun p hp j hj => rowT_le hj fun h => rowT_ne h⟩⟩, ⟨rfl, leN_entN⟩, ⟨rfl, leN_varA (sdO_le rfl)⟩, ⟨rfl, leN_varA fun j hj => (neH.sh _ j hj).le⟩, ⟨rfl, helds_snoc2 (Z := s1.held.take p ++ [x]) (by rw [List.length_append]; rfl) (fun k hk j hj => snoc_cell (x := x) rfl hk hj (by
          iterate 11 (rcases j with _ | j; · first | exact leC_int rfl | exact leC_bool rfl | exact (neH.sh x 1 (by decide)).le)
          exact absurd hj (by omega))) (lt11c ⟨leC_int rfl, (neH.sh h 1 (by decide)).le, leC_int rfl, leC_int rfl, leC_int rfl, leC_int rfl, leC_int rfl, leC_int rfl, leC_int rfl, leC_bool rfl, leC_int rfl⟩)⟩, trivial⟩⟩
     | yes hgp =>
       have hnx := ins_yes (x := x) hgp hpl
       rw [eh] at hnx
       repeat' (first | (simp only [z1, eck]) | (apply And.intro <;> intro hc <;> (first | exact Bool.noConfusion hc | (exfalso; first | exact absurd rfl hc | omega) | (simp only [zb0, ne_eq, not_true_eq_false] at hc <;> first | exact absurd rfl hc | (exfalso; first | exact absurd rfl hc | omega) | skip) | skip)) | (refine And.intro zp1 ?_) | (apply And.intro) | (intro s hs; skip) | (refine Exists.intro _ (And.intro ⟨rfl, rfl, rfl⟩ ?_)))
       conv => whnf
       exact ⟨⟨(p + 1, true, (insA g x s1.held).take (p + 1) ++ [h]), hpl, hnx⟩, [(5, some 23)], by dsimp only; omega, rfl, ⟨leF_c (leC_os rfl rfl), leF_int rfl, leF_ptr rfl, leF_ptr rfl, leF_c (leC_os rfl (by rw [List.length_append]; rfl)), leF_bool rfl, leF_c (leC_os rfl rfl), leF_int rfl, leF_int w5, trivial⟩, ⟨⟨rfl, ⟨rfl, rfl, rfl, rfl, fun p hp j hj => rowT_le hj fun h => rowT_ne h⟩⟩, ⟨rfl, leN_entN⟩, ⟨rfl, leN_varA (sdO_le rfl)⟩, ⟨rfl, leN_varA fun j hj => (neH.sh _ j hj).le⟩, ⟨rfl, helds_snoc rfl (lt11c ⟨leC_int rfl, (neH.sh h 1 (by decide)).le, leC_int rfl, leC_int rfl, leC_int rfl, leC_int rfl, leC_int rfl, leC_int rfl, leC_int rfl, leC_bool rfl, leC_int rfl⟩)⟩, trivial⟩⟩
   . obtain rfl : p = s1.held.length := by omega
     cases hIn with
     | no hpg =>
       obtain rfl : s1.held.length = g := by omega
       repeat' (first | (simp only [z0]) | (apply And.intro <;> intro hc <;> (first | exact Bool.noConfusion hc | (exfalso; first | exact absurd rfl hc | omega) | (simp only [zb0, ne_eq, not_true_eq_false] at hc <;> first | exact absurd rfl hc | (exfalso; first | exact absurd rfl hc | omega) | skip) | skip)) | (refine And.intro zp1 ?_) | (apply And.intro) | (intro s hs; skip) | (refine Exists.intro _ (And.intro ⟨rfl, rfl, rfl⟩ ?_)))
       . show ((s1.held.take s1.held.length).length + 1) * 104 <= 140737488355328
         rw [List.length_take]; omega
       . rw [List.length_take]; omega
       have hAl : (addSd s1 x s1.held.length).held = s1.held.take s1.held.length ++ [x] := ins_end0.symm
       have hAn : (addSd s1 x s1.held.length).held.length = (s1.held.take s1.held.length).length + 1 := by rw [hAl, List.length_append]; rfl
       conv => whnf
       refine fin_acc (s := addSd s1 x s1.held.length) (d := 12) hRe ha rfl (fun p h j => (updE_ne h).trans (rowT_ne h)) (updE_atK.trans rfl) (updE_atK.trans rfl) (updE_atK.trans (by rw [hAn]; rfl)) rfl rfl hAn.symm rfl fun q hq j hj => ?_
       rw [hAl]
       refine snoc_cell rfl (by rw [hAn] at hq; exact hq) hj ?_
       iterate 11 (rcases j with _ | j; · first | exact leC_int rfl | exact leC_bool rfl | exact (neH.sh x 1 (by decide)).le)
       exact absurd hj (by omega)
     | yes hgp =>
       have hend := ins_end1 (x := x) hgl
       repeat' (first | (simp only [z0]) | (apply And.intro <;> intro hc <;> (first | exact Bool.noConfusion hc | (exfalso; first | exact absurd rfl hc | omega) | (simp only [zb0, ne_eq, not_true_eq_false] at hc <;> first | exact absurd rfl hc | (exfalso; first | exact absurd rfl hc | omega) | skip) | skip)) | (refine And.intro zp1 ?_) | (apply And.intro) | (intro s hs; skip) | (refine Exists.intro _ (And.intro ⟨rfl, rfl, rfl⟩ ?_)))
       have hAl : (addSd s1 x g).held = (insA g x s1.held).take (s1.held.length + 1) := hend.symm
       conv => whnf
       refine fin_acc (s := addSd s1 x g) (d := 5) hRe ha rfl (fun p h j => (updE_ne h).trans (rowT_ne h)) (updE_atK.trans rfl) (updE_atK.trans rfl) (updE_atK.trans (by rw [hAl]; rfl)) rfl rfl (by rw [hAl]; rfl) rfl fun q hq j hj => ?_
       rw [hAl]
       exact (neH.sh _ j hj).le
theorem racc_0 (L : List Sed) (now : Int) (c : Cas) (deaf : Bool) (draw : Int) (hI : AcR L 0 now c draw) (R : List Sed × Bool × Int) (hR : R = (L.set 0 (accS (L.getD 0 default) now c deaf draw).1, (accS (L.getD 0 default) now c deaf draw).2, 0))
 (ht : ∀ s1, raiseS (L.getD 0 default) (c.num - 31) = s1 -> SdOk s1 -> ¬ c.num < (L.getD 0 default).mn -> (plcH c.num (L.getD 0 default).held 0).2 = false -> (plcH c.num s1.held 0).2 = false -> Sem Try.prog Try.f39.ntmps 0 (dropC 11 (Try.f39.body.getD Code.ret)) (SBr L 0 s1 now c deaf draw ()).fr (SBr L 0 s1 now c deaf draw ()).H (SBr L 0 s1 now c deaf draw ()).nx (endH T Try.f39.results.toList fun x H _ => FinN (some R.1.length) (encAc R) (entN neS 78 R.1) x H)) :
 Sem Try.prog Try.f39.ntmps 0 (dropC 6 (Try.f39.body.getD Code.ret)) (SAr L 0 now c deaf draw ()).fr (SAr L 0 now c deaf draw ()).H (SAr L 0 now c deaf draw ()).nx (endH T Try.f39.results.toList fun x H _ => FinN (some R.1.length) (encAc R) (entN neS 78 R.1) x H) := by
 obtain ⟨hlt, hn9, hok, hnum, hd, hnow, hdr, hf⟩ := hI
 obtain ⟨s, es⟩ : ∃ s, L.getD 0 default = s := ⟨_, rfl⟩
 rw [es] at hok hR ht
 have hset : L.set 0 s = L := by rw [<- es]; exact gset_self hlt
 unfold SAr
 rw [es]
 refine sem_step (wd := 1) (Q := mkQ LRn) (by decide) tysOk (q_of LRn_ok) mixed ?_
 repeat' (first | (apply And.intro <;> intro hc <;> (first | exact Bool.noConfusion hc | (exfalso; first | exact absurd rfl hc | omega) | (simp only [zb0, ne_eq, not_true_eq_false] at hc <;> first | exact absurd rfl hc | (exfalso; first | exact absurd rfl hc | omega) | skip) | skip)) | (refine And.intro zp1 ?_) | (apply And.intro) | (intro s hs; (have q := rd_fndR hs (rowA_neI es.symm rfl) hf; clear hs; subst q)) | (refine Exists.intro _ (And.intro ⟨rfl, rfl, rfl⟩ ?_)))
 . exact rowA_okI
 . show (toN neI L.length fun k j => rowA 2 s 0 L (0 + k) j).length <= 9223372036854775807
   rw [toN_len]; omega
 refine sem_step (wd := 1) (Q := mkQ LRn) (by decide) tysOk (q_of LRn_ok) mixed ?_
 repeat' (first | (apply And.intro <;> intro hc <;> (first | exact Bool.noConfusion hc | (exfalso; first | exact absurd rfl hc | omega) | (simp only [zb0, ne_eq, not_true_eq_false] at hc <;> first | exact absurd rfl hc | (exfalso; first | exact absurd rfl hc | omega) | skip) | skip)) | (refine And.intro zp1 ?_) | (apply And.intro) | (intro s hs; skip) | (refine Exists.intro _ (And.intro ⟨rfl, rfl, rfl⟩ ?_)))
 refine sem_step (wd := 1) (Q := mkQ LRn) (by decide) tysOk (q_of LRn_ok) mixed ?_
 repeat' (first | (apply And.intro <;> intro hc <;> (first | exact Bool.noConfusion hc | (exfalso; first | exact absurd rfl hc | omega) | (simp only [zb0, ne_eq, not_true_eq_false] at hc <;> first | exact absurd rfl hc | (exfalso; first | exact absurd rfl hc | omega) | skip) | skip)) | (refine And.intro zp1 ?_) | (apply And.intro) | (intro s hs; skip) | (refine Exists.intro _ (And.intro ⟨rfl, rfl, rfl⟩ ?_)))
 . have hRe : R = (L, false, 0) := by
    rw [hR]; unfold accS; rw [if_pos (by assumption), hset]
   refine fin_acc (s := s) (d := 2) (hRe.trans (by rw [hset])) hlt rfl (fun p h j => rowA_ne h) rfl rfl rfl rfl rfl rfl rfl fun q hq j hj => (neH.sh _ j hj).le
 have hmin : ¬ c.num < s.mn := by assumption
 change Sem _ _ _ _ _ _ _ _
 refine sem_cut (wd := 1) (Q := mkQ LRn) (by decide) tysOk (q_of LRn_ok) (mono_of LRn_ok) mixed (fun _ : {u : Unit // (plcH c.num s.held 0).2 = false} => SLr L 0 s now c deaf draw) (by intro _; rfl) ?_ ?_
 . repeat' (first | (apply And.intro <;> intro hc <;> (first | exact Bool.noConfusion hc | (exfalso; first | exact absurd rfl hc | omega) | (simp only [zb0, ne_eq, not_true_eq_false] at hc <;> first | exact absurd rfl hc | (exfalso; first | exact absurd rfl hc | omega) | skip) | skip)) | (refine And.intro zp1 ?_) | (apply And.intro) | (intro s hs; skip) | (refine Exists.intro _ (And.intro ⟨rfl, rfl, rfl⟩ ?_)))
   conv => whnf
   refine loop_intro (mono_of LRn_ok) (fun u : {k : Nat // k <= s.held.length /\ ∀ p, p < k -> (s.held.getD p default).num ≠ c.num} => (⟨[(1, one (.int .i64 now)), (3, one (.bool deaf)), (4, one (.int .u32 draw)), (7, one (.ptr 0 0 0 false)), (13, one (.os 1 0 L.length)), (18, one (.int .i64 ((0 : Nat) : Int))), (19, one (.ptr 3 0 0 false)), (127, one (.int .i64 (s.held.length : Int))), (128, one (.int .i64 (u.1 : Int)))], [(0, some ⟨32, 1, 3, true, fun _ => neC.cell c⟩), (1, some ⟨78, L.length, 3, false, rowA 2 s 0 L⟩), (2, some (entN neH 85 s.held)), (3, some ⟨78, 1, 3, true, fun _ => sdO 2 s⟩)], 4⟩ : Hd)) (fun u => s.held.length - u.1) (fun _ => rfl) ?_ ⟨0, Nat.zero_le _, fun p hp => absurd hp (Nat.not_lt_zero p)⟩ [(3, some 12)] ⟨rfl, ⟨leF_int rfl, leF_bool rfl, leF_int rfl, leF_ptr rfl, leF_c (leC_os rfl rfl), leF_int rfl, leF_ptr rfl, leF_int rfl, leF_int rfl, trivial⟩, ⟨⟨rfl, leN_varA fun j hj => (neC.sh _ j hj).le⟩, ⟨rfl, ⟨rfl, rfl, rfl, rfl, fun p hp j hj => rowA_le hj rfl⟩⟩, ⟨rfl, leN_entN⟩, ⟨rfl, leN_varA (lt3c ⟨leC_int rfl, leC_int rfl, leC_os rfl rfl⟩)⟩, trivial⟩⟩
   rintro ⟨k, hk, hnk⟩
   dsimp only at hk hnk ⊢
   have hn32 := hok.n
   by_cases hkl : k < s.held.length
   . have w5 : IntKind.i64.wrap ((k : Int) + 1) = ((k + 1 : Nat) : Int) := (IntWalk.i64_in _ (by omega)).trans (by omega)
     have z0 : 0 + (k : Int).toNat = k := Nat.zero_add k
     obtain ⟨T, eT⟩ : ∃ T, hearT (s.held.getD k default).tm = T := ⟨_, rfl⟩
     repeat' (first | (simp only [z0]) | (apply And.intro <;> intro hc <;> (first | exact Bool.noConfusion hc | (exfalso; first | exact absurd rfl hc | omega) | (simp only [zb0, ne_eq, not_true_eq_false] at hc <;> first | exact absurd rfl hc | (exfalso; first | exact absurd rfl hc | omega) | skip) | skip)) | (refine And.intro zp1 ?_) | (apply And.intro) | (intro s hs; (have q : T = s := eT.symm.trans hs.symm; clear hs; subst q)) | (refine Exists.intro _ (And.intro ⟨rfl, rfl, rfl⟩ ?_)))
     . have hpl := plc_is hok.h hkl (by assumption)
       have hRe : R = (L.set 0 (hearS s k), false, 0) := by
        rw [hR]; unfold accS; rw [if_neg hmin, hpl, if_pos rfl]
       have hhe : hearS s k = ⟨s.id, s.mn, s.held.set k { s.held.getD k default with tm := T }⟩ := by unfold hearS; rw [eT]
       have hLh : (hearS s k).held.length = s.held.length := List.length_set
       conv => whnf
       refine fin_acc (s := hearS s k) (d := 2) hRe hlt rfl (fun p h j => rowA_ne h) rfl rfl (by rw [hLh]; rfl) rfl rfl hLh.symm rfl fun q hq j hj => ?_
       rw [hhe]
       exact (hel_row2 hkl (fun j hj => (Elem.flat _ _ _).le)).2 q (by rw [List.length_set, <- hLh]; exact hq) j hj
     . conv => whnf
       exact ⟨⟨k + 1, hkl, fun p hp => by
        by_cases h : p = k
        . subst h; assumption
        . exact hnk p (by omega)⟩, [], by dsimp only; omega, rfl, ⟨leF_int rfl, leF_bool rfl, leF_int rfl, leF_ptr rfl, leF_c (leC_os rfl rfl), leF_int rfl, leF_ptr rfl, leF_int rfl, leF_int w5, trivial⟩, ⟨⟨rfl, leN_varA fun j hj => (neC.sh _ j hj).le⟩, ⟨rfl, ⟨rfl, rfl, rfl, rfl, fun p hp j hj => rowA_le hj rfl⟩⟩, ⟨rfl, leN_entN⟩, ⟨rfl, leN_varA (lt3c ⟨leC_int rfl, leC_int rfl, leC_os rfl rfl⟩)⟩, trivial⟩⟩
   . repeat' (first | (apply And.intro <;> intro hc <;> (first | exact Bool.noConfusion hc | (exfalso; first | exact absurd rfl hc | omega) | (simp only [zb0, ne_eq, not_true_eq_false] at hc <;> first | exact absurd rfl hc | (exfalso; first | exact absurd rfl hc | omega) | skip) | skip)) | (refine And.intro zp1 ?_) | (apply And.intro) | (intro s hs; skip) | (refine Exists.intro _ (And.intro ⟨rfl, rfl, rfl⟩ ?_)))
     conv => whnf
     exact ⟨⟨(), plc_no fun p hp => hnk p (by omega)⟩, [], rfl, ⟨leF_int rfl, leF_bool rfl, leF_int rfl, leF_ptr rfl, leF_c (leC_os rfl rfl), leF_int rfl, leF_ptr rfl, trivial⟩, ⟨⟨rfl, leN_varA fun j hj => (neC.sh _ j hj).le⟩, ⟨rfl, ⟨rfl, rfl, rfl, rfl, fun p hp j hj => rowA_le hj rfl⟩⟩, ⟨rfl, leN_entN⟩, ⟨rfl, leN_varA (lt3c ⟨leC_int rfl, leC_int rfl, leC_os rfl rfl⟩)⟩, trivial⟩⟩
 . rintro ⟨_, hno⟩
   have hs1 : closeS s (c.num - 31) = raiseS s (c.num - 31) := close_raise hok
   obtain ⟨s1, es1⟩ : ∃ s1, raiseS s (c.num - 31) = s1 := ⟨_, rfl⟩
   rw [es1] at hs1
   have hok1 : SdOk s1 := by rw [<- es1]; exact raise_ok hok (by omega)
   have hk := hok.k
   have hmn := hok.mn
   have w31 : IntKind.i64.wrap (s.mn + 31) = s.mn + 31 := IntWalk.i64_in _ (by omega)
   have w32 : IntKind.i64.wrap (c.num - 31) = c.num - 31 := IntWalk.i64_in _ (by omega)
   unfold SLr
   change Sem _ _ _ _ _ _ _ _
   refine sem_cut (wd := 1) (Q := mkQ LRn) (by decide) tysOk (q_of LRn_ok) (mono_of LRn_ok) mixed (SBr L 0 s1 now c deaf draw) (by intro _; rfl) ?_ ?_
   . repeat' (first | (simp only [w31, w32]) | (apply And.intro <;> intro hc <;> (first | exact Bool.noConfusion hc | (exfalso; first | exact absurd rfl hc | omega) | (simp only [zb0, ne_eq, not_true_eq_false] at hc <;> first | exact absurd rfl hc | (exfalso; first | exact absurd rfl hc | omega) | skip) | skip)) | (refine And.intro zp1 ?_) | (apply And.intro) | (intro s hs; (have q := rd_close hs (sed_mk rfl rfl (toN_row0 neH_rd _)) hs1; clear hs; subst q)) | (refine Exists.intro _ (And.intro ⟨rfl, rfl, rfl⟩ ?_)))
     . exact ⟨rfl, rfl, fun _ _ => ⟨rfl, okD_sl _⟩⟩
     . exact Eq.mpr (congrArg KpI (toN_row0 neH_rd _)) hk
     . conv => whnf
       exact ⟨(), [(2, some 14)], rfl, ⟨leF_int rfl, leF_bool rfl, leF_int rfl, leF_ptr rfl, leF_c (leC_os rfl rfl), leF_int rfl, leF_ptr rfl, trivial⟩, ⟨⟨rfl, leN_varA fun j hj => (neC.sh _ j hj).le⟩, ⟨rfl, ⟨rfl, rfl, rfl, rfl, fun p hp j hj => rowT_le hj fun h => rowA_ne h⟩⟩, ⟨rfl, leN_entN⟩, ⟨rfl, leN_varA (lt3c ⟨leC_int rfl, leC_int rfl, leC_os rfl rfl⟩)⟩, trivial⟩⟩
     . have e1 : s1 = s := by rw [<- es1]; exact if_pos (by omega)
       conv => whnf
       exact ⟨(), [], rfl, ⟨leF_int rfl, leF_bool rfl, leF_int rfl, leF_ptr rfl, leF_c (leC_os rfl rfl), leF_int rfl, leF_ptr rfl, trivial⟩, ⟨⟨rfl, leN_varA fun j hj => (neC.sh _ j hj).le⟩, ⟨rfl, ⟨rfl, rfl, rfl, rfl, fun p hp j hj => rowT_le hj fun h => rowA_ne h⟩⟩, ⟨rfl, leN_eqN (by rw [e1])⟩, ⟨rfl, leN_varA (lt3c ⟨leC_int (by rw [e1]), leC_int (by rw [e1]), leC_os rfl (by rw [e1])⟩)⟩, trivial⟩⟩
   . intro _
     exact ht s1 es1 hok1 hmin hno (by rw [<- es1]; unfold raiseS; split; exact hno; exact plc_filter hok.h hno)
theorem racc_1 (L : List Sed) (now : Int) (c : Cas) (deaf : Bool) (draw : Int) (hI : AcR L 1 now c draw) (R : List Sed × Bool × Int) (hR : R = (L.set 1 (accS (L.getD 1 default) now c deaf draw).1, (accS (L.getD 1 default) now c deaf draw).2, 0))
 (ht : ∀ s1, raiseS (L.getD 1 default) (c.num - 31) = s1 -> SdOk s1 -> ¬ c.num < (L.getD 1 default).mn -> (plcH c.num (L.getD 1 default).held 0).2 = false -> (plcH c.num s1.held 0).2 = false -> Sem Try.prog Try.f39.ntmps 0 (dropC 11 (Try.f39.body.getD Code.ret)) (SBr L 1 s1 now c deaf draw ()).fr (SBr L 1 s1 now c deaf draw ()).H (SBr L 1 s1 now c deaf draw ()).nx (endH T Try.f39.results.toList fun x H _ => FinN (some R.1.length) (encAc R) (entN neS 78 R.1) x H)) :
 Sem Try.prog Try.f39.ntmps 0 (dropC 6 (Try.f39.body.getD Code.ret)) (SAr L 1 now c deaf draw ()).fr (SAr L 1 now c deaf draw ()).H (SAr L 1 now c deaf draw ()).nx (endH T Try.f39.results.toList fun x H _ => FinN (some R.1.length) (encAc R) (entN neS 78 R.1) x H) := by
 obtain ⟨hlt, hn9, hok, hnum, hd, hnow, hdr, hf⟩ := hI
 obtain ⟨s, es⟩ : ∃ s, L.getD 1 default = s := ⟨_, rfl⟩
 rw [es] at hok hR ht
 have hset : L.set 1 s = L := by rw [<- es]; exact gset_self hlt
 unfold SAr
 rw [es]
 refine sem_step (wd := 1) (Q := mkQ LRn) (by decide) tysOk (q_of LRn_ok) mixed ?_
 repeat' (first | (apply And.intro <;> intro hc <;> (first | exact Bool.noConfusion hc | (exfalso; first | exact absurd rfl hc | omega) | (simp only [zb0, ne_eq, not_true_eq_false] at hc <;> first | exact absurd rfl hc | (exfalso; first | exact absurd rfl hc | omega) | skip) | skip)) | (refine And.intro zp1 ?_) | (apply And.intro) | (intro s hs; (have q := rd_fndR hs (rowA_neI es.symm rfl) hf; clear hs; subst q)) | (refine Exists.intro _ (And.intro ⟨rfl, rfl, rfl⟩ ?_)))
 . exact rowA_okI
 . show (toN neI L.length fun k j => rowA 2 s 1 L (0 + k) j).length <= 9223372036854775807
   rw [toN_len]; omega
 refine sem_step (wd := 1) (Q := mkQ LRn) (by decide) tysOk (q_of LRn_ok) mixed ?_
 repeat' (first | (apply And.intro <;> intro hc <;> (first | exact Bool.noConfusion hc | (exfalso; first | exact absurd rfl hc | omega) | (simp only [zb0, ne_eq, not_true_eq_false] at hc <;> first | exact absurd rfl hc | (exfalso; first | exact absurd rfl hc | omega) | skip) | skip)) | (refine And.intro zp1 ?_) | (apply And.intro) | (intro s hs; skip) | (refine Exists.intro _ (And.intro ⟨rfl, rfl, rfl⟩ ?_)))
 refine sem_step (wd := 1) (Q := mkQ LRn) (by decide) tysOk (q_of LRn_ok) mixed ?_
 repeat' (first | (apply And.intro <;> intro hc <;> (first | exact Bool.noConfusion hc | (exfalso; first | exact absurd rfl hc | omega) | (simp only [zb0, ne_eq, not_true_eq_false] at hc <;> first | exact absurd rfl hc | (exfalso; first | exact absurd rfl hc | omega) | skip) | skip)) | (refine And.intro zp1 ?_) | (apply And.intro) | (intro s hs; skip) | (refine Exists.intro _ (And.intro ⟨rfl, rfl, rfl⟩ ?_)))
 . have hRe : R = (L, false, 0) := by
    rw [hR]; unfold accS; rw [if_pos (by assumption), hset]
   refine fin_acc (s := s) (d := 2) (hRe.trans (by rw [hset])) hlt rfl (fun p h j => rowA_ne h) rfl rfl rfl rfl rfl rfl rfl fun q hq j hj => (neH.sh _ j hj).le
 have hmin : ¬ c.num < s.mn := by assumption
 change Sem _ _ _ _ _ _ _ _
 refine sem_cut (wd := 1) (Q := mkQ LRn) (by decide) tysOk (q_of LRn_ok) (mono_of LRn_ok) mixed (fun _ : {u : Unit // (plcH c.num s.held 0).2 = false} => SLr L 1 s now c deaf draw) (by intro _; rfl) ?_ ?_
 . repeat' (first | (apply And.intro <;> intro hc <;> (first | exact Bool.noConfusion hc | (exfalso; first | exact absurd rfl hc | omega) | (simp only [zb0, ne_eq, not_true_eq_false] at hc <;> first | exact absurd rfl hc | (exfalso; first | exact absurd rfl hc | omega) | skip) | skip)) | (refine And.intro zp1 ?_) | (apply And.intro) | (intro s hs; skip) | (refine Exists.intro _ (And.intro ⟨rfl, rfl, rfl⟩ ?_)))
   conv => whnf
   refine loop_intro (mono_of LRn_ok) (fun u : {k : Nat // k <= s.held.length /\ ∀ p, p < k -> (s.held.getD p default).num ≠ c.num} => (⟨[(1, one (.int .i64 now)), (3, one (.bool deaf)), (4, one (.int .u32 draw)), (7, one (.ptr 0 0 0 false)), (13, one (.os 1 0 L.length)), (18, one (.int .i64 ((1 : Nat) : Int))), (19, one (.ptr 3 0 0 false)), (127, one (.int .i64 (s.held.length : Int))), (128, one (.int .i64 (u.1 : Int)))], [(0, some ⟨32, 1, 3, true, fun _ => neC.cell c⟩), (1, some ⟨78, L.length, 3, false, rowA 2 s 1 L⟩), (2, some (entN neH 85 s.held)), (3, some ⟨78, 1, 3, true, fun _ => sdO 2 s⟩)], 4⟩ : Hd)) (fun u => s.held.length - u.1) (fun _ => rfl) ?_ ⟨0, Nat.zero_le _, fun p hp => absurd hp (Nat.not_lt_zero p)⟩ [(3, some 12)] ⟨rfl, ⟨leF_int rfl, leF_bool rfl, leF_int rfl, leF_ptr rfl, leF_c (leC_os rfl rfl), leF_int rfl, leF_ptr rfl, leF_int rfl, leF_int rfl, trivial⟩, ⟨⟨rfl, leN_varA fun j hj => (neC.sh _ j hj).le⟩, ⟨rfl, ⟨rfl, rfl, rfl, rfl, fun p hp j hj => rowA_le hj rfl⟩⟩, ⟨rfl, leN_entN⟩, ⟨rfl, leN_varA (lt3c ⟨leC_int rfl, leC_int rfl, leC_os rfl rfl⟩)⟩, trivial⟩⟩
   rintro ⟨k, hk, hnk⟩
   dsimp only at hk hnk ⊢
   have hn32 := hok.n
   by_cases hkl : k < s.held.length
   . have w5 : IntKind.i64.wrap ((k : Int) + 1) = ((k + 1 : Nat) : Int) := (IntWalk.i64_in _ (by omega)).trans (by omega)
     have z0 : 0 + (k : Int).toNat = k := Nat.zero_add k
     obtain ⟨T, eT⟩ : ∃ T, hearT (s.held.getD k default).tm = T := ⟨_, rfl⟩
     repeat' (first | (simp only [z0]) | (apply And.intro <;> intro hc <;> (first | exact Bool.noConfusion hc | (exfalso; first | exact absurd rfl hc | omega) | (simp only [zb0, ne_eq, not_true_eq_false] at hc <;> first | exact absurd rfl hc | (exfalso; first | exact absurd rfl hc | omega) | skip) | skip)) | (refine And.intro zp1 ?_) | (apply And.intro) | (intro s hs; (have q : T = s := eT.symm.trans hs.symm; clear hs; subst q)) | (refine Exists.intro _ (And.intro ⟨rfl, rfl, rfl⟩ ?_)))
     . have hpl := plc_is hok.h hkl (by assumption)
       have hRe : R = (L.set 1 (hearS s k), false, 0) := by
        rw [hR]; unfold accS; rw [if_neg hmin, hpl, if_pos rfl]
       have hhe : hearS s k = ⟨s.id, s.mn, s.held.set k { s.held.getD k default with tm := T }⟩ := by unfold hearS; rw [eT]
       have hLh : (hearS s k).held.length = s.held.length := List.length_set
       conv => whnf
       refine fin_acc (s := hearS s k) (d := 2) hRe hlt rfl (fun p h j => rowA_ne h) rfl rfl (by rw [hLh]; rfl) rfl rfl hLh.symm rfl fun q hq j hj => ?_
       rw [hhe]
       exact (hel_row2 hkl (fun j hj => (Elem.flat _ _ _).le)).2 q (by rw [List.length_set, <- hLh]; exact hq) j hj
     . conv => whnf
       exact ⟨⟨k + 1, hkl, fun p hp => by
        by_cases h : p = k
        . subst h; assumption
        . exact hnk p (by omega)⟩, [], by dsimp only; omega, rfl, ⟨leF_int rfl, leF_bool rfl, leF_int rfl, leF_ptr rfl, leF_c (leC_os rfl rfl), leF_int rfl, leF_ptr rfl, leF_int rfl, leF_int w5, trivial⟩, ⟨⟨rfl, leN_varA fun j hj => (neC.sh _ j hj).le⟩, ⟨rfl, ⟨rfl, rfl, rfl, rfl, fun p hp j hj => rowA_le hj rfl⟩⟩, ⟨rfl, leN_entN⟩, ⟨rfl, leN_varA (lt3c ⟨leC_int rfl, leC_int rfl, leC_os rfl rfl⟩)⟩, trivial⟩⟩
   . repeat' (first | (apply And.intro <;> intro hc <;> (first | exact Bool.noConfusion hc | (exfalso; first | exact absurd rfl hc | omega) | (simp only [zb0, ne_eq, not_true_eq_false] at hc <;> first | exact absurd rfl hc | (exfalso; first | exact absurd rfl hc | omega) | skip) | skip)) | (refine And.intro zp1 ?_) | (apply And.intro) | (intro s hs; skip) | (refine Exists.intro _ (And.intro ⟨rfl, rfl, rfl⟩ ?_)))
     conv => whnf
     exact ⟨⟨(), plc_no fun p hp => hnk p (by omega)⟩, [], rfl, ⟨leF_int rfl, leF_bool rfl, leF_int rfl, leF_ptr rfl, leF_c (leC_os rfl rfl), leF_int rfl, leF_ptr rfl, trivial⟩, ⟨⟨rfl, leN_varA fun j hj => (neC.sh _ j hj).le⟩, ⟨rfl, ⟨rfl, rfl, rfl, rfl, fun p hp j hj => rowA_le hj rfl⟩⟩, ⟨rfl, leN_entN⟩, ⟨rfl, leN_varA (lt3c ⟨leC_int rfl, leC_int rfl, leC_os rfl rfl⟩)⟩, trivial⟩⟩
 . rintro ⟨_, hno⟩
   have hs1 : closeS s (c.num - 31) = raiseS s (c.num - 31) := close_raise hok
   obtain ⟨s1, es1⟩ : ∃ s1, raiseS s (c.num - 31) = s1 := ⟨_, rfl⟩
   rw [es1] at hs1
   have hok1 : SdOk s1 := by rw [<- es1]; exact raise_ok hok (by omega)
   have hk := hok.k
   have hmn := hok.mn
   have w31 : IntKind.i64.wrap (s.mn + 31) = s.mn + 31 := IntWalk.i64_in _ (by omega)
   have w32 : IntKind.i64.wrap (c.num - 31) = c.num - 31 := IntWalk.i64_in _ (by omega)
   unfold SLr
   change Sem _ _ _ _ _ _ _ _
   refine sem_cut (wd := 1) (Q := mkQ LRn) (by decide) tysOk (q_of LRn_ok) (mono_of LRn_ok) mixed (SBr L 1 s1 now c deaf draw) (by intro _; rfl) ?_ ?_
   . repeat' (first | (simp only [w31, w32]) | (apply And.intro <;> intro hc <;> (first | exact Bool.noConfusion hc | (exfalso; first | exact absurd rfl hc | omega) | (simp only [zb0, ne_eq, not_true_eq_false] at hc <;> first | exact absurd rfl hc | (exfalso; first | exact absurd rfl hc | omega) | skip) | skip)) | (refine And.intro zp1 ?_) | (apply And.intro) | (intro s hs; (have q := rd_close hs (sed_mk rfl rfl (toN_row0 neH_rd _)) hs1; clear hs; subst q)) | (refine Exists.intro _ (And.intro ⟨rfl, rfl, rfl⟩ ?_)))
     . exact ⟨rfl, rfl, fun _ _ => ⟨rfl, okD_sl _⟩⟩
     . exact Eq.mpr (congrArg KpI (toN_row0 neH_rd _)) hk
     . conv => whnf
       exact ⟨(), [(2, some 14)], rfl, ⟨leF_int rfl, leF_bool rfl, leF_int rfl, leF_ptr rfl, leF_c (leC_os rfl rfl), leF_int rfl, leF_ptr rfl, trivial⟩, ⟨⟨rfl, leN_varA fun j hj => (neC.sh _ j hj).le⟩, ⟨rfl, ⟨rfl, rfl, rfl, rfl, fun p hp j hj => rowT_le hj fun h => rowA_ne h⟩⟩, ⟨rfl, leN_entN⟩, ⟨rfl, leN_varA (lt3c ⟨leC_int rfl, leC_int rfl, leC_os rfl rfl⟩)⟩, trivial⟩⟩
     . have e1 : s1 = s := by rw [<- es1]; exact if_pos (by omega)
       conv => whnf
       exact ⟨(), [], rfl, ⟨leF_int rfl, leF_bool rfl, leF_int rfl, leF_ptr rfl, leF_c (leC_os rfl rfl), leF_int rfl, leF_ptr rfl, trivial⟩, ⟨⟨rfl, leN_varA fun j hj => (neC.sh _ j hj).le⟩, ⟨rfl, ⟨rfl, rfl, rfl, rfl, fun p hp j hj => rowT_le hj fun h => rowA_ne h⟩⟩, ⟨rfl, leN_eqN (by rw [e1])⟩, ⟨rfl, leN_varA (lt3c ⟨leC_int (by rw [e1]), leC_int (by rw [e1]), leC_os rfl (by rw [e1])⟩)⟩, trivial⟩⟩
   . intro _
     exact ht s1 es1 hok1 hmin hno (by rw [<- es1]; unfold raiseS; split; exact hno; exact plc_filter hok.h hno)
theorem racc_2 (L : List Sed) (now : Int) (c : Cas) (deaf : Bool) (draw : Int) (hI : AcR L 2 now c draw) (R : List Sed × Bool × Int) (hR : R = (L.set 2 (accS (L.getD 2 default) now c deaf draw).1, (accS (L.getD 2 default) now c deaf draw).2, 0))
 (ht : ∀ s1, raiseS (L.getD 2 default) (c.num - 31) = s1 -> SdOk s1 -> ¬ c.num < (L.getD 2 default).mn -> (plcH c.num (L.getD 2 default).held 0).2 = false -> (plcH c.num s1.held 0).2 = false -> Sem Try.prog Try.f39.ntmps 0 (dropC 11 (Try.f39.body.getD Code.ret)) (SBr L 2 s1 now c deaf draw ()).fr (SBr L 2 s1 now c deaf draw ()).H (SBr L 2 s1 now c deaf draw ()).nx (endH T Try.f39.results.toList fun x H _ => FinN (some R.1.length) (encAc R) (entN neS 78 R.1) x H)) :
 Sem Try.prog Try.f39.ntmps 0 (dropC 6 (Try.f39.body.getD Code.ret)) (SAr L 2 now c deaf draw ()).fr (SAr L 2 now c deaf draw ()).H (SAr L 2 now c deaf draw ()).nx (endH T Try.f39.results.toList fun x H _ => FinN (some R.1.length) (encAc R) (entN neS 78 R.1) x H) := by
 obtain ⟨hlt, hn9, hok, hnum, hd, hnow, hdr, hf⟩ := hI
 obtain ⟨s, es⟩ : ∃ s, L.getD 2 default = s := ⟨_, rfl⟩
 rw [es] at hok hR ht
 have hset : L.set 2 s = L := by rw [<- es]; exact gset_self hlt
 unfold SAr
 rw [es]
 refine sem_step (wd := 1) (Q := mkQ LRn) (by decide) tysOk (q_of LRn_ok) mixed ?_
 repeat' (first | (apply And.intro <;> intro hc <;> (first | exact Bool.noConfusion hc | (exfalso; first | exact absurd rfl hc | omega) | (simp only [zb0, ne_eq, not_true_eq_false] at hc <;> first | exact absurd rfl hc | (exfalso; first | exact absurd rfl hc | omega) | skip) | skip)) | (refine And.intro zp1 ?_) | (apply And.intro) | (intro s hs; (have q := rd_fndR hs (rowA_neI es.symm rfl) hf; clear hs; subst q)) | (refine Exists.intro _ (And.intro ⟨rfl, rfl, rfl⟩ ?_)))
 . exact rowA_okI
 . show (toN neI L.length fun k j => rowA 2 s 2 L (0 + k) j).length <= 9223372036854775807
   rw [toN_len]; omega
 refine sem_step (wd := 1) (Q := mkQ LRn) (by decide) tysOk (q_of LRn_ok) mixed ?_
 repeat' (first | (apply And.intro <;> intro hc <;> (first | exact Bool.noConfusion hc | (exfalso; first | exact absurd rfl hc | omega) | (simp only [zb0, ne_eq, not_true_eq_false] at hc <;> first | exact absurd rfl hc | (exfalso; first | exact absurd rfl hc | omega) | skip) | skip)) | (refine And.intro zp1 ?_) | (apply And.intro) | (intro s hs; skip) | (refine Exists.intro _ (And.intro ⟨rfl, rfl, rfl⟩ ?_)))
 refine sem_step (wd := 1) (Q := mkQ LRn) (by decide) tysOk (q_of LRn_ok) mixed ?_
 repeat' (first | (apply And.intro <;> intro hc <;> (first | exact Bool.noConfusion hc | (exfalso; first | exact absurd rfl hc | omega) | (simp only [zb0, ne_eq, not_true_eq_false] at hc <;> first | exact absurd rfl hc | (exfalso; first | exact absurd rfl hc | omega) | skip) | skip)) | (refine And.intro zp1 ?_) | (apply And.intro) | (intro s hs; skip) | (refine Exists.intro _ (And.intro ⟨rfl, rfl, rfl⟩ ?_)))
 . have hRe : R = (L, false, 0) := by
    rw [hR]; unfold accS; rw [if_pos (by assumption), hset]
   refine fin_acc (s := s) (d := 2) (hRe.trans (by rw [hset])) hlt rfl (fun p h j => rowA_ne h) rfl rfl rfl rfl rfl rfl rfl fun q hq j hj => (neH.sh _ j hj).le
 have hmin : ¬ c.num < s.mn := by assumption
 change Sem _ _ _ _ _ _ _ _
 refine sem_cut (wd := 1) (Q := mkQ LRn) (by decide) tysOk (q_of LRn_ok) (mono_of LRn_ok) mixed (fun _ : {u : Unit // (plcH c.num s.held 0).2 = false} => SLr L 2 s now c deaf draw) (by intro _; rfl) ?_ ?_
 . repeat' (first | (apply And.intro <;> intro hc <;> (first | exact Bool.noConfusion hc | (exfalso; first | exact absurd rfl hc | omega) | (simp only [zb0, ne_eq, not_true_eq_false] at hc <;> first | exact absurd rfl hc | (exfalso; first | exact absurd rfl hc | omega) | skip) | skip)) | (refine And.intro zp1 ?_) | (apply And.intro) | (intro s hs; skip) | (refine Exists.intro _ (And.intro ⟨rfl, rfl, rfl⟩ ?_)))
   conv => whnf
   refine loop_intro (mono_of LRn_ok) (fun u : {k : Nat // k <= s.held.length /\ ∀ p, p < k -> (s.held.getD p default).num ≠ c.num} => (⟨[(1, one (.int .i64 now)), (3, one (.bool deaf)), (4, one (.int .u32 draw)), (7, one (.ptr 0 0 0 false)), (13, one (.os 1 0 L.length)), (18, one (.int .i64 ((2 : Nat) : Int))), (19, one (.ptr 3 0 0 false)), (127, one (.int .i64 (s.held.length : Int))), (128, one (.int .i64 (u.1 : Int)))], [(0, some ⟨32, 1, 3, true, fun _ => neC.cell c⟩), (1, some ⟨78, L.length, 3, false, rowA 2 s 2 L⟩), (2, some (entN neH 85 s.held)), (3, some ⟨78, 1, 3, true, fun _ => sdO 2 s⟩)], 4⟩ : Hd)) (fun u => s.held.length - u.1) (fun _ => rfl) ?_ ⟨0, Nat.zero_le _, fun p hp => absurd hp (Nat.not_lt_zero p)⟩ [(3, some 12)] ⟨rfl, ⟨leF_int rfl, leF_bool rfl, leF_int rfl, leF_ptr rfl, leF_c (leC_os rfl rfl), leF_int rfl, leF_ptr rfl, leF_int rfl, leF_int rfl, trivial⟩, ⟨⟨rfl, leN_varA fun j hj => (neC.sh _ j hj).le⟩, ⟨rfl, ⟨rfl, rfl, rfl, rfl, fun p hp j hj => rowA_le hj rfl⟩⟩, ⟨rfl, leN_entN⟩, ⟨rfl, leN_varA (lt3c ⟨leC_int rfl, leC_int rfl, leC_os rfl rfl⟩)⟩, trivial⟩⟩
   rintro ⟨k, hk, hnk⟩
   dsimp only at hk hnk ⊢
   have hn32 := hok.n
   by_cases hkl : k < s.held.length
   . have w5 : IntKind.i64.wrap ((k : Int) + 1) = ((k + 1 : Nat) : Int) := (IntWalk.i64_in _ (by omega)).trans (by omega)
     have z0 : 0 + (k : Int).toNat = k := Nat.zero_add k
     obtain ⟨T, eT⟩ : ∃ T, hearT (s.held.getD k default).tm = T := ⟨_, rfl⟩
     repeat' (first | (simp only [z0]) | (apply And.intro <;> intro hc <;> (first | exact Bool.noConfusion hc | (exfalso; first | exact absurd rfl hc | omega) | (simp only [zb0, ne_eq, not_true_eq_false] at hc <;> first | exact absurd rfl hc | (exfalso; first | exact absurd rfl hc | omega) | skip) | skip)) | (refine And.intro zp1 ?_) | (apply And.intro) | (intro s hs; (have q : T = s := eT.symm.trans hs.symm; clear hs; subst q)) | (refine Exists.intro _ (And.intro ⟨rfl, rfl, rfl⟩ ?_)))
     . have hpl := plc_is hok.h hkl (by assumption)
       have hRe : R = (L.set 2 (hearS s k), false, 0) := by
        rw [hR]; unfold accS; rw [if_neg hmin, hpl, if_pos rfl]
       have hhe : hearS s k = ⟨s.id, s.mn, s.held.set k { s.held.getD k default with tm := T }⟩ := by unfold hearS; rw [eT]
       have hLh : (hearS s k).held.length = s.held.length := List.length_set
       conv => whnf
       refine fin_acc (s := hearS s k) (d := 2) hRe hlt rfl (fun p h j => rowA_ne h) rfl rfl (by rw [hLh]; rfl) rfl rfl hLh.symm rfl fun q hq j hj => ?_
       rw [hhe]
       exact (hel_row2 hkl (fun j hj => (Elem.flat _ _ _).le)).2 q (by rw [List.length_set, <- hLh]; exact hq) j hj
     . conv => whnf
       exact ⟨⟨k + 1, hkl, fun p hp => by
        by_cases h : p = k
        . subst h; assumption
        . exact hnk p (by omega)⟩, [], by dsimp only; omega, rfl, ⟨leF_int rfl, leF_bool rfl, leF_int rfl, leF_ptr rfl, leF_c (leC_os rfl rfl), leF_int rfl, leF_ptr rfl, leF_int rfl, leF_int w5, trivial⟩, ⟨⟨rfl, leN_varA fun j hj => (neC.sh _ j hj).le⟩, ⟨rfl, ⟨rfl, rfl, rfl, rfl, fun p hp j hj => rowA_le hj rfl⟩⟩, ⟨rfl, leN_entN⟩, ⟨rfl, leN_varA (lt3c ⟨leC_int rfl, leC_int rfl, leC_os rfl rfl⟩)⟩, trivial⟩⟩
   . repeat' (first | (apply And.intro <;> intro hc <;> (first | exact Bool.noConfusion hc | (exfalso; first | exact absurd rfl hc | omega) | (simp only [zb0, ne_eq, not_true_eq_false] at hc <;> first | exact absurd rfl hc | (exfalso; first | exact absurd rfl hc | omega) | skip) | skip)) | (refine And.intro zp1 ?_) | (apply And.intro) | (intro s hs; skip) | (refine Exists.intro _ (And.intro ⟨rfl, rfl, rfl⟩ ?_)))
     conv => whnf
     exact ⟨⟨(), plc_no fun p hp => hnk p (by omega)⟩, [], rfl, ⟨leF_int rfl, leF_bool rfl, leF_int rfl, leF_ptr rfl, leF_c (leC_os rfl rfl), leF_int rfl, leF_ptr rfl, trivial⟩, ⟨⟨rfl, leN_varA fun j hj => (neC.sh _ j hj).le⟩, ⟨rfl, ⟨rfl, rfl, rfl, rfl, fun p hp j hj => rowA_le hj rfl⟩⟩, ⟨rfl, leN_entN⟩, ⟨rfl, leN_varA (lt3c ⟨leC_int rfl, leC_int rfl, leC_os rfl rfl⟩)⟩, trivial⟩⟩
 . rintro ⟨_, hno⟩
   have hs1 : closeS s (c.num - 31) = raiseS s (c.num - 31) := close_raise hok
   obtain ⟨s1, es1⟩ : ∃ s1, raiseS s (c.num - 31) = s1 := ⟨_, rfl⟩
   rw [es1] at hs1
   have hok1 : SdOk s1 := by rw [<- es1]; exact raise_ok hok (by omega)
   have hk := hok.k
   have hmn := hok.mn
   have w31 : IntKind.i64.wrap (s.mn + 31) = s.mn + 31 := IntWalk.i64_in _ (by omega)
   have w32 : IntKind.i64.wrap (c.num - 31) = c.num - 31 := IntWalk.i64_in _ (by omega)
   unfold SLr
   change Sem _ _ _ _ _ _ _ _
   refine sem_cut (wd := 1) (Q := mkQ LRn) (by decide) tysOk (q_of LRn_ok) (mono_of LRn_ok) mixed (SBr L 2 s1 now c deaf draw) (by intro _; rfl) ?_ ?_
   . repeat' (first | (simp only [w31, w32]) | (apply And.intro <;> intro hc <;> (first | exact Bool.noConfusion hc | (exfalso; first | exact absurd rfl hc | omega) | (simp only [zb0, ne_eq, not_true_eq_false] at hc <;> first | exact absurd rfl hc | (exfalso; first | exact absurd rfl hc | omega) | skip) | skip)) | (refine And.intro zp1 ?_) | (apply And.intro) | (intro s hs; (have q := rd_close hs (sed_mk rfl rfl (toN_row0 neH_rd _)) hs1; clear hs; subst q)) | (refine Exists.intro _ (And.intro ⟨rfl, rfl, rfl⟩ ?_)))
     . exact ⟨rfl, rfl, fun _ _ => ⟨rfl, okD_sl _⟩⟩
     . exact Eq.mpr (congrArg KpI (toN_row0 neH_rd _)) hk
     . conv => whnf
       exact ⟨(), [(2, some 14)], rfl, ⟨leF_int rfl, leF_bool rfl, leF_int rfl, leF_ptr rfl, leF_c (leC_os rfl rfl), leF_int rfl, leF_ptr rfl, trivial⟩, ⟨⟨rfl, leN_varA fun j hj => (neC.sh _ j hj).le⟩, ⟨rfl, ⟨rfl, rfl, rfl, rfl, fun p hp j hj => rowT_le hj fun h => rowA_ne h⟩⟩, ⟨rfl, leN_entN⟩, ⟨rfl, leN_varA (lt3c ⟨leC_int rfl, leC_int rfl, leC_os rfl rfl⟩)⟩, trivial⟩⟩
     . have e1 : s1 = s := by rw [<- es1]; exact if_pos (by omega)
       conv => whnf
       exact ⟨(), [], rfl, ⟨leF_int rfl, leF_bool rfl, leF_int rfl, leF_ptr rfl, leF_c (leC_os rfl rfl), leF_int rfl, leF_ptr rfl, trivial⟩, ⟨⟨rfl, leN_varA fun j hj => (neC.sh _ j hj).le⟩, ⟨rfl, ⟨rfl, rfl, rfl, rfl, fun p hp j hj => rowT_le hj fun h => rowA_ne h⟩⟩, ⟨rfl, leN_eqN (by rw [e1])⟩, ⟨rfl, leN_varA (lt3c ⟨leC_int (by rw [e1]), leC_int (by rw [e1]), leC_os rfl (by rw [e1])⟩)⟩, trivial⟩⟩
   . intro _
     exact ht s1 es1 hok1 hmin hno (by rw [<- es1]; unfold raiseS; split; exact hno; exact plc_filter hok.h hno)
theorem racc_3 (L : List Sed) (now : Int) (c : Cas) (deaf : Bool) (draw : Int) (hI : AcR L 3 now c draw) (R : List Sed × Bool × Int) (hR : R = (L.set 3 (accS (L.getD 3 default) now c deaf draw).1, (accS (L.getD 3 default) now c deaf draw).2, 0))
 (ht : ∀ s1, raiseS (L.getD 3 default) (c.num - 31) = s1 -> SdOk s1 -> ¬ c.num < (L.getD 3 default).mn -> (plcH c.num (L.getD 3 default).held 0).2 = false -> (plcH c.num s1.held 0).2 = false -> Sem Try.prog Try.f39.ntmps 0 (dropC 11 (Try.f39.body.getD Code.ret)) (SBr L 3 s1 now c deaf draw ()).fr (SBr L 3 s1 now c deaf draw ()).H (SBr L 3 s1 now c deaf draw ()).nx (endH T Try.f39.results.toList fun x H _ => FinN (some R.1.length) (encAc R) (entN neS 78 R.1) x H)) :
 Sem Try.prog Try.f39.ntmps 0 (dropC 6 (Try.f39.body.getD Code.ret)) (SAr L 3 now c deaf draw ()).fr (SAr L 3 now c deaf draw ()).H (SAr L 3 now c deaf draw ()).nx (endH T Try.f39.results.toList fun x H _ => FinN (some R.1.length) (encAc R) (entN neS 78 R.1) x H) := by
 obtain ⟨hlt, hn9, hok, hnum, hd, hnow, hdr, hf⟩ := hI
 obtain ⟨s, es⟩ : ∃ s, L.getD 3 default = s := ⟨_, rfl⟩
 rw [es] at hok hR ht
 have hset : L.set 3 s = L := by rw [<- es]; exact gset_self hlt
 unfold SAr
 rw [es]
 refine sem_step (wd := 1) (Q := mkQ LRn) (by decide) tysOk (q_of LRn_ok) mixed ?_
 repeat' (first | (apply And.intro <;> intro hc <;> (first | exact Bool.noConfusion hc | (exfalso; first | exact absurd rfl hc | omega) | (simp only [zb0, ne_eq, not_true_eq_false] at hc <;> first | exact absurd rfl hc | (exfalso; first | exact absurd rfl hc | omega) | skip) | skip)) | (refine And.intro zp1 ?_) | (apply And.intro) | (intro s hs; (have q := rd_fndR hs (rowA_neI es.symm rfl) hf; clear hs; subst q)) | (refine Exists.intro _ (And.intro ⟨rfl, rfl, rfl⟩ ?_)))
 . exact rowA_okI
 . show (toN neI L.length fun k j => rowA 2 s 3 L (0 + k) j).length <= 9223372036854775807
   rw [toN_len]; omega
 refine sem_step (wd := 1) (Q := mkQ LRn) (by decide) tysOk (q_of LRn_ok) mixed ?_
 repeat' (first | (apply And.intro <;> intro hc <;> (first | exact Bool.noConfusion hc | (exfalso; first | exact absurd rfl hc | omega) | (simp only [zb0, ne_eq, not_true_eq_false] at hc <;> first | exact absurd rfl hc | (exfalso; first | exact absurd rfl hc | omega) | skip) | skip)) | (refine And.intro zp1 ?_) | (apply And.intro) | (intro s hs; skip) | (refine Exists.intro _ (And.intro ⟨rfl, rfl, rfl⟩ ?_)))
 refine sem_step (wd := 1) (Q := mkQ LRn) (by decide) tysOk (q_of LRn_ok) mixed ?_
 repeat' (first | (apply And.intro <;> intro hc <;> (first | exact Bool.noConfusion hc | (exfalso; first | exact absurd rfl hc | omega) | (simp only [zb0, ne_eq, not_true_eq_false] at hc <;> first | exact absurd rfl hc | (exfalso; first | exact absurd rfl hc | omega) | skip) | skip)) | (refine And.intro zp1 ?_) | (apply And.intro) | (intro s hs; skip) | (refine Exists.intro _ (And.intro ⟨rfl, rfl, rfl⟩ ?_)))
 . have hRe : R = (L, false, 0) := by
    rw [hR]; unfold accS; rw [if_pos (by assumption), hset]
   refine fin_acc (s := s) (d := 2) (hRe.trans (by rw [hset])) hlt rfl (fun p h j => rowA_ne h) rfl rfl rfl rfl rfl rfl rfl fun q hq j hj => (neH.sh _ j hj).le
 have hmin : ¬ c.num < s.mn := by assumption
 change Sem _ _ _ _ _ _ _ _
 refine sem_cut (wd := 1) (Q := mkQ LRn) (by decide) tysOk (q_of LRn_ok) (mono_of LRn_ok) mixed (fun _ : {u : Unit // (plcH c.num s.held 0).2 = false} => SLr L 3 s now c deaf draw) (by intro _; rfl) ?_ ?_
 . repeat' (first | (apply And.intro <;> intro hc <;> (first | exact Bool.noConfusion hc | (exfalso; first | exact absurd rfl hc | omega) | (simp only [zb0, ne_eq, not_true_eq_false] at hc <;> first | exact absurd rfl hc | (exfalso; first | exact absurd rfl hc | omega) | skip) | skip)) | (refine And.intro zp1 ?_) | (apply And.intro) | (intro s hs; skip) | (refine Exists.intro _ (And.intro ⟨rfl, rfl, rfl⟩ ?_)))
   conv => whnf
   refine loop_intro (mono_of LRn_ok) (fun u : {k : Nat // k <= s.held.length /\ ∀ p, p < k -> (s.held.getD p default).num ≠ c.num} => (⟨[(1, one (.int .i64 now)), (3, one (.bool deaf)), (4, one (.int .u32 draw)), (7, one (.ptr 0 0 0 false)), (13, one (.os 1 0 L.length)), (18, one (.int .i64 ((3 : Nat) : Int))), (19, one (.ptr 3 0 0 false)), (127, one (.int .i64 (s.held.length : Int))), (128, one (.int .i64 (u.1 : Int)))], [(0, some ⟨32, 1, 3, true, fun _ => neC.cell c⟩), (1, some ⟨78, L.length, 3, false, rowA 2 s 3 L⟩), (2, some (entN neH 85 s.held)), (3, some ⟨78, 1, 3, true, fun _ => sdO 2 s⟩)], 4⟩ : Hd)) (fun u => s.held.length - u.1) (fun _ => rfl) ?_ ⟨0, Nat.zero_le _, fun p hp => absurd hp (Nat.not_lt_zero p)⟩ [(3, some 12)] ⟨rfl, ⟨leF_int rfl, leF_bool rfl, leF_int rfl, leF_ptr rfl, leF_c (leC_os rfl rfl), leF_int rfl, leF_ptr rfl, leF_int rfl, leF_int rfl, trivial⟩, ⟨⟨rfl, leN_varA fun j hj => (neC.sh _ j hj).le⟩, ⟨rfl, ⟨rfl, rfl, rfl, rfl, fun p hp j hj => rowA_le hj rfl⟩⟩, ⟨rfl, leN_entN⟩, ⟨rfl, leN_varA (lt3c ⟨leC_int rfl, leC_int rfl, leC_os rfl rfl⟩)⟩, trivial⟩⟩
   rintro ⟨k, hk, hnk⟩
   dsimp only at hk hnk ⊢
   have hn32 := hok.n
   by_cases hkl : k < s.held.length
   . have w5 : IntKind.i64.wrap ((k : Int) + 1) = ((k + 1 : Nat) : Int) := (IntWalk.i64_in _ (by omega)).trans (by omega)
     have z0 : 0 + (k : Int).toNat = k := Nat.zero_add k
     obtain ⟨T, eT⟩ : ∃ T, hearT (s.held.getD k default).tm = T := ⟨_, rfl⟩
     repeat' (first | (simp only [z0]) | (apply And.intro <;> intro hc <;> (first | exact Bool.noConfusion hc | (exfalso; first | exact absurd rfl hc | omega) | (simp only [zb0, ne_eq, not_true_eq_false] at hc <;> first | exact absurd rfl hc | (exfalso; first | exact absurd rfl hc | omega) | skip) | skip)) | (refine And.intro zp1 ?_) | (apply And.intro) | (intro s hs; (have q : T = s := eT.symm.trans hs.symm; clear hs; subst q)) | (refine Exists.intro _ (And.intro ⟨rfl, rfl, rfl⟩ ?_)))
     . have hpl := plc_is hok.h hkl (by assumption)
       have hRe : R = (L.set 3 (hearS s k), false, 0) := by
        rw [hR]; unfold accS; rw [if_neg hmin, hpl, if_pos rfl]
       have hhe : hearS s k = ⟨s.id, s.mn, s.held.set k { s.held.getD k default with tm := T }⟩ := by unfold hearS; rw [eT]
       have hLh : (hearS s k).held.length = s.held.length := List.length_set
       conv => whnf
       refine fin_acc (s := hearS s k) (d := 2) hRe hlt rfl (fun p h j => rowA_ne h) rfl rfl (by rw [hLh]; rfl) rfl rfl hLh.symm rfl fun q hq j hj => ?_
       rw [hhe]
       exact (hel_row2 hkl (fun j hj => (Elem.flat _ _ _).le)).2 q (by rw [List.length_set, <- hLh]; exact hq) j hj
     . conv => whnf
       exact ⟨⟨k + 1, hkl, fun p hp => by
        by_cases h : p = k
        . subst h; assumption
        . exact hnk p (by omega)⟩, [], by dsimp only; omega, rfl, ⟨leF_int rfl, leF_bool rfl, leF_int rfl, leF_ptr rfl, leF_c (leC_os rfl rfl), leF_int rfl, leF_ptr rfl, leF_int rfl, leF_int w5, trivial⟩, ⟨⟨rfl, leN_varA fun j hj => (neC.sh _ j hj).le⟩, ⟨rfl, ⟨rfl, rfl, rfl, rfl, fun p hp j hj => rowA_le hj rfl⟩⟩, ⟨rfl, leN_entN⟩, ⟨rfl, leN_varA (lt3c ⟨leC_int rfl, leC_int rfl, leC_os rfl rfl⟩)⟩, trivial⟩⟩
   . repeat' (first | (apply And.intro <;> intro hc <;> (first | exact Bool.noConfusion hc | (exfalso; first | exact absurd rfl hc | omega) | (simp only [zb0, ne_eq, not_true_eq_false] at hc <;> first | exact absurd rfl hc | (exfalso; first | exact absurd rfl hc | omega) | skip) | skip)) | (refine And.intro zp1 ?_) | (apply And.intro) | (intro s hs; skip) | (refine Exists.intro _ (And.intro ⟨rfl, rfl, rfl⟩ ?_)))
     conv => whnf
     exact ⟨⟨(), plc_no fun p hp => hnk p (by omega)⟩, [], rfl, ⟨leF_int rfl, leF_bool rfl, leF_int rfl, leF_ptr rfl, leF_c (leC_os rfl rfl), leF_int rfl, leF_ptr rfl, trivial⟩, ⟨⟨rfl, leN_varA fun j hj => (neC.sh _ j hj).le⟩, ⟨rfl, ⟨rfl, rfl, rfl, rfl, fun p hp j hj => rowA_le hj rfl⟩⟩, ⟨rfl, leN_entN⟩, ⟨rfl, leN_varA (lt3c ⟨leC_int rfl, leC_int rfl, leC_os rfl rfl⟩)⟩, trivial⟩⟩
 . rintro ⟨_, hno⟩
   have hs1 : closeS s (c.num - 31) = raiseS s (c.num - 31) := close_raise hok
   obtain ⟨s1, es1⟩ : ∃ s1, raiseS s (c.num - 31) = s1 := ⟨_, rfl⟩
   rw [es1] at hs1
   have hok1 : SdOk s1 := by rw [<- es1]; exact raise_ok hok (by omega)
   have hk := hok.k
   have hmn := hok.mn
   have w31 : IntKind.i64.wrap (s.mn + 31) = s.mn + 31 := IntWalk.i64_in _ (by omega)
   have w32 : IntKind.i64.wrap (c.num - 31) = c.num - 31 := IntWalk.i64_in _ (by omega)
   unfold SLr
   change Sem _ _ _ _ _ _ _ _
   refine sem_cut (wd := 1) (Q := mkQ LRn) (by decide) tysOk (q_of LRn_ok) (mono_of LRn_ok) mixed (SBr L 3 s1 now c deaf draw) (by intro _; rfl) ?_ ?_
   . repeat' (first | (simp only [w31, w32]) | (apply And.intro <;> intro hc <;> (first | exact Bool.noConfusion hc | (exfalso; first | exact absurd rfl hc | omega) | (simp only [zb0, ne_eq, not_true_eq_false] at hc <;> first | exact absurd rfl hc | (exfalso; first | exact absurd rfl hc | omega) | skip) | skip)) | (refine And.intro zp1 ?_) | (apply And.intro) | (intro s hs; (have q := rd_close hs (sed_mk rfl rfl (toN_row0 neH_rd _)) hs1; clear hs; subst q)) | (refine Exists.intro _ (And.intro ⟨rfl, rfl, rfl⟩ ?_)))
     . exact ⟨rfl, rfl, fun _ _ => ⟨rfl, okD_sl _⟩⟩
     . exact Eq.mpr (congrArg KpI (toN_row0 neH_rd _)) hk
     . conv => whnf
       exact ⟨(), [(2, some 14)], rfl, ⟨leF_int rfl, leF_bool rfl, leF_int rfl, leF_ptr rfl, leF_c (leC_os rfl rfl), leF_int rfl, leF_ptr rfl, trivial⟩, ⟨⟨rfl, leN_varA fun j hj => (neC.sh _ j hj).le⟩, ⟨rfl, ⟨rfl, rfl, rfl, rfl, fun p hp j hj => rowT_le hj fun h => rowA_ne h⟩⟩, ⟨rfl, leN_entN⟩, ⟨rfl, leN_varA (lt3c ⟨leC_int rfl, leC_int rfl, leC_os rfl rfl⟩)⟩, trivial⟩⟩
     . have e1 : s1 = s := by rw [<- es1]; exact if_pos (by omega)
       conv => whnf
       exact ⟨(), [], rfl, ⟨leF_int rfl, leF_bool rfl, leF_int rfl, leF_ptr rfl, leF_c (leC_os rfl rfl), leF_int rfl, leF_ptr rfl, trivial⟩, ⟨⟨rfl, leN_varA fun j hj => (neC.sh _ j hj).le⟩, ⟨rfl, ⟨rfl, rfl, rfl, rfl, fun p hp j hj => rowT_le hj fun h => rowA_ne h⟩⟩, ⟨rfl, leN_eqN (by rw [e1])⟩, ⟨rfl, leN_varA (lt3c ⟨leC_int (by rw [e1]), leC_int (by rw [e1]), leC_os rfl (by rw [e1])⟩)⟩, trivial⟩⟩
   . intro _
     exact ht s1 es1 hok1 hmin hno (by rw [<- es1]; unfold raiseS; split; exact hno; exact plc_filter hok.h hno)
theorem racc_4 (L : List Sed) (now : Int) (c : Cas) (deaf : Bool) (draw : Int) (hI : AcR L 4 now c draw) (R : List Sed × Bool × Int) (hR : R = (L.set 4 (accS (L.getD 4 default) now c deaf draw).1, (accS (L.getD 4 default) now c deaf draw).2, 0))
 (ht : ∀ s1, raiseS (L.getD 4 default) (c.num - 31) = s1 -> SdOk s1 -> ¬ c.num < (L.getD 4 default).mn -> (plcH c.num (L.getD 4 default).held 0).2 = false -> (plcH c.num s1.held 0).2 = false -> Sem Try.prog Try.f39.ntmps 0 (dropC 11 (Try.f39.body.getD Code.ret)) (SBr L 4 s1 now c deaf draw ()).fr (SBr L 4 s1 now c deaf draw ()).H (SBr L 4 s1 now c deaf draw ()).nx (endH T Try.f39.results.toList fun x H _ => FinN (some R.1.length) (encAc R) (entN neS 78 R.1) x H)) :
 Sem Try.prog Try.f39.ntmps 0 (dropC 6 (Try.f39.body.getD Code.ret)) (SAr L 4 now c deaf draw ()).fr (SAr L 4 now c deaf draw ()).H (SAr L 4 now c deaf draw ()).nx (endH T Try.f39.results.toList fun x H _ => FinN (some R.1.length) (encAc R) (entN neS 78 R.1) x H) := by
 obtain ⟨hlt, hn9, hok, hnum, hd, hnow, hdr, hf⟩ := hI
 obtain ⟨s, es⟩ : ∃ s, L.getD 4 default = s := ⟨_, rfl⟩
 rw [es] at hok hR ht
 have hset : L.set 4 s = L := by rw [<- es]; exact gset_self hlt
 unfold SAr
 rw [es]
 refine sem_step (wd := 1) (Q := mkQ LRn) (by decide) tysOk (q_of LRn_ok) mixed ?_
 repeat' (first | (apply And.intro <;> intro hc <;> (first | exact Bool.noConfusion hc | (exfalso; first | exact absurd rfl hc | omega) | (simp only [zb0, ne_eq, not_true_eq_false] at hc <;> first | exact absurd rfl hc | (exfalso; first | exact absurd rfl hc | omega) | skip) | skip)) | (refine And.intro zp1 ?_) | (apply And.intro) | (intro s hs; (have q := rd_fndR hs (rowA_neI es.symm rfl) hf; clear hs; subst q)) | (refine Exists.intro _ (And.intro ⟨rfl, rfl, rfl⟩ ?_)))
 . exact rowA_okI
 . show (toN neI L.length fun k j => rowA 2 s 4 L (0 + k) j).length <= 9223372036854775807
   rw [toN_len]; omega
 refine sem_step (wd := 1) (Q := mkQ LRn) (by decide) tysOk (q_of LRn_ok) mixed ?_
 repeat' (first | (apply And.intro <;> intro hc <;> (first | exact Bool.noConfusion hc | (exfalso; first | exact absurd rfl hc | omega) | (simp only [zb0, ne_eq, not_true_eq_false] at hc <;> first | exact absurd rfl hc | (exfalso; first | exact absurd rfl hc | omega) | skip) | skip)) | (refine And.intro zp1 ?_) | (apply And.intro) | (intro s hs; skip) | (refine Exists.intro _ (And.intro ⟨rfl, rfl, rfl⟩ ?_)))
 refine sem_step (wd := 1) (Q := mkQ LRn) (by decide) tysOk (q_of LRn_ok) mixed ?_
 repeat' (first | (apply And.intro <;> intro hc <;> (first | exact Bool.noConfusion hc | (exfalso; first | exact absurd rfl hc | omega) | (simp only [zb0, ne_eq, not_true_eq_false] at hc <;> first | exact absurd rfl hc | (exfalso; first | exact absurd rfl hc | omega) | skip) | skip)) | (refine And.intro zp1 ?_) | (apply And.intro) | (intro s hs; skip) | (refine Exists.intro _ (And.intro ⟨rfl, rfl, rfl⟩ ?_)))
 . have hRe : R = (L, false, 0) := by
    rw [hR]; unfold accS; rw [if_pos (by assumption), hset]
   refine fin_acc (s := s) (d := 2) (hRe.trans (by rw [hset])) hlt rfl (fun p h j => rowA_ne h) rfl rfl rfl rfl rfl rfl rfl fun q hq j hj => (neH.sh _ j hj).le
 have hmin : ¬ c.num < s.mn := by assumption
 change Sem _ _ _ _ _ _ _ _
 refine sem_cut (wd := 1) (Q := mkQ LRn) (by decide) tysOk (q_of LRn_ok) (mono_of LRn_ok) mixed (fun _ : {u : Unit // (plcH c.num s.held 0).2 = false} => SLr L 4 s now c deaf draw) (by intro _; rfl) ?_ ?_
 . repeat' (first | (apply And.intro <;> intro hc <;> (first | exact Bool.noConfusion hc | (exfalso; first | exact absurd rfl hc | omega) | (simp only [zb0, ne_eq, not_true_eq_false] at hc <;> first | exact absurd rfl hc | (exfalso; first | exact absurd rfl hc | omega) | skip) | skip)) | (refine And.intro zp1 ?_) | (apply And.intro) | (intro s hs; skip) | (refine Exists.intro _ (And.intro ⟨rfl, rfl, rfl⟩ ?_)))
   conv => whnf
   refine loop_intro (mono_of LRn_ok) (fun u : {k : Nat // k <= s.held.length /\ ∀ p, p < k -> (s.held.getD p default).num ≠ c.num} => (⟨[(1, one (.int .i64 now)), (3, one (.bool deaf)), (4, one (.int .u32 draw)), (7, one (.ptr 0 0 0 false)), (13, one (.os 1 0 L.length)), (18, one (.int .i64 ((4 : Nat) : Int))), (19, one (.ptr 3 0 0 false)), (127, one (.int .i64 (s.held.length : Int))), (128, one (.int .i64 (u.1 : Int)))], [(0, some ⟨32, 1, 3, true, fun _ => neC.cell c⟩), (1, some ⟨78, L.length, 3, false, rowA 2 s 4 L⟩), (2, some (entN neH 85 s.held)), (3, some ⟨78, 1, 3, true, fun _ => sdO 2 s⟩)], 4⟩ : Hd)) (fun u => s.held.length - u.1) (fun _ => rfl) ?_ ⟨0, Nat.zero_le _, fun p hp => absurd hp (Nat.not_lt_zero p)⟩ [(3, some 12)] ⟨rfl, ⟨leF_int rfl, leF_bool rfl, leF_int rfl, leF_ptr rfl, leF_c (leC_os rfl rfl), leF_int rfl, leF_ptr rfl, leF_int rfl, leF_int rfl, trivial⟩, ⟨⟨rfl, leN_varA fun j hj => (neC.sh _ j hj).le⟩, ⟨rfl, ⟨rfl, rfl, rfl, rfl, fun p hp j hj => rowA_le hj rfl⟩⟩, ⟨rfl, leN_entN⟩, ⟨rfl, leN_varA (lt3c ⟨leC_int rfl, leC_int rfl, leC_os rfl rfl⟩)⟩, trivial⟩⟩
   rintro ⟨k, hk, hnk⟩
   dsimp only at hk hnk ⊢
   have hn32 := hok.n
   by_cases hkl : k < s.held.length
   . have w5 : IntKind.i64.wrap ((k : Int) + 1) = ((k + 1 : Nat) : Int) := (IntWalk.i64_in _ (by omega)).trans (by omega)
     have z0 : 0 + (k : Int).toNat = k := Nat.zero_add k
     obtain ⟨T, eT⟩ : ∃ T, hearT (s.held.getD k default).tm = T := ⟨_, rfl⟩
     repeat' (first | (simp only [z0]) | (apply And.intro <;> intro hc <;> (first | exact Bool.noConfusion hc | (exfalso; first | exact absurd rfl hc | omega) | (simp only [zb0, ne_eq, not_true_eq_false] at hc <;> first | exact absurd rfl hc | (exfalso; first | exact absurd rfl hc | omega) | skip) | skip)) | (refine And.intro zp1 ?_) | (apply And.intro) | (intro s hs; (have q : T = s := eT.symm.trans hs.symm; clear hs; subst q)) | (refine Exists.intro _ (And.intro ⟨rfl, rfl, rfl⟩ ?_)))
     . have hpl := plc_is hok.h hkl (by assumption)
       have hRe : R = (L.set 4 (hearS s k), false, 0) := by
        rw [hR]; unfold accS; rw [if_neg hmin, hpl, if_pos rfl]
       have hhe : hearS s k = ⟨s.id, s.mn, s.held.set k { s.held.getD k default with tm := T }⟩ := by unfold hearS; rw [eT]
       have hLh : (hearS s k).held.length = s.held.length := List.length_set
       conv => whnf
       refine fin_acc (s := hearS s k) (d := 2) hRe hlt rfl (fun p h j => rowA_ne h) rfl rfl (by rw [hLh]; rfl) rfl rfl hLh.symm rfl fun q hq j hj => ?_
       rw [hhe]
       exact (hel_row2 hkl (fun j hj => (Elem.flat _ _ _).le)).2 q (by rw [List.length_set, <- hLh]; exact hq) j hj
     . conv => whnf
       exact ⟨⟨k + 1, hkl, fun p hp => by
        by_cases h : p = k
        . subst h; assumption
        . exact hnk p (by omega)⟩, [], by dsimp only; omega, rfl, ⟨leF_int rfl, leF_bool rfl, leF_int rfl, leF_ptr rfl, leF_c (leC_os rfl rfl), leF_int rfl, leF_ptr rfl, leF_int rfl, leF_int w5, trivial⟩, ⟨⟨rfl, leN_varA fun j hj => (neC.sh _ j hj).le⟩, ⟨rfl, ⟨rfl, rfl, rfl, rfl, fun p hp j hj => rowA_le hj rfl⟩⟩, ⟨rfl, leN_entN⟩, ⟨rfl, leN_varA (lt3c ⟨leC_int rfl, leC_int rfl, leC_os rfl rfl⟩)⟩, trivial⟩⟩
   . repeat' (first | (apply And.intro <;> intro hc <;> (first | exact Bool.noConfusion hc | (exfalso; first | exact absurd rfl hc | omega) | (simp only [zb0, ne_eq, not_true_eq_false] at hc <;> first | exact absurd rfl hc | (exfalso; first | exact absurd rfl hc | omega) | skip) | skip)) | (refine And.intro zp1 ?_) | (apply And.intro) | (intro s hs; skip) | (refine Exists.intro _ (And.intro ⟨rfl, rfl, rfl⟩ ?_)))
     conv => whnf
     exact ⟨⟨(), plc_no fun p hp => hnk p (by omega)⟩, [], rfl, ⟨leF_int rfl, leF_bool rfl, leF_int rfl, leF_ptr rfl, leF_c (leC_os rfl rfl), leF_int rfl, leF_ptr rfl, trivial⟩, ⟨⟨rfl, leN_varA fun j hj => (neC.sh _ j hj).le⟩, ⟨rfl, ⟨rfl, rfl, rfl, rfl, fun p hp j hj => rowA_le hj rfl⟩⟩, ⟨rfl, leN_entN⟩, ⟨rfl, leN_varA (lt3c ⟨leC_int rfl, leC_int rfl, leC_os rfl rfl⟩)⟩, trivial⟩⟩
 . rintro ⟨_, hno⟩
   have hs1 : closeS s (c.num - 31) = raiseS s (c.num - 31) := close_raise hok
   obtain ⟨s1, es1⟩ : ∃ s1, raiseS s (c.num - 31) = s1 := ⟨_, rfl⟩
   rw [es1] at hs1
   have hok1 : SdOk s1 := by rw [<- es1]; exact raise_ok hok (by omega)
   have hk := hok.k
   have hmn := hok.mn
   have w31 : IntKind.i64.wrap (s.mn + 31) = s.mn + 31 := IntWalk.i64_in _ (by omega)
   have w32 : IntKind.i64.wrap (c.num - 31) = c.num - 31 := IntWalk.i64_in _ (by omega)
   unfold SLr
   change Sem _ _ _ _ _ _ _ _
   refine sem_cut (wd := 1) (Q := mkQ LRn) (by decide) tysOk (q_of LRn_ok) (mono_of LRn_ok) mixed (SBr L 4 s1 now c deaf draw) (by intro _; rfl) ?_ ?_
   . repeat' (first | (simp only [w31, w32]) | (apply And.intro <;> intro hc <;> (first | exact Bool.noConfusion hc | (exfalso; first | exact absurd rfl hc | omega) | (simp only [zb0, ne_eq, not_true_eq_false] at hc <;> first | exact absurd rfl hc | (exfalso; first | exact absurd rfl hc | omega) | skip) | skip)) | (refine And.intro zp1 ?_) | (apply And.intro) | (intro s hs; (have q := rd_close hs (sed_mk rfl rfl (toN_row0 neH_rd _)) hs1; clear hs; subst q)) | (refine Exists.intro _ (And.intro ⟨rfl, rfl, rfl⟩ ?_)))
     . exact ⟨rfl, rfl, fun _ _ => ⟨rfl, okD_sl _⟩⟩
     . exact Eq.mpr (congrArg KpI (toN_row0 neH_rd _)) hk
     . conv => whnf
       exact ⟨(), [(2, some 14)], rfl, ⟨leF_int rfl, leF_bool rfl, leF_int rfl, leF_ptr rfl, leF_c (leC_os rfl rfl), leF_int rfl, leF_ptr rfl, trivial⟩, ⟨⟨rfl, leN_varA fun j hj => (neC.sh _ j hj).le⟩, ⟨rfl, ⟨rfl, rfl, rfl, rfl, fun p hp j hj => rowT_le hj fun h => rowA_ne h⟩⟩, ⟨rfl, leN_entN⟩, ⟨rfl, leN_varA (lt3c ⟨leC_int rfl, leC_int rfl, leC_os rfl rfl⟩)⟩, trivial⟩⟩
     . have e1 : s1 = s := by rw [<- es1]; exact if_pos (by omega)
       conv => whnf
       exact ⟨(), [], rfl, ⟨leF_int rfl, leF_bool rfl, leF_int rfl, leF_ptr rfl, leF_c (leC_os rfl rfl), leF_int rfl, leF_ptr rfl, trivial⟩, ⟨⟨rfl, leN_varA fun j hj => (neC.sh _ j hj).le⟩, ⟨rfl, ⟨rfl, rfl, rfl, rfl, fun p hp j hj => rowT_le hj fun h => rowA_ne h⟩⟩, ⟨rfl, leN_eqN (by rw [e1])⟩, ⟨rfl, leN_varA (lt3c ⟨leC_int (by rw [e1]), leC_int (by rw [e1]), leC_os rfl (by rw [e1])⟩)⟩, trivial⟩⟩
   . intro _
     exact ht s1 es1 hok1 hmin hno (by rw [<- es1]; unfold raiseS; split; exact hno; exact plc_filter hok.h hno)
theorem racc_5 (L : List Sed) (now : Int) (c : Cas) (deaf : Bool) (draw : Int) (hI : AcR L 5 now c draw) (R : List Sed × Bool × Int) (hR : R = (L.set 5 (accS (L.getD 5 default) now c deaf draw).1, (accS (L.getD 5 default) now c deaf draw).2, 0))
 (ht : ∀ s1, raiseS (L.getD 5 default) (c.num - 31) = s1 -> SdOk s1 -> ¬ c.num < (L.getD 5 default).mn -> (plcH c.num (L.getD 5 default).held 0).2 = false -> (plcH c.num s1.held 0).2 = false -> Sem Try.prog Try.f39.ntmps 0 (dropC 11 (Try.f39.body.getD Code.ret)) (SBr L 5 s1 now c deaf draw ()).fr (SBr L 5 s1 now c deaf draw ()).H (SBr L 5 s1 now c deaf draw ()).nx (endH T Try.f39.results.toList fun x H _ => FinN (some R.1.length) (encAc R) (entN neS 78 R.1) x H)) :
 Sem Try.prog Try.f39.ntmps 0 (dropC 6 (Try.f39.body.getD Code.ret)) (SAr L 5 now c deaf draw ()).fr (SAr L 5 now c deaf draw ()).H (SAr L 5 now c deaf draw ()).nx (endH T Try.f39.results.toList fun x H _ => FinN (some R.1.length) (encAc R) (entN neS 78 R.1) x H) := by
 obtain ⟨hlt, hn9, hok, hnum, hd, hnow, hdr, hf⟩ := hI
 obtain ⟨s, es⟩ : ∃ s, L.getD 5 default = s := ⟨_, rfl⟩
 rw [es] at hok hR ht
 have hset : L.set 5 s = L := by rw [<- es]; exact gset_self hlt
 unfold SAr
 rw [es]
 refine sem_step (wd := 1) (Q := mkQ LRn) (by decide) tysOk (q_of LRn_ok) mixed ?_
 repeat' (first | (apply And.intro <;> intro hc <;> (first | exact Bool.noConfusion hc | (exfalso; first | exact absurd rfl hc | omega) | (simp only [zb0, ne_eq, not_true_eq_false] at hc <;> first | exact absurd rfl hc | (exfalso; first | exact absurd rfl hc | omega) | skip) | skip)) | (refine And.intro zp1 ?_) | (apply And.intro) | (intro s hs; (have q := rd_fndR hs (rowA_neI es.symm rfl) hf; clear hs; subst q)) | (refine Exists.intro _ (And.intro ⟨rfl, rfl, rfl⟩ ?_)))
 . exact rowA_okI
 . show (toN neI L.length fun k j => rowA 2 s 5 L (0 + k) j).length <= 9223372036854775807
   rw [toN_len]; omega
 refine sem_step (wd := 1) (Q := mkQ LRn) (by decide) tysOk (q_of LRn_ok) mixed ?_
 repeat' (first | (apply And.intro <;> intro hc <;> (first | exact Bool.noConfusion hc | (exfalso; first | exact absurd rfl hc | omega) | (simp only [zb0, ne_eq, not_true_eq_false] at hc <;> first | exact absurd rfl hc | (exfalso; first | exact absurd rfl hc | omega) | skip) | skip)) | (refine And.intro zp1 ?_) | (apply And.intro) | (intro s hs; skip) | (refine Exists.intro _ (And.intro ⟨rfl, rfl, rfl⟩ ?_)))
 refine sem_step (wd := 1) (Q := mkQ LRn) (by decide) tysOk (q_of LRn_ok) mixed ?_
 repeat' (first | (apply And.intro <;> intro hc <;> (first | exact Bool.noConfusion hc | (exfalso; first | exact absurd rfl hc | omega) | (simp only [zb0, ne_eq, not_true_eq_false] at hc <;> first | exact absurd rfl hc | (exfalso; first | exact absurd rfl hc | omega) | skip) | skip)) | (refine And.intro zp1 ?_) | (apply And.intro) | (intro s hs; skip) | (refine Exists.intro _ (And.intro ⟨rfl, rfl, rfl⟩ ?_)))
 . have hRe : R = (L, false, 0) := by
    rw [hR]; unfold accS; rw [if_pos (by assumption), hset]
   refine fin_acc (s := s) (d := 2) (hRe.trans (by rw [hset])) hlt rfl (fun p h j => rowA_ne h) rfl rfl rfl rfl rfl rfl rfl fun q hq j hj => (neH.sh _ j hj).le
 have hmin : ¬ c.num < s.mn := by assumption
 change Sem _ _ _ _ _ _ _ _
 refine sem_cut (wd := 1) (Q := mkQ LRn) (by decide) tysOk (q_of LRn_ok) (mono_of LRn_ok) mixed (fun _ : {u : Unit // (plcH c.num s.held 0).2 = false} => SLr L 5 s now c deaf draw) (by intro _; rfl) ?_ ?_
 . repeat' (first | (apply And.intro <;> intro hc <;> (first | exact Bool.noConfusion hc | (exfalso; first | exact absurd rfl hc | omega) | (simp only [zb0, ne_eq, not_true_eq_false] at hc <;> first | exact absurd rfl hc | (exfalso; first | exact absurd rfl hc | omega) | skip) | skip)) | (refine And.intro zp1 ?_) | (apply And.intro) | (intro s hs; skip) | (refine Exists.intro _ (And.intro ⟨rfl, rfl, rfl⟩ ?_)))
   conv => whnf
   refine loop_intro (mono_of LRn_ok) (fun u : {k : Nat // k <= s.held.length /\ ∀ p, p < k -> (s.held.getD p default).num ≠ c.num} => (⟨[(1, one (.int .i64 now)), (3, one (.bool deaf)), (4, one (.int .u32 draw)), (7, one (.ptr 0 0 0 false)), (13, one (.os 1 0 L.length)), (18, one (.int .i64 ((5 : Nat) : Int))), (19, one (.ptr 3 0 0 false)), (127, one (.int .i64 (s.held.length : Int))), (128, one (.int .i64 (u.1 : Int)))], [(0, some ⟨32, 1, 3, true, fun _ => neC.cell c⟩), (1, some ⟨78, L.length, 3, false, rowA 2 s 5 L⟩), (2, some (entN neH 85 s.held)), (3, some ⟨78, 1, 3, true, fun _ => sdO 2 s⟩)], 4⟩ : Hd)) (fun u => s.held.length - u.1) (fun _ => rfl) ?_ ⟨0, Nat.zero_le _, fun p hp => absurd hp (Nat.not_lt_zero p)⟩ [(3, some 12)] ⟨rfl, ⟨leF_int rfl, leF_bool rfl, leF_int rfl, leF_ptr rfl, leF_c (leC_os rfl rfl), leF_int rfl, leF_ptr rfl, leF_int rfl, leF_int rfl, trivial⟩, ⟨⟨rfl, leN_varA fun j hj => (neC.sh _ j hj).le⟩, ⟨rfl, ⟨rfl, rfl, rfl, rfl, fun p hp j hj => rowA_le hj rfl⟩⟩, ⟨rfl, leN_entN⟩, ⟨rfl, leN_varA (lt3c ⟨leC_int rfl, leC_int rfl, leC_os rfl rfl⟩)⟩, trivial⟩⟩
   rintro ⟨k, hk, hnk⟩
   dsimp only at hk hnk ⊢
   have hn32 := hok.n
   by_cases hkl : k < s.held.length
   . have w5 : IntKind.i64.wrap ((k : Int) + 1) = ((k + 1 : Nat) : Int) := (IntWalk.i64_in _ (by omega)).trans (by omega)
     have z0 : 0 + (k : Int).toNat = k := Nat.zero_add k
     obtain ⟨T, eT⟩ : ∃ T, hearT (s.held.getD k default).tm = T := ⟨_, rfl⟩
     repeat' (first | (simp only [z0]) | (apply And.intro <;> intro hc <;> (first | exact Bool.noConfusion hc | (exfalso; first | exact absurd rfl hc | omega) | (simp only [zb0, ne_eq, not_true_eq_false] at hc <;> first | exact absurd rfl hc | (exfalso; first | exact absurd rfl hc | omega) | skip) | skip)) | (refine And.intro zp1 ?_) | (apply And.intro) | (intro s hs; (have q : T = s := eT.symm.trans hs.symm; clear hs; subst q)) | (refine Exists.intro _ (And.intro ⟨rfl, rfl, rfl⟩ ?_)))
     . have hpl := plc_is hok.h hkl (by assumption)
       have hRe : R = (L.set 5 (hearS s k), false, 0) := by
        rw [hR]; unfold accS; rw [if_neg hmin, hpl, if_pos rfl]
       have hhe : hearS s k = ⟨s.id, s.mn, s.held.set k { s.held.getD k default with tm := T }⟩ := by unfold hearS; rw [eT]
       have hLh : (hearS s k).held.length = s.held.length := List.length_set
       conv => whnf
       refine fin_acc (s := hearS s k) (d := 2) hRe hlt rfl (fun p h j => rowA_ne h) rfl rfl (by rw [hLh]; rfl) rfl rfl hLh.symm rfl fun q hq j hj => ?_
       rw [hhe]
       exact (hel_row2 hkl (fun j hj => (Elem.flat _ _ _).le)).2 q (by rw [List.length_set, <- hLh]; exact hq) j hj
     . conv => whnf
       exact ⟨⟨k + 1, hkl, fun p hp => by
        by_cases h : p = k
        . subst h; assumption
        . exact hnk p (by omega)⟩, [], by dsimp only; omega, rfl, ⟨leF_int rfl, leF_bool rfl, leF_int rfl, leF_ptr rfl, leF_c (leC_os rfl rfl), leF_int rfl, leF_ptr rfl, leF_int rfl, leF_int w5, trivial⟩, ⟨⟨rfl, leN_varA fun j hj => (neC.sh _ j hj).le⟩, ⟨rfl, ⟨rfl, rfl, rfl, rfl, fun p hp j hj => rowA_le hj rfl⟩⟩, ⟨rfl, leN_entN⟩, ⟨rfl, leN_varA (lt3c ⟨leC_int rfl, leC_int rfl, leC_os rfl rfl⟩)⟩, trivial⟩⟩
   . repeat' (first | (apply And.intro <;> intro hc <;> (first | exact Bool.noConfusion hc | (exfalso; first | exact absurd rfl hc | omega) | (simp only [zb0, ne_eq, not_true_eq_false] at hc <;> first | exact absurd rfl hc | (exfalso; first | exact absurd rfl hc | omega) | skip) | skip)) | (refine And.intro zp1 ?_) | (apply And.intro) | (intro s hs; skip) | (refine Exists.intro _ (And.intro ⟨rfl, rfl, rfl⟩ ?_)))
     conv => whnf
     exact ⟨⟨(), plc_no fun p hp => hnk p (by omega)⟩, [], rfl, ⟨leF_int rfl, leF_bool rfl, leF_int rfl, leF_ptr rfl, leF_c (leC_os rfl rfl), leF_int rfl, leF_ptr rfl, trivial⟩, ⟨⟨rfl, leN_varA fun j hj => (neC.sh _ j hj).le⟩, ⟨rfl, ⟨rfl, rfl, rfl, rfl, fun p hp j hj => rowA_le hj rfl⟩⟩, ⟨rfl, leN_entN⟩, ⟨rfl, leN_varA (lt3c ⟨leC_int rfl, leC_int rfl, leC_os rfl rfl⟩)⟩, trivial⟩⟩
 . rintro ⟨_, hno⟩
   have hs1 : closeS s (c.num - 31) = raiseS s (c.num - 31) := close_raise hok
   obtain ⟨s1, es1⟩ : ∃ s1, raiseS s (c.num - 31) = s1 := ⟨_, rfl⟩
   rw [es1] at hs1
   have hok1 : SdOk s1 := by rw [<- es1]; exact raise_ok hok (by omega)
   have hk := hok.k
   have hmn := hok.mn
   have w31 : IntKind.i64.wrap (s.mn + 31) = s.mn + 31 := IntWalk.i64_in _ (by omega)
   have w32 : IntKind.i64.wrap (c.num - 31) = c.num - 31 := IntWalk.i64_in _ (by omega)
   unfold SLr
   change Sem _ _ _ _ _ _ _ _
   refine sem_cut (wd := 1) (Q := mkQ LRn) (by decide) tysOk (q_of LRn_ok) (mono_of LRn_ok) mixed (SBr L 5 s1 now c deaf draw) (by intro _; rfl) ?_ ?_
   . repeat' (first | (simp only [w31, w32]) | (apply And.intro <;> intro hc <;> (first | exact Bool.noConfusion hc | (exfalso; first | exact absurd rfl hc | omega) | (simp only [zb0, ne_eq, not_true_eq_false] at hc <;> first | exact absurd rfl hc | (exfalso; first | exact absurd rfl hc | omega) | skip) | skip)) | (refine And.intro zp1 ?_) | (apply And.intro) | (intro s hs; (have q := rd_close hs (sed_mk rfl rfl (toN_row0 neH_rd _)) hs1; clear hs; subst q)) | (refine Exists.intro _ (And.intro ⟨rfl, rfl, rfl⟩ ?_)))
     . exact ⟨rfl, rfl, fun _ _ => ⟨rfl, okD_sl _⟩⟩
     . exact Eq.mpr (congrArg KpI (toN_row0 neH_rd _)) hk
     . conv => whnf
       exact ⟨(), [(2, some 14)], rfl, ⟨leF_int rfl, leF_bool rfl, leF_int rfl, leF_ptr rfl, leF_c (leC_os rfl rfl), leF_int rfl, leF_ptr rfl, trivial⟩, ⟨⟨rfl, leN_varA fun j hj => (neC.sh _ j hj).le⟩, ⟨rfl, ⟨rfl, rfl, rfl, rfl, fun p hp j hj => rowT_le hj fun h => rowA_ne h⟩⟩, ⟨rfl, leN_entN⟩, ⟨rfl, leN_varA (lt3c ⟨leC_int rfl, leC_int rfl, leC_os rfl rfl⟩)⟩, trivial⟩⟩
     . have e1 : s1 = s := by rw [<- es1]; exact if_pos (by omega)
       conv => whnf
       exact ⟨(), [], rfl, ⟨leF_int rfl, leF_bool rfl, leF_int rfl, leF_ptr rfl, leF_c (leC_os rfl rfl), leF_int rfl, leF_ptr rfl, trivial⟩, ⟨⟨rfl, leN_varA fun j hj => (neC.sh _ j hj).le⟩, ⟨rfl, ⟨rfl, rfl, rfl, rfl, fun p hp j hj => rowT_le hj fun h => rowA_ne h⟩⟩, ⟨rfl, leN_eqN (by rw [e1])⟩, ⟨rfl, leN_varA (lt3c ⟨leC_int (by rw [e1]), leC_int (by rw [e1]), leC_os rfl (by rw [e1])⟩)⟩, trivial⟩⟩
   . intro _
     exact ht s1 es1 hok1 hmin hno (by rw [<- es1]; unfold raiseS; split; exact hno; exact plc_filter hok.h hno)
theorem racc_6 (L : List Sed) (now : Int) (c : Cas) (deaf : Bool) (draw : Int) (hI : AcR L 6 now c draw) (R : List Sed × Bool × Int) (hR : R = (L.set 6 (accS (L.getD 6 default) now c deaf draw).1, (accS (L.getD 6 default) now c deaf draw).2, 0))
 (ht : ∀ s1, raiseS (L.getD 6 default) (c.num - 31) = s1 -> SdOk s1 -> ¬ c.num < (L.getD 6 default).mn -> (plcH c.num (L.getD 6 default).held 0).2 = false -> (plcH c.num s1.held 0).2 = false -> Sem Try.prog Try.f39.ntmps 0 (dropC 11 (Try.f39.body.getD Code.ret)) (SBr L 6 s1 now c deaf draw ()).fr (SBr L 6 s1 now c deaf draw ()).H (SBr L 6 s1 now c deaf draw ()).nx (endH T Try.f39.results.toList fun x H _ => FinN (some R.1.length) (encAc R) (entN neS 78 R.1) x H)) :
 Sem Try.prog Try.f39.ntmps 0 (dropC 6 (Try.f39.body.getD Code.ret)) (SAr L 6 now c deaf draw ()).fr (SAr L 6 now c deaf draw ()).H (SAr L 6 now c deaf draw ()).nx (endH T Try.f39.results.toList fun x H _ => FinN (some R.1.length) (encAc R) (entN neS 78 R.1) x H) := by
 obtain ⟨hlt, hn9, hok, hnum, hd, hnow, hdr, hf⟩ := hI
 obtain ⟨s, es⟩ : ∃ s, L.getD 6 default = s := ⟨_, rfl⟩
 rw [es] at hok hR ht
 have hset : L.set 6 s = L := by rw [<- es]; exact gset_self hlt
 unfold SAr
 rw [es]
 refine sem_step (wd := 1) (Q := mkQ LRn) (by decide) tysOk (q_of LRn_ok) mixed ?_
 repeat' (first | (apply And.intro <;> intro hc <;> (first | exact Bool.noConfusion hc | (exfalso; first | exact absurd rfl hc | omega) | (simp only [zb0, ne_eq, not_true_eq_false] at hc <;> first | exact absurd rfl hc | (exfalso; first | exact absurd rfl hc | omega) | skip) | skip)) | (refine And.intro zp1 ?_) | (apply And.intro) | (intro s hs; (have q := rd_fndR hs (rowA_neI es.symm rfl) hf; clear hs; subst q)) | (refine Exists.intro _ (And.intro ⟨rfl, rfl, rfl⟩ ?_)))
 . exact rowA_okI
 . show (toN neI L.length fun k j => rowA 2 s 6 L (0 + k) j).length <= 9223372036854775807
   rw [toN_len]; omega
 refine sem_step (wd := 1) (Q := mkQ LRn) (by decide) tysOk (q_of LRn_ok) mixed ?_
 repeat' (first | (apply And.intro <;> intro hc <;> (first | exact Bool.noConfusion hc | (exfalso; first | exact absurd rfl hc | omega) | (simp only [zb0, ne_eq, not_true_eq_false] at hc <;> first | exact absurd rfl hc | (exfalso; first | exact absurd rfl hc | omega) | skip) | skip)) | (refine And.intro zp1 ?_) | (apply And.intro) | (intro s hs; skip) | (refine Exists.intro _ (And.intro ⟨rfl, rfl, rfl⟩ ?_)))
 refine sem_step (wd := 1) (Q := mkQ LRn) (by decide) tysOk (q_of LRn_ok) mixed ?_
 repeat' (first | (apply And.intro <;> intro hc <;> (first | exact Bool.noConfusion hc | (exfalso; first | exact absurd rfl hc | omega) | (simp only [zb0, ne_eq, not_true_eq_false] at hc <;> first | exact absurd rfl hc | (exfalso; first | exact absurd rfl hc | omega) | skip) | skip)) | (refine And.intro zp1 ?_) | (apply And.intro) | (intro s hs; skip) | (refine Exists.intro _ (And.intro ⟨rfl, rfl, rfl⟩ ?_)))
 . have hRe : R = (L, false, 0) := by
    rw [hR]; unfold accS; rw [if_pos (by assumption), hset]
   refine fin_acc (s := s) (d := 2) (hRe.trans (by rw [hset])) hlt rfl (fun p h j => rowA_ne h) rfl rfl rfl rfl rfl rfl rfl fun q hq j hj => (neH.sh _ j hj).le
 have hmin : ¬ c.num < s.mn := by assumption
 change Sem _ _ _ _ _ _ _ _
 refine sem_cut (wd := 1) (Q := mkQ LRn) (by decide) tysOk (q_of LRn_ok) (mono_of LRn_ok) mixed (fun _ : {u : Unit // (plcH c.num s.held 0).2 = false} => SLr L 6 s now c deaf draw) (by intro _; rfl) ?_ ?_
 . repeat' (first | (apply And.intro <;> intro hc <;> (first | exact Bool.noConfusion hc | (exfalso; first | exact absurd rfl hc | omega) | (simp only [zb0, ne_eq, not_true_eq_false] at hc <;> first | exact absurd rfl hc | (exfalso; first | exact absurd rfl hc | omega) | skip) | skip)) | (refine And.intro zp1 ?_) | (apply And.intro) | (intro s hs; skip) | (refine Exists.intro _ (And.intro ⟨rfl, rfl, rfl⟩ ?_)))
   conv => whnf
   refine loop_intro (mono_of LRn_ok) (fun u : {k : Nat // k <= s.held.length /\ ∀ p, p < k -> (s.held.getD p default).num ≠ c.num} => (⟨[(1, one (.int .i64 now)), (3, one (.bool deaf)), (4, one (.int .u32 draw)), (7, one (.ptr 0 0 0 false)), (13, one (.os 1 0 L.length)), (18, one (.int .i64 ((6 : Nat) : Int))), (19, one (.ptr 3 0 0 false)), (127, one (.int .i64 (s.held.length : Int))), (128, one (.int .i64 (u.1 : Int)))], [(0, some ⟨32, 1, 3, true, fun _ => neC.cell c⟩), (1, some ⟨78, L.length, 3, false, rowA 2 s 6 L⟩), (2, some (entN neH 85 s.held)), (3, some ⟨78, 1, 3, true, fun _ => sdO 2 s⟩)], 4⟩ : Hd)) (fun u => s.held.length - u.1) (fun _ => rfl) ?_ ⟨0, Nat.zero_le _, fun p hp => absurd hp (Nat.not_lt_zero p)⟩ [(3, some 12)] ⟨rfl, ⟨leF_int rfl, leF_bool rfl, leF_int rfl, leF_ptr rfl, leF_c (leC_os rfl rfl), leF_int rfl, leF_ptr rfl, leF_int rfl, leF_int rfl, trivial⟩, ⟨⟨rfl, leN_varA fun j hj => (neC.sh _ j hj).le⟩, ⟨rfl, ⟨rfl, rfl, rfl, rfl, fun p hp j hj => rowA_le hj rfl⟩⟩, ⟨rfl, leN_entN⟩, ⟨rfl, leN_varA (lt3c ⟨leC_int rfl, leC_int rfl, leC_os rfl rfl⟩)⟩, trivial⟩⟩
   rintro ⟨k, hk, hnk⟩
   dsimp only at hk hnk ⊢
   have hn32 := hok.n
   by_cases hkl : k < s.held.length
   . have w5 : IntKind.i64.wrap ((k : Int) + 1) = ((k + 1 : Nat) : Int) := (IntWalk.i64_in _ (by omega)).trans (by omega)
     have z0 : 0 + (k : Int).toNat = k := Nat.zero_add k
     obtain ⟨T, eT⟩ : ∃ T, hearT (s.held.getD k default).tm = T := ⟨_, rfl⟩
     repeat' (first | (simp only [z0]) | (apply And.intro <;> intro hc <;> (first | exact Bool.noConfusion hc | (exfalso; first | exact absurd rfl hc | omega) | (simp only [zb0, ne_eq, not_true_eq_false] at hc <;> first | exact absurd rfl hc | (exfalso; first | exact absurd rfl hc | omega) | skip) | skip)) | (refine And.intro zp1 ?_) | (apply And.intro) | (intro s hs; (have q : T = s := eT.symm.trans hs.symm; clear hs; subst q)) | (refine Exists.intro _ (And.intro ⟨rfl, rfl, rfl⟩ ?_)))
     . have hpl := plc_is hok.h hkl (by assumption)
       have hRe : R = (L.set 6 (hearS s k), false, 0) := by
        rw [hR]; unfold accS; rw [if_neg hmin, hpl, if_pos rfl]
       have hhe : hearS s k = ⟨s.id, s.mn, s.held.set k { s.held.getD k default with tm := T }⟩ := by unfold hearS; rw [eT]
       have hLh : (hearS s k).held.length = s.held.length := List.length_set
       conv => whnf
       refine fin_acc (s := hearS s k) (d := 2) hRe hlt rfl (fun p h j => rowA_ne h) rfl rfl (by rw [hLh]; rfl) rfl rfl hLh.symm rfl fun q hq j hj => ?_
       rw [hhe]
       exact (hel_row2 hkl (fun j hj => (Elem.flat _ _ _).le)).2 q (by rw [List.length_set, <- hLh]; exact hq) j hj
     . conv => whnf
       exact ⟨⟨k + 1, hkl, fun p hp => by
        by_cases h : p = k
        . subst h; assumption
        . exact hnk p (by omega)⟩, [], by dsimp only; omega, rfl, ⟨leF_int rfl, leF_bool rfl, leF_int rfl, leF_ptr rfl, leF_c (leC_os rfl rfl), leF_int rfl, leF_ptr rfl, leF_int rfl, leF_int w5, trivial⟩, ⟨⟨rfl, leN_varA fun j hj => (neC.sh _ j hj).le⟩, ⟨rfl, ⟨rfl, rfl, rfl, rfl, fun p hp j hj => rowA_le hj rfl⟩⟩, ⟨rfl, leN_entN⟩, ⟨rfl, leN_varA (lt3c ⟨leC_int rfl, leC_int rfl, leC_os rfl rfl⟩)⟩, trivial⟩⟩
   . repeat' (first | (apply And.intro <;> intro hc <;> (first | exact Bool.noConfusion hc | (exfalso; first | exact absurd rfl hc | omega) | (simp only [zb0, ne_eq, not_true_eq_false] at hc <;> first | exact absurd rfl hc | (exfalso; first | exact absurd rfl hc | omega) | skip) | skip)) | (refine And.intro zp1 ?_) | (apply And.intro) | (intro s hs; skip) | (refine Exists.intro _ (And.intro ⟨rfl, rfl, rfl⟩ ?_)))
     conv => whnf
     exact ⟨⟨(), plc_no fun p hp => hnk p (by omega)⟩, [], rfl, ⟨leF_int rfl, leF_bool rfl, leF_int rfl, leF_ptr rfl, leF_c (leC_os rfl rfl), leF_int rfl, leF_ptr rfl, trivial⟩, ⟨⟨rfl, leN_varA fun j hj => (neC.sh _ j hj).le⟩, ⟨rfl, ⟨rfl, rfl, rfl, rfl, fun p hp j hj => rowA_le hj rfl⟩⟩, ⟨rfl, leN_entN⟩, ⟨rfl, leN_varA (lt3c ⟨leC_int rfl, leC_int rfl, leC_os rfl rfl⟩)⟩, trivial⟩⟩
 . rintro ⟨_, hno⟩
   have hs1 : closeS s (c.num - 31) = raiseS s (c.num - 31) := close_raise hok
   obtain ⟨s1, es1⟩ : ∃ s1, raiseS s (c.num - 31) = s1 := ⟨_, rfl⟩
   rw [es1] at hs1
   have hok1 : SdOk s1 := by rw [<- es1]; exact raise_ok hok (by omega)
   have hk := hok.k
   have hmn := hok.mn
   have w31 : IntKind.i64.wrap (s.mn + 31) = s.mn + 31 := IntWalk.i64_in _ (by omega)
   have w32 : IntKind.i64.wrap (c.num - 31) = c.num - 31 := IntWalk.i64_in _ (by omega)
   unfold SLr
   change Sem _ _ _ _ _ _ _ _
   refine sem_cut (wd := 1) (Q := mkQ LRn) (by decide) tysOk (q_of LRn_ok) (mono_of LRn_ok) mixed (SBr L 6 s1 now c deaf draw) (by intro _; rfl) ?_ ?_
   . repeat' (first | (simp only [w31, w32]) | (apply And.intro <;> intro hc <;> (first | exact Bool.noConfusion hc | (exfalso; first | exact absurd rfl hc | omega) | (simp only [zb0, ne_eq, not_true_eq_false] at hc <;> first | exact absurd rfl hc | (exfalso; first | exact absurd rfl hc | omega) | skip) | skip)) | (refine And.intro zp1 ?_) | (apply And.intro) | (intro s hs; (have q := rd_close hs (sed_mk rfl rfl (toN_row0 neH_rd _)) hs1; clear hs; subst q)) | (refine Exists.intro _ (And.intro ⟨rfl, rfl, rfl⟩ ?_)))
     . exact ⟨rfl, rfl, fun _ _ => ⟨rfl, okD_sl _⟩⟩
     . exact Eq.mpr (congrArg KpI (toN_row0 neH_rd _)) hk
     . conv => whnf
       exact ⟨(), [(2, some 14)], rfl, ⟨leF_int rfl, leF_bool rfl, leF_int rfl, leF_ptr rfl, leF_c (leC_os rfl rfl), leF_int rfl, leF_ptr rfl, trivial⟩, ⟨⟨rfl, leN_varA fun j hj => (neC.sh _ j hj).le⟩, ⟨rfl, ⟨rfl, rfl, rfl, rfl, fun p hp j hj => rowT_le hj fun h => rowA_ne h⟩⟩, ⟨rfl, leN_entN⟩, ⟨rfl, leN_varA (lt3c ⟨leC_int rfl, leC_int rfl, leC_os rfl rfl⟩)⟩, trivial⟩⟩
     . have e1 : s1 = s := by rw [<- es1]; exact if_pos (by omega)
       conv => whnf
       exact ⟨(), [], rfl, ⟨leF_int rfl, leF_bool rfl, leF_int rfl, leF_ptr rfl, leF_c (leC_os rfl rfl), leF_int rfl, leF_ptr rfl, trivial⟩, ⟨⟨rfl, leN_varA fun j hj => (neC.sh _ j hj).le⟩, ⟨rfl, ⟨rfl, rfl, rfl, rfl, fun p hp j hj => rowT_le hj fun h => rowA_ne h⟩⟩, ⟨rfl, leN_eqN (by rw [e1])⟩, ⟨rfl, leN_varA (lt3c ⟨leC_int (by rw [e1]), leC_int (by rw [e1]), leC_os rfl (by rw [e1])⟩)⟩, trivial⟩⟩
   . intro _
     exact ht s1 es1 hok1 hmin hno (by rw [<- es1]; unfold raiseS; split; exact hno; exact plc_filter hok.h hno)
theorem racc_7 (L : List Sed) (now : Int) (c : Cas) (deaf : Bool) (draw : Int) (hI : AcR L 7 now c draw) (R : List Sed × Bool × Int) (hR : R = (L.set 7 (accS (L.getD 7 default) now c deaf draw).1, (accS (L.getD 7 default) now c deaf draw).2, 0))
 (ht : ∀ s1, raiseS (L.getD 7 default) (c.num - 31) = s1 -> SdOk s1 -> ¬ c.num < (L.getD 7 default).mn -> (plcH c.num (L.getD 7 default).held 0).2 = false -> (plcH c.num s1.held 0).2 = false -> Sem Try.prog Try.f39.ntmps 0 (dropC 11 (Try.f39.body.getD Code.ret)) (SBr L 7 s1 now c deaf draw ()).fr (SBr L 7 s1 now c deaf draw ()).H (SBr L 7 s1 now c deaf draw ()).nx (endH T Try.f39.results.toList fun x H _ => FinN (some R.1.length) (encAc R) (entN neS 78 R.1) x H)) :
 Sem Try.prog Try.f39.ntmps 0 (dropC 6 (Try.f39.body.getD Code.ret)) (SAr L 7 now c deaf draw ()).fr (SAr L 7 now c deaf draw ()).H (SAr L 7 now c deaf draw ()).nx (endH T Try.f39.results.toList fun x H _ => FinN (some R.1.length) (encAc R) (entN neS 78 R.1) x H) := by
 obtain ⟨hlt, hn9, hok, hnum, hd, hnow, hdr, hf⟩ := hI
 obtain ⟨s, es⟩ : ∃ s, L.getD 7 default = s := ⟨_, rfl⟩
 rw [es] at hok hR ht
 have hset : L.set 7 s = L := by rw [<- es]; exact gset_self hlt
 unfold SAr
 rw [es]
 refine sem_step (wd := 1) (Q := mkQ LRn) (by decide) tysOk (q_of LRn_ok) mixed ?_
 repeat' (first | (apply And.intro <;> intro hc <;> (first | exact Bool.noConfusion hc | (exfalso; first | exact absurd rfl hc | omega) | (simp only [zb0, ne_eq, not_true_eq_false] at hc <;> first | exact absurd rfl hc | (exfalso; first | exact absurd rfl hc | omega) | skip) | skip)) | (refine And.intro zp1 ?_) | (apply And.intro) | (intro s hs; (have q := rd_fndR hs (rowA_neI es.symm rfl) hf; clear hs; subst q)) | (refine Exists.intro _ (And.intro ⟨rfl, rfl, rfl⟩ ?_)))
 . exact rowA_okI
 . show (toN neI L.length fun k j => rowA 2 s 7 L (0 + k) j).length <= 9223372036854775807
   rw [toN_len]; omega
 refine sem_step (wd := 1) (Q := mkQ LRn) (by decide) tysOk (q_of LRn_ok) mixed ?_
 repeat' (first | (apply And.intro <;> intro hc <;> (first | exact Bool.noConfusion hc | (exfalso; first | exact absurd rfl hc | omega) | (simp only [zb0, ne_eq, not_true_eq_false] at hc <;> first | exact absurd rfl hc | (exfalso; first | exact absurd rfl hc | omega) | skip) | skip)) | (refine And.intro zp1 ?_) | (apply And.intro) | (intro s hs; skip) | (refine Exists.intro _ (And.intro ⟨rfl, rfl, rfl⟩ ?_)))
 refine sem_step (wd := 1) (Q := mkQ LRn) (by decide) tysOk (q_of LRn_ok) mixed ?_
 repeat' (first | (apply And.intro <;> intro hc <;> (first | exact Bool.noConfusion hc | (exfalso; first | exact absurd rfl hc | omega) | (simp only [zb0, ne_eq, not_true_eq_false] at hc <;> first | exact absurd rfl hc | (exfalso; first | exact absurd rfl hc | omega) | skip) | skip)) | (refine And.intro zp1 ?_) | (apply And.intro) | (intro s hs; skip) | (refine Exists.intro _ (And.intro ⟨rfl, rfl, rfl⟩ ?_)))
 . have hRe : R = (L, false, 0) := by
    rw [hR]; unfold accS; rw [if_pos (by assumption), hset]
   refine fin_acc (s := s) (d := 2) (hRe.trans (by rw [hset])) hlt rfl (fun p h j => rowA_ne h) rfl rfl rfl rfl rfl rfl rfl fun q hq j hj => (neH.sh _ j hj).le
 have hmin : ¬ c.num < s.mn := by assumption
 change Sem _ _ _ _ _ _ _ _
 refine sem_cut (wd := 1) (Q := mkQ LRn) (by decide) tysOk (q_of LRn_ok) (mono_of LRn_ok) mixed (fun _ : {u : Unit // (plcH c.num s.held 0).2 = false} => SLr L 7 s now c deaf draw) (by intro _; rfl) ?_ ?_
 . repeat' (first | (apply And.intro <;> intro hc <;> (first | exact Bool.noConfusion hc | (exfalso; first | exact absurd rfl hc | omega) | (simp only [zb0, ne_eq, not_true_eq_false] at hc <;> first | exact absurd rfl hc | (exfalso; first | exact absurd rfl hc | omega) | skip) | skip)) | (refine And.intro zp1 ?_) | (apply And.intro) | (intro s hs; skip) | (refine Exists.intro _ (And.intro ⟨rfl, rfl, rfl⟩ ?_)))
   conv => whnf
   refine loop_intro (mono_of LRn_ok) (fun u : {k : Nat // k <= s.held.length /\ ∀ p, p < k -> (s.held.getD p default).num ≠ c.num} => (⟨[(1, one (.int .i64 now)), (3, one (.bool deaf)), (4, one (.int .u32 draw)), (7, one (.ptr 0 0 0 false)), (13, one (.os 1 0 L.length)), (18, one (.int .i64 ((7 : Nat) : Int))), (19, one (.ptr 3 0 0 false)), (127, one (.int .i64 (s.held.length : Int))), (128, one (.int .i64 (u.1 : Int)))], [(0, some ⟨32, 1, 3, true, fun _ => neC.cell c⟩), (1, some ⟨78, L.length, 3, false, rowA 2 s 7 L⟩), (2, some (entN neH 85 s.held)), (3, some ⟨78, 1, 3, true, fun _ => sdO 2 s⟩)], 4⟩ : Hd)) (fun u => s.held.length - u.1) (fun _ => rfl) ?_ ⟨0, Nat.zero_le _, fun p hp => absurd hp (Nat.not_lt_zero p)⟩ [(3, some 12)] ⟨rfl, ⟨leF_int rfl, leF_bool rfl, leF_int rfl, leF_ptr rfl, leF_c (leC_os rfl rfl), leF_int rfl, leF_ptr rfl, leF_int rfl, leF_int rfl, trivial⟩, ⟨⟨rfl, leN_varA fun j hj => (neC.sh _ j hj).le⟩, ⟨rfl, ⟨rfl, rfl, rfl, rfl, fun p hp j hj => rowA_le hj rfl⟩⟩, ⟨rfl, leN_entN⟩, ⟨rfl, leN_varA (lt3c ⟨leC_int rfl, leC_int rfl, leC_os rfl rfl⟩)⟩, trivial⟩⟩
   rintro ⟨k, hk, hnk⟩
   dsimp only at hk hnk ⊢
   have hn32 := hok.n
   by_cases hkl : k < s.held.length
   . have w5 : IntKind.i64.wrap ((k : Int) + 1) = ((k + 1 : Nat) : Int) := (IntWalk.i64_in _ (by omega)).trans (by omega)
     have z0 : 0 + (k : Int).toNat = k := Nat.zero_add k
     obtain ⟨T, eT⟩ : ∃ T, hearT (s.held.getD k default).tm = T := ⟨_, rfl⟩
     repeat' (first | (simp only [z0]) | (apply And.intro <;> intro hc <;> (first | exact Bool.noConfusion hc | (exfalso; first | exact absurd rfl hc | omega) | (simp only [zb0, ne_eq, not_true_eq_false] at hc <;> first | exact absurd rfl hc | (exfalso; first | exact absurd rfl hc | omega) | skip) | skip)) | (refine And.intro zp1 ?_) | (apply And.intro) | (intro s hs; (have q : T = s := eT.symm.trans hs.symm; clear hs; subst q)) | (refine Exists.intro _ (And.intro ⟨rfl, rfl, rfl⟩ ?_)))
     . have hpl := plc_is hok.h hkl (by assumption)
       have hRe : R = (L.set 7 (hearS s k), false, 0) := by
        rw [hR]; unfold accS; rw [if_neg hmin, hpl, if_pos rfl]
       have hhe : hearS s k = ⟨s.id, s.mn, s.held.set k { s.held.getD k default with tm := T }⟩ := by unfold hearS; rw [eT]
       have hLh : (hearS s k).held.length = s.held.length := List.length_set
       conv => whnf
       refine fin_acc (s := hearS s k) (d := 2) hRe hlt rfl (fun p h j => rowA_ne h) rfl rfl (by rw [hLh]; rfl) rfl rfl hLh.symm rfl fun q hq j hj => ?_
       rw [hhe]
       exact (hel_row2 hkl (fun j hj => (Elem.flat _ _ _).le)).2 q (by rw [List.length_set, <- hLh]; exact hq) j hj
     . conv => whnf
       exact ⟨⟨k + 1, hkl, fun p hp => by
        by_cases h : p = k
        . subst h; assumption
        . exact hnk p (by omega)⟩, [], by dsimp only; omega, rfl, ⟨leF_int rfl, leF_bool rfl, leF_int rfl, leF_ptr rfl, leF_c (leC_os rfl rfl), leF_int rfl, leF_ptr rfl, leF_int rfl, leF_int w5, trivial⟩, ⟨⟨rfl, leN_varA fun j hj => (neC.sh _ j hj).le⟩, ⟨rfl, ⟨rfl, rfl, rfl, rfl, fun p hp j hj => rowA_le hj rfl⟩⟩, ⟨rfl, leN_entN⟩, ⟨rfl, leN_varA (lt3c ⟨leC_int rfl, leC_int rfl, leC_os rfl rfl⟩)⟩, trivial⟩⟩
   . repeat' (first | (apply And.intro <;> intro hc <;> (first | exact Bool.noConfusion hc | (exfalso; first | exact absurd rfl hc | omega) | (simp only [zb0, ne_eq, not_true_eq_false] at hc <;> first | exact absurd rfl hc | (exfalso; first | exact absurd rfl hc | omega) | skip) | skip)) | (refine And.intro zp1 ?_) | (apply And.intro) | (intro s hs; skip) | (refine Exists.intro _ (And.intro ⟨rfl, rfl, rfl⟩ ?_)))
     conv => whnf
     exact ⟨⟨(), plc_no fun p hp => hnk p (by omega)⟩, [], rfl, ⟨leF_int rfl, leF_bool rfl, leF_int rfl, leF_ptr rfl, leF_c (leC_os rfl rfl), leF_int rfl, leF_ptr rfl, trivial⟩, ⟨⟨rfl, leN_varA fun j hj => (neC.sh _ j hj).le⟩, ⟨rfl, ⟨rfl, rfl, rfl, rfl, fun p hp j hj => rowA_le hj rfl⟩⟩, ⟨rfl, leN_entN⟩, ⟨rfl, leN_varA (lt3c ⟨leC_int rfl, leC_int rfl, leC_os rfl rfl⟩)⟩, trivial⟩⟩
 . rintro ⟨_, hno⟩
   have hs1 : closeS s (c.num - 31) = raiseS s (c.num - 31) := close_raise hok
   obtain ⟨s1, es1⟩ : ∃ s1, raiseS s (c.num - 31) = s1 := ⟨_, rfl⟩
   rw [es1] at hs1
   have hok1 : SdOk s1 := by rw [<- es1]; exact raise_ok hok (by omega)
   have hk := hok.k
   have hmn := hok.mn
   have w31 : IntKind.i64.wrap (s.mn + 31) = s.mn + 31 := IntWalk.i64_in _ (by omega)
   have w32 : IntKind.i64.wrap (c.num - 31) = c.num - 31 := IntWalk.i64_in _ (by omega)
   unfold SLr
   change Sem _ _ _ _ _ _ _ _
   refine sem_cut (wd := 1) (Q := mkQ LRn) (by decide) tysOk (q_of LRn_ok) (mono_of LRn_ok) mixed (SBr L 7 s1 now c deaf draw) (by intro _; rfl) ?_ ?_
   . repeat' (first | (simp only [w31, w32]) | (apply And.intro <;> intro hc <;> (first | exact Bool.noConfusion hc | (exfalso; first | exact absurd rfl hc | omega) | (simp only [zb0, ne_eq, not_true_eq_false] at hc <;> first | exact absurd rfl hc | (exfalso; first | exact absurd rfl hc | omega) | skip) | skip)) | (refine And.intro zp1 ?_) | (apply And.intro) | (intro s hs; (have q := rd_close hs (sed_mk rfl rfl (toN_row0 neH_rd _)) hs1; clear hs; subst q)) | (refine Exists.intro _ (And.intro ⟨rfl, rfl, rfl⟩ ?_)))
     . exact ⟨rfl, rfl, fun _ _ => ⟨rfl, okD_sl _⟩⟩
     . exact Eq.mpr (congrArg KpI (toN_row0 neH_rd _)) hk
     . conv => whnf
       exact ⟨(), [(2, some 14)], rfl, ⟨leF_int rfl, leF_bool rfl, leF_int rfl, leF_ptr rfl, leF_c (leC_os rfl rfl), leF_int rfl, leF_ptr rfl, trivial⟩, ⟨⟨rfl, leN_varA fun j hj => (neC.sh _ j hj).le⟩, ⟨rfl, ⟨rfl, rfl, rfl, rfl, fun p hp j hj => rowT_le hj fun h => rowA_ne h⟩⟩, ⟨rfl, leN_entN⟩, ⟨rfl, leN_varA (lt3c ⟨leC_int rfl, leC_int rfl, leC_os rfl rfl⟩)⟩, trivial⟩⟩
     . have e1 : s1 = s := by rw [<- es1]; exact if_pos (by omega)
       conv => whnf
       exact ⟨(), [], rfl, ⟨leF_int rfl, leF_bool rfl, leF_int rfl, leF_ptr rfl, leF_c (leC_os rfl rfl), leF_int rfl, leF_ptr rfl, trivial⟩, ⟨⟨rfl, leN_varA fun j hj => (neC.sh _ j hj).le⟩, ⟨rfl, ⟨rfl, rfl, rfl, rfl, fun p hp j hj => rowT_le hj fun h => rowA_ne h⟩⟩, ⟨rfl, leN_eqN (by rw [e1])⟩, ⟨rfl, leN_varA (lt3c ⟨leC_int (by rw [e1]), leC_int (by rw [e1]), leC_os rfl (by rw [e1])⟩)⟩, trivial⟩⟩
   . intro _
     exact ht s1 es1 hok1 hmin hno (by rw [<- es1]; unfold raiseS; split; exact hno; exact plc_filter hok.h hno)
theorem racc_8 (L : List Sed) (now : Int) (c : Cas) (deaf : Bool) (draw : Int) (hI : AcR L 8 now c draw) (R : List Sed × Bool × Int) (hR : R = (L.set 8 (accS (L.getD 8 default) now c deaf draw).1, (accS (L.getD 8 default) now c deaf draw).2, 0))
 (ht : ∀ s1, raiseS (L.getD 8 default) (c.num - 31) = s1 -> SdOk s1 -> ¬ c.num < (L.getD 8 default).mn -> (plcH c.num (L.getD 8 default).held 0).2 = false -> (plcH c.num s1.held 0).2 = false -> Sem Try.prog Try.f39.ntmps 0 (dropC 11 (Try.f39.body.getD Code.ret)) (SBr L 8 s1 now c deaf draw ()).fr (SBr L 8 s1 now c deaf draw ()).H (SBr L 8 s1 now c deaf draw ()).nx (endH T Try.f39.results.toList fun x H _ => FinN (some R.1.length) (encAc R) (entN neS 78 R.1) x H)) :
 Sem Try.prog Try.f39.ntmps 0 (dropC 6 (Try.f39.body.getD Code.ret)) (SAr L 8 now c deaf draw ()).fr (SAr L 8 now c deaf draw ()).H (SAr L 8 now c deaf draw ()).nx (endH T Try.f39.results.toList fun x H _ => FinN (some R.1.length) (encAc R) (entN neS 78 R.1) x H) := by
 obtain ⟨hlt, hn9, hok, hnum, hd, hnow, hdr, hf⟩ := hI
 obtain ⟨s, es⟩ : ∃ s, L.getD 8 default = s := ⟨_, rfl⟩
 rw [es] at hok hR ht
 have hset : L.set 8 s = L := by rw [<- es]; exact gset_self hlt
 unfold SAr
 rw [es]
 refine sem_step (wd := 1) (Q := mkQ LRn) (by decide) tysOk (q_of LRn_ok) mixed ?_
 repeat' (first | (apply And.intro <;> intro hc <;> (first | exact Bool.noConfusion hc | (exfalso; first | exact absurd rfl hc | omega) | (simp only [zb0, ne_eq, not_true_eq_false] at hc <;> first | exact absurd rfl hc | (exfalso; first | exact absurd rfl hc | omega) | skip) | skip)) | (refine And.intro zp1 ?_) | (apply And.intro) | (intro s hs; (have q := rd_fndR hs (rowA_neI es.symm rfl) hf; clear hs; subst q)) | (refine Exists.intro _ (And.intro ⟨rfl, rfl, rfl⟩ ?_)))
 . exact rowA_okI
 . show (toN neI L.length fun k j => rowA 2 s 8 L (0 + k) j).length <= 9223372036854775807
   rw [toN_len]; omega
 refine sem_step (wd := 1) (Q := mkQ LRn) (by decide) tysOk (q_of LRn_ok) mixed ?_
 repeat' (first | (apply And.intro <;> intro hc <;> (first | exact Bool.noConfusion hc | (exfalso; first | exact absurd rfl hc | omega) | (simp only [zb0, ne_eq, not_true_eq_false] at hc <;> first | exact absurd rfl hc | (exfalso; first | exact absurd rfl hc | omega) | skip) | skip)) | (refine And.intro zp1 ?_) | (apply And.intro) | (intro s hs; skip) | (refine Exists.intro _ (And.intro ⟨rfl, rfl, rfl⟩ ?_)))
 refine sem_step (wd := 1) (Q := mkQ LRn) (by decide) tysOk (q_of LRn_ok) mixed ?_
 repeat' (first | (apply And.intro <;> intro hc <;> (first | exact Bool.noConfusion hc | (exfalso; first | exact absurd rfl hc | omega) | (simp only [zb0, ne_eq, not_true_eq_false] at hc <;> first | exact absurd rfl hc | (exfalso; first | exact absurd rfl hc | omega) | skip) | skip)) | (refine And.intro zp1 ?_) | (apply And.intro) | (intro s hs; skip) | (refine Exists.intro _ (And.intro ⟨rfl, rfl, rfl⟩ ?_)))
 . have hRe : R = (L, false, 0) := by
    rw [hR]; unfold accS; rw [if_pos (by assumption), hset]
   refine fin_acc (s := s) (d := 2) (hRe.trans (by rw [hset])) hlt rfl (fun p h j => rowA_ne h) rfl rfl rfl rfl rfl rfl rfl fun q hq j hj => (neH.sh _ j hj).le
 have hmin : ¬ c.num < s.mn := by assumption
 change Sem _ _ _ _ _ _ _ _
 refine sem_cut (wd := 1) (Q := mkQ LRn) (by decide) tysOk (q_of LRn_ok) (mono_of LRn_ok) mixed (fun _ : {u : Unit // (plcH c.num s.held 0).2 = false} => SLr L 8 s now c deaf draw) (by intro _; rfl) ?_ ?_
 . repeat' (first | (apply And.intro <;> intro hc <;> (first | exact Bool.noConfusion hc | (exfalso; first | exact absurd rfl hc | omega) | (simp only [zb0, ne_eq, not_true_eq_false] at hc <;> first | exact absurd rfl hc | (exfalso; first | exact absurd rfl hc | omega) | skip) | skip)) | (refine And.intro zp1 ?_) | (apply And.intro) | (intro s hs; skip) | (refine Exists.intro _ (And.intro ⟨rfl, rfl, rfl⟩ ?_)))
   conv => whnf
   refine loop_intro (mono_of LRn_ok) (fun u : {k : Nat // k <= s.held.length /\ ∀ p, p < k -> (s.held.getD p default).num ≠ c.num} => (⟨[(1, one (.int .i64 now)), (3, one (.bool deaf)), (4, one (.int .u32 draw)), (7, one (.ptr 0 0 0 false)), (13, one (.os 1 0 L.length)), (18, one (.int .i64 ((8 : Nat) : Int))), (19, one (.ptr 3 0 0 false)), (127, one (.int .i64 (s.held.length : Int))), (128, one (.int .i64 (u.1 : Int)))], [(0, some ⟨32, 1, 3, true, fun _ => neC.cell c⟩), (1, some ⟨78, L.length, 3, false, rowA 2 s 8 L⟩), (2, some (entN neH 85 s.held)), (3, some ⟨78, 1, 3, true, fun _ => sdO 2 s⟩)], 4⟩ : Hd)) (fun u => s.held.length - u.1) (fun _ => rfl) ?_ ⟨0, Nat.zero_le _, fun p hp => absurd hp (Nat.not_lt_zero p)⟩ [(3, some 12)] ⟨rfl, ⟨leF_int rfl, leF_bool rfl, leF_int rfl, leF_ptr rfl, leF_c (leC_os rfl rfl), leF_int rfl, leF_ptr rfl, leF_int rfl, leF_int rfl, trivial⟩, ⟨⟨rfl, leN_varA fun j hj => (neC.sh _ j hj).le⟩, ⟨rfl, ⟨rfl, rfl, rfl, rfl, fun p hp j hj => rowA_le hj rfl⟩⟩, ⟨rfl, leN_entN⟩, ⟨rfl, leN_varA (lt3c ⟨leC_int rfl, leC_int rfl, leC_os rfl rfl⟩)⟩, trivial⟩⟩
   rintro ⟨k, hk, hnk⟩
   dsimp only at hk hnk ⊢
   have hn32 := hok.n
   by_cases hkl : k < s.held.length
   . have w5 : IntKind.i64.wrap ((k : Int) + 1) = ((k + 1 : Nat) : Int) := (IntWalk.i64_in _ (by omega)).trans (by omega)
     have z0 : 0 + (k : Int).toNat = k := Nat.zero_add k
     obtain ⟨T, eT⟩ : ∃ T, hearT (s.held.getD k default).tm = T := ⟨_, rfl⟩
     repeat' (first | (simp only [z0]) | (apply And.intro <;> intro hc <;> (first | exact Bool.noConfusion hc | (exfalso; first | exact absurd rfl hc | omega) | (simp only [zb0, ne_eq, not_true_eq_false] at hc <;> first | exact absurd rfl hc | (exfalso; first | exact absurd rfl hc | omega) | skip) | skip)) | (refine And.intro zp1 ?_) | (apply And.intro) | (intro s hs; (have q : T = s := eT.symm.trans hs.symm; clear hs; subst q)) | (refine Exists.intro _ (And.intro ⟨rfl, rfl, rfl⟩ ?_)))
     . have hpl := plc_is hok.h hkl (by assumption)
       have hRe : R = (L.set 8 (hearS s k), false, 0) := by
        rw [hR]; unfold accS; rw [if_neg hmin, hpl, if_pos rfl]
       have hhe : hearS s k = ⟨s.id, s.mn, s.held.set k { s.held.getD k default with tm := T }⟩ := by unfold hearS; rw [eT]
       have hLh : (hearS s k).held.length = s.held.length := List.length_set
       conv => whnf
       refine fin_acc (s := hearS s k) (d := 2) hRe hlt rfl (fun p h j => rowA_ne h) rfl rfl (by rw [hLh]; rfl) rfl rfl hLh.symm rfl fun q hq j hj => ?_
       rw [hhe]
       exact (hel_row2 hkl (fun j hj => (Elem.flat _ _ _).le)).2 q (by rw [List.length_set, <- hLh]; exact hq) j hj
     . conv => whnf
       exact ⟨⟨k + 1, hkl, fun p hp => by
        by_cases h : p = k
        . subst h; assumption
        . exact hnk p (by omega)⟩, [], by dsimp only; omega, rfl, ⟨leF_int rfl, leF_bool rfl, leF_int rfl, leF_ptr rfl, leF_c (leC_os rfl rfl), leF_int rfl, leF_ptr rfl, leF_int rfl, leF_int w5, trivial⟩, ⟨⟨rfl, leN_varA fun j hj => (neC.sh _ j hj).le⟩, ⟨rfl, ⟨rfl, rfl, rfl, rfl, fun p hp j hj => rowA_le hj rfl⟩⟩, ⟨rfl, leN_entN⟩, ⟨rfl, leN_varA (lt3c ⟨leC_int rfl, leC_int rfl, leC_os rfl rfl⟩)⟩, trivial⟩⟩
   . repeat' (first | (apply And.intro <;> intro hc <;> (first | exact Bool.noConfusion hc | (exfalso; first | exact absurd rfl hc | omega) | (simp only [zb0, ne_eq, not_true_eq_false] at hc <;> first | exact absurd rfl hc | (exfalso; first | exact absurd rfl hc | omega) | skip) | skip)) | (refine And.intro zp1 ?_) | (apply And.intro) | (intro s hs; skip) | (refine Exists.intro _ (And.intro ⟨rfl, rfl, rfl⟩ ?_)))
     conv => whnf
     exact ⟨⟨(), plc_no fun p hp => hnk p (by omega)⟩, [], rfl, ⟨leF_int rfl, leF_bool rfl, leF_int rfl, leF_ptr rfl, leF_c (leC_os rfl rfl), leF_int rfl, leF_ptr rfl, trivial⟩, ⟨⟨rfl, leN_varA fun j hj => (neC.sh _ j hj).le⟩, ⟨rfl, ⟨rfl, rfl, rfl, rfl, fun p hp j hj => rowA_le hj rfl⟩⟩, ⟨rfl, leN_entN⟩, ⟨rfl, leN_varA (lt3c ⟨leC_int rfl, leC_int rfl, leC_os rfl rfl⟩)⟩, trivial⟩⟩
 . rintro ⟨_, hno⟩
   have hs1 : closeS s (c.num - 31) = raiseS s (c.num - 31) := close_raise hok
   obtain ⟨s1, es1⟩ : ∃ s1, raiseS s (c.num - 31) = s1 := ⟨_, rfl⟩
   rw [es1] at hs1
   have hok1 : SdOk s1 := by rw [<- es1]; exact raise_ok hok (by omega)
   have hk := hok.k
   have hmn := hok.mn
   have w31 : IntKind.i64.wrap (s.mn + 31) = s.mn + 31 := IntWalk.i64_in _ (by omega)
   have w32 : IntKind.i64.wrap (c.num - 31) = c.num - 31 := IntWalk.i64_in _ (by omega)
   unfold SLr
   change Sem _ _ _ _ _ _ _ _
   refine sem_cut (wd := 1) (Q := mkQ LRn) (by decide) tysOk (q_of LRn_ok) (mono_of LRn_ok) mixed (SBr L 8 s1 now c deaf draw) (by intro _; rfl) ?_ ?_
   . repeat' (first | (simp only [w31, w32]) | (apply And.intro <;> intro hc <;> (first | exact Bool.noConfusion hc | (exfalso; first | exact absurd rfl hc | omega) | (simp only [zb0, ne_eq, not_true_eq_false] at hc <;> first | exact absurd rfl hc | (exfalso; first | exact absurd rfl hc | omega) | skip) | skip)) | (refine And.intro zp1 ?_) | (apply And.intro) | (intro s hs; (have q := rd_close hs (sed_mk rfl rfl (toN_row0 neH_rd _)) hs1; clear hs; subst q)) | (refine Exists.intro _ (And.intro ⟨rfl, rfl, rfl⟩ ?_)))
     . exact ⟨rfl, rfl, fun _ _ => ⟨rfl, okD_sl _⟩⟩
     . exact Eq.mpr (congrArg KpI (toN_row0 neH_rd _)) hk
     . conv => whnf
       exact ⟨(), [(2, some 14)], rfl, ⟨leF_int rfl, leF_bool rfl, leF_int rfl, leF_ptr rfl, leF_c (leC_os rfl rfl), leF_int rfl, leF_ptr rfl, trivial⟩, ⟨⟨rfl, leN_varA fun j hj => (neC.sh _ j hj).le⟩, ⟨rfl, ⟨rfl, rfl, rfl, rfl, fun p hp j hj => rowT_le hj fun h => rowA_ne h⟩⟩, ⟨rfl, leN_entN⟩, ⟨rfl, leN_varA (lt3c ⟨leC_int rfl, leC_int rfl, leC_os rfl rfl⟩)⟩, trivial⟩⟩
     . have e1 : s1 = s := by rw [<- es1]; exact if_pos (by omega)
       conv => whnf
       exact ⟨(), [], rfl, ⟨leF_int rfl, leF_bool rfl, leF_int rfl, leF_ptr rfl, leF_c (leC_os rfl rfl), leF_int rfl, leF_ptr rfl, trivial⟩, ⟨⟨rfl, leN_varA fun j hj => (neC.sh _ j hj).le⟩, ⟨rfl, ⟨rfl, rfl, rfl, rfl, fun p hp j hj => rowT_le hj fun h => rowA_ne h⟩⟩, ⟨rfl, leN_eqN (by rw [e1])⟩, ⟨rfl, leN_varA (lt3c ⟨leC_int (by rw [e1]), leC_int (by rw [e1]), leC_os rfl (by rw [e1])⟩)⟩, trivial⟩⟩
   . intro _
     exact ht s1 es1 hok1 hmin hno (by rw [<- es1]; unfold raiseS; split; exact hno; exact plc_filter hok.h hno)
theorem racc_all (L : List Sed) (a : Nat) (now : Int) (c : Cas) (deaf : Bool) (draw : Int) (hI : AcR L a now c draw) (R : List Sed × Bool × Int) (hR : R = (L.set a (accS (L.getD a default) now c deaf draw).1, (accS (L.getD a default) now c deaf draw).2, 0)) :
 Sem Try.prog Try.f39.ntmps 0 (dropC 6 (Try.f39.body.getD Code.ret)) (SAr L a now c deaf draw ()).fr (SAr L a now c deaf draw ()).H (SAr L a now c deaf draw ()).nx (endH T Try.f39.results.toList fun x H _ => FinN (some R.1.length) (encAc R) (entN neS 78 R.1) x H) := by
 have h9 := hI.n
 have hl := hI.lt
 rcases (show a = 0 \/ a = 1 \/ a = 2 \/ a = 3 \/ a = 4 \/ a = 5 \/ a = 6 \/ a = 7 \/ a = 8 by omega) with rfl | rfl | rfl | rfl | rfl | rfl | rfl | rfl | rfl
 . exact racc_0 L now c deaf draw hI R hR fun s1 e1 h1 h2 h3 h4 => racc_tail L 0 _ s1 now c deaf draw hl h2 h3 h4 e1 h1 hI.num hI.d hI.now hI.dr R hR
 . exact racc_1 L now c deaf draw hI R hR fun s1 e1 h1 h2 h3 h4 => racc_tail L 1 _ s1 now c deaf draw hl h2 h3 h4 e1 h1 hI.num hI.d hI.now hI.dr R hR
 . exact racc_2 L now c deaf draw hI R hR fun s1 e1 h1 h2 h3 h4 => racc_tail L 2 _ s1 now c deaf draw hl h2 h3 h4 e1 h1 hI.num hI.d hI.now hI.dr R hR
 . exact racc_3 L now c deaf draw hI R hR fun s1 e1 h1 h2 h3 h4 => racc_tail L 3 _ s1 now c deaf draw hl h2 h3 h4 e1 h1 hI.num hI.d hI.now hI.dr R hR
 . exact racc_4 L now c deaf draw hI R hR fun s1 e1 h1 h2 h3 h4 => racc_tail L 4 _ s1 now c deaf draw hl h2 h3 h4 e1 h1 hI.num hI.d hI.now hI.dr R hR
 . exact racc_5 L now c deaf draw hI R hR fun s1 e1 h1 h2 h3 h4 => racc_tail L 5 _ s1 now c deaf draw hl h2 h3 h4 e1 h1 hI.num hI.d hI.now hI.dr R hR
 . exact racc_6 L now c deaf draw hI R hR fun s1 e1 h1 h2 h3 h4 => racc_tail L 6 _ s1 now c deaf draw hl h2 h3 h4 e1 h1 hI.num hI.d hI.now hI.dr R hR
 . exact racc_7 L now c deaf draw hI R hR fun s1 e1 h1 h2 h3 h4 => racc_tail L 7 _ s1 now c deaf draw hl h2 h3 h4 e1 h1 hI.num hI.d hI.now hI.dr R hR
 . exact racc_8 L now c deaf draw hI R hR fun s1 e1 h1 h2 h3 h4 => racc_tail L 8 _ s1 now c deaf draw hl h2 h3 h4 e1 h1 hI.num hI.d hI.now hI.dr R hR
def SFr (L : List Sed) (now : Int) (c : Cas) (deaf : Bool) (draw : Int) (_ : Unit) : Hd :=
 ⟨[(1, one (.int .i64 now)), (3, one (.bool deaf)), (4, one (.int .u32 draw)), (7, one (.ptr 0 0 0 false)), (13, one (.os 1 0 L.length))],
  (0, some ⟨32, 1, 3, true, fun _ => neC.cell c⟩) :: (1, some (entP 2 L.length L)) :: hepP 2 L, 10⟩
theorem rowP_neI {d n : Nat} {L : List Sed} (hn : n = L.length) : toN neI n (fun k j => rowP d L (0 + k) j) = L.map Sed.id := by
 subst hn
 apply List.ext_getElem
 . simp [toN]
 . intro i h1 h2
   have hi : i < L.length := by simpa using h2
   simp only [toN, List.getElem_map, List.getElem_range]
   show valI (rowP d L (0 + i) 0) = _
   rw [Nat.zero_add]
   show (L.getD i default).id = _
   rw [List.getD_eq_getElem?_getD, List.getElem?_eq_getElem hi]; rfl
theorem fndR_no {c : Cas} {L : List Sed} (hv : validL L = true) (h : (fndS c.id L 0).2 = false) : fndR c.id (L.map Sed.id) 0 = -1 := by
 rw [fndR_eq (vl_vs hv), h]; rfl
theorem fndR_yes {c : Cas} {L : List Sed} (hv : validL L = true) (h : (fndS c.id L 0).2 = true) : fndR c.id (L.map Sed.id) 0 = ((fndS c.id L 0).1 : Int) := by
 rw [fndR_eq (vl_vs hv), h]; rfl
def rowZ (g : Nat) (L : List Sed) (k j : Nat) : CV := bif Nat.beq k g && Nat.beq j 2 then .nils else rowN neS L k j
theorem rowZ_i {g k j : Nat} {L : List Sed} (h : k ≠ g \/ j ≠ 2) : rowZ g L k j = rowN neS L k j := by
 unfold rowZ
 rcases h with h | h
 . rw [beq_ne h]; rfl
 . rw [beq_ne h, Bool.and_false]; rfl
theorem rowZ_g {g : Nat} {L : List Sed} : rowZ g L g 2 = .nils := by unfold rowZ; rw [beq_refl_nat]; rfl
theorem rowZ_le {c : Wc} {g k j : Nat} {L : List Sed} (hj : j < 3) : LeC c (rowZ g L k j) (rowZ g L k j) := by
 by_cases h : k ≠ g \/ j ≠ 2
 . rw [rowZ_i h]; exact (neS.sh _ j hj).le
 . obtain ⟨rfl, rfl⟩ : k = g /\ j = 2 := by omega
   rw [rowZ_g]; exact leC_nils
theorem rowZ_app {g k j : Nat} {L Z : List Sed} (h : k < L.length) : rowZ g (L ++ Z) k j = rowZ g L k j := by
 have e : rowN neS (L ++ Z) k j = rowN neS L k j := congrArg (fun z => neS.cell z j) (by rw [List.getD_eq_getElem?_getD, List.getElem?_append_left h, <- List.getD_eq_getElem?_getD])
 unfold rowZ
 rw [e]
theorem rowZ_end {g j : Nat} {L : List Sed} {x : Sed} (h : L.length ≠ g \/ j ≠ 2) : rowZ g (L ++ [x]) L.length j = neS.cell x j := by
 rw [rowZ_i h]
 exact congrArg (fun z => neS.cell z j) (by simp [List.getD_eq_getElem?_getD])
theorem snocZ {c : Wc} {Z : List Sed} {x : Sed} {g n k j : Nat} {A B C : CV} (hn : n = Z.length) (hk : k < n + 1) (hj : j < 3) (hA : k < n -> LeC c A (rowZ g Z k j)) (h : LeC c B (rowZ g (Z ++ [x]) n j)) : LeC c (selC (Nat.blt k n) A (selC (Nat.beq (0 + (k - n)) 0) B C)) (rowZ g (Z ++ [x]) k j) := by
 subst hn
 by_cases hkz : k < Z.length
 . refine selC_in (Nat.ble_eq_true_of_le hkz) ?_
   rw [rowZ_app hkz]
   exact hA hkz
 . obtain rfl : k = Z.length := by omega
   exact selC_out (blt_self _) (selC_in (by rw [Nat.sub_self]; rfl) h)
theorem snocG {c : Wc} {n k : Nat} {A B C D : CV} (hk : k < n + 1) (hA : k < n -> LeC c A D) (hB : k = n -> LeC c B D) : LeC c (selC (Nat.blt k n) A (selC (Nat.beq (0 + (k - n)) 0) B C)) D := by
 by_cases h : k < n
 . exact selC_in (Nat.ble_eq_true_of_le h) (hA h)
 . obtain rfl : k = n := by omega
   exact selC_out (blt_self _) (selC_in (by rw [Nat.sub_self]; rfl) (hB rfl))
theorem rowP_A {c : Wc} {d a j : Nat} {L : List Sed} (hj : j < 3) (h : c.src 2 = some (d + a)) : LeC c (rowP d L a j) (rowA 2 (L.getD a default) a L a j) := by
 rw [rowA_at]
 rcases j with _ | _ | _ | j
 . exact leC_int rfl
 . exact leC_int rfl
 . exact leC_os h rfl
 . omega
theorem rowZ_A {c : Wc} {g k j : Nat} {I : List Sed} (hj : j < 3) (h0 : (I.getD g default).held.length = 0) : LeC c (rowZ g I k j) (rowA 2 (I.getD g default) g I k j) := by
 by_cases hk : k = g
 . subst hk
   rw [rowA_at]
   rcases j with _ | _ | _ | j
   . rw [rowZ_i (.inr (by decide))]; exact leC_int rfl
   . rw [rowZ_i (.inr (by decide))]; exact leC_int rfl
   . rw [rowZ_g]; exact leC_nils_os h0
   . omega
 . rw [rowA_ne hk, rowZ_i (.inl hk)]
   exact (neS.sh _ j hj).le
theorem racc_ins (L : List Sed) (now : Int) (c : Cas) (deaf : Bool) (draw : Int) (hv : validL L = true) (h8 : (fndS c.id L 0).2 = false -> L.length < 8) (hnum : 0 <= c.num /\ c.num < 1073741824) (R : List Sed × Bool × Int)
 (ht : Sem Try.prog Try.f39.ntmps 0 (dropC 6 (Try.f39.body.getD Code.ret)) (SAr (accL c L) (fndS c.id L 0).1 now c deaf draw ()).fr (SAr (accL c L) (fndS c.id L 0).1 now c deaf draw ()).H (SAr (accL c L) (fndS c.id L 0).1 now c deaf draw ()).nx (endH T Try.f39.results.toList fun x H _ => FinN (some R.1.length) (encAc R) (entN neS 78 R.1) x H)) :
 Sem Try.prog Try.f39.ntmps 0 (dropC 5 (Try.f39.body.getD Code.ret)) (SFr L now c deaf draw ()).fr (SFr L now c deaf draw ()).H (SFr L now c deaf draw ()).nx (endH T Try.f39.results.toList fun x H _ => FinN (some R.1.length) (encAc R) (entN neS 78 R.1) x H) := by
 have hl8 := vl_len hv
 obtain ⟨u, hu⟩ : ∃ u, (fndS c.id L 0).2 = u := ⟨_, rfl⟩
 obtain ⟨g, hg⟩ : ∃ g, (fndS c.id L 0).1 = g := ⟨_, rfl⟩
 obtain ⟨hle, hle2, _⟩ := fnd_le (id := c.id) (L := L) (k := 0)
 rw [hg, Nat.zero_add] at hle hle2
 rw [hu] at hle2
 rw [hg] at ht
 unfold SFr hepP
 cases u with
 | true =>
   have hF := fndR_yes hv hu
   rw [hg] at hF
   have eA : accL c L = L := by unfold accL; rw [if_pos hu]
   rw [eA] at ht
   have hgl := hle2 rfl
   refine sem_cut (wd := 1) (Q := mkQ LRn) (by decide) tysOk (q_of LRn_ok) (mono_of LRn_ok) mixed (SAr L g now c deaf draw) (by intro _; rfl) ?_ fun _ => ht
   repeat' (first | (apply And.intro <;> intro hc <;> (first | exact Bool.noConfusion hc | (exfalso; first | exact absurd rfl hc | omega) | (simp only [zb0, ne_eq, not_true_eq_false] at hc <;> first | exact absurd rfl hc | (exfalso; first | exact absurd rfl hc | omega) | skip) | skip)) | (refine And.intro zp1 ?_) | (apply And.intro) | (intro s hs; (have q := rd_fndR hs (rowP_neI rfl) hF; clear hs; subst q)) | (refine Exists.intro _ (And.intro ⟨rfl, rfl, rfl⟩ ?_)))
   . exact fun _ _ => rfl
   . show (toN neI L.length fun k j => rowP 2 L (0 + k) j).length <= 9223372036854775807
     rw [toN_len]; omega
   conv => whnf
   clear hF ht hg hle hle2
   rcases (show g = 0 \/ g = 1 \/ g = 2 \/ g = 3 \/ g = 4 \/ g = 5 \/ g = 6 \/ g = 7 by omega) with rfl | rfl | rfl | rfl | rfl | rfl | rfl | rfl
   . refine ⟨(), [(1, some 1), (2, some 2)], rfl, ⟨leF_int rfl, leF_bool rfl, leF_int rfl, leF_ptr rfl, leF_c (leC_os rfl rfl), trivial⟩, ⟨⟨rfl, leN_varA fun j hj => (neC.sh _ j hj).le⟩, ⟨rfl, ⟨rfl, rfl, rfl, rfl, fun p hp j hj => ?_⟩⟩, ⟨rfl, leN_entN⟩, trivial⟩⟩
     have hp : p < L.length := hp
     have hj : j < 3 := hj
     show LeC _ (rowP 2 L p j) (rowA 2 (L.getD 0 default) 0 L p j)
     rcases (show p = 0 \/ p = 1 \/ p = 2 \/ p = 3 \/ p = 4 \/ p = 5 \/ p = 6 \/ p = 7 by omega) with rfl | rfl | rfl | rfl | rfl | rfl | rfl | rfl
     all_goals first
      | (rw [rowA_ne (by decide)]; exact give_rowP hj rfl rfl)
      | exact rowP_A hj rfl
   . refine ⟨(), [(1, some 1), (2, some 3)], rfl, ⟨leF_int rfl, leF_bool rfl, leF_int rfl, leF_ptr rfl, leF_c (leC_os rfl rfl), trivial⟩, ⟨⟨rfl, leN_varA fun j hj => (neC.sh _ j hj).le⟩, ⟨rfl, ⟨rfl, rfl, rfl, rfl, fun p hp j hj => ?_⟩⟩, ⟨rfl, leN_entN⟩, trivial⟩⟩
     have hp : p < L.length := hp
     have hj : j < 3 := hj
     show LeC _ (rowP 2 L p j) (rowA 2 (L.getD 1 default) 1 L p j)
     rcases (show p = 0 \/ p = 1 \/ p = 2 \/ p = 3 \/ p = 4 \/ p = 5 \/ p = 6 \/ p = 7 by omega) with rfl | rfl | rfl | rfl | rfl | rfl | rfl | rfl
     all_goals first
      | (rw [rowA_ne (by decide)]; exact give_rowP hj rfl rfl)
      | exact rowP_A hj rfl
   . refine ⟨(), [(1, some 1), (2, some 4)], rfl, ⟨leF_int rfl, leF_bool rfl, leF_int rfl, leF_ptr rfl, leF_c (leC_os rfl rfl), trivial⟩, ⟨⟨rfl, leN_varA fun j hj => (neC.sh _ j hj).le⟩, ⟨rfl, ⟨rfl, rfl, rfl, rfl, fun p hp j hj => ?_⟩⟩, ⟨rfl, leN_entN⟩, trivial⟩⟩
     have hp : p < L.length := hp
     have hj : j < 3 := hj
     show LeC _ (rowP 2 L p j) (rowA 2 (L.getD 2 default) 2 L p j)
     rcases (show p = 0 \/ p = 1 \/ p = 2 \/ p = 3 \/ p = 4 \/ p = 5 \/ p = 6 \/ p = 7 by omega) with rfl | rfl | rfl | rfl | rfl | rfl | rfl | rfl
     all_goals first
      | (rw [rowA_ne (by decide)]; exact give_rowP hj rfl rfl)
      | exact rowP_A hj rfl
   . refine ⟨(), [(1, some 1), (2, some 5)], rfl, ⟨leF_int rfl, leF_bool rfl, leF_int rfl, leF_ptr rfl, leF_c (leC_os rfl rfl), trivial⟩, ⟨⟨rfl, leN_varA fun j hj => (neC.sh _ j hj).le⟩, ⟨rfl, ⟨rfl, rfl, rfl, rfl, fun p hp j hj => ?_⟩⟩, ⟨rfl, leN_entN⟩, trivial⟩⟩
     have hp : p < L.length := hp
     have hj : j < 3 := hj
     show LeC _ (rowP 2 L p j) (rowA 2 (L.getD 3 default) 3 L p j)
     rcases (show p = 0 \/ p = 1 \/ p = 2 \/ p = 3 \/ p = 4 \/ p = 5 \/ p = 6 \/ p = 7 by omega) with rfl | rfl | rfl | rfl | rfl | rfl | rfl | rfl
     all_goals first
      | (rw [rowA_ne (by decide)]; exact give_rowP hj rfl rfl)
      | exact rowP_A hj rfl
   . refine ⟨(), [(1, some 1), (2, some 6)], rfl, ⟨leF_int rfl, leF_bool rfl, leF_int rfl, leF_ptr rfl, leF_c (leC_os rfl rfl), trivial⟩, ⟨⟨rfl, leN_varA fun j hj => (neC.sh _ j hj).le⟩, ⟨rfl, ⟨rfl, rfl, rfl, rfl, fun p hp j hj => ?_⟩⟩, ⟨rfl, leN_entN⟩, trivial⟩⟩
     have hp : p < L.length := hp
     have hj : j < 3 := hj
     show LeC _ (rowP 2 L p j) (rowA 2 (L.getD 4 default) 4 L p j)
     rcases (show p = 0 \/ p = 1 \/ p = 2 \/ p = 3 \/ p = 4 \/ p = 5 \/ p = 6 \/ p = 7 by omega) with rfl | rfl | rfl | rfl | rfl | rfl | rfl | rfl
     all_goals first
      | (rw [rowA_ne (by decide)]; exact give_rowP hj rfl rfl)
      | exact rowP_A hj rfl
   . refine ⟨(), [(1, some 1), (2, some 7)], rfl, ⟨leF_int rfl, leF_bool rfl, leF_int rfl, leF_ptr rfl, leF_c (leC_os rfl rfl), trivial⟩, ⟨⟨rfl, leN_varA fun j hj => (neC.sh _ j hj).le⟩, ⟨rfl, ⟨rfl, rfl, rfl, rfl, fun p hp j hj => ?_⟩⟩, ⟨rfl, leN_entN⟩, trivial⟩⟩
     have hp : p < L.length := hp
     have hj : j < 3 := hj
     show LeC _ (rowP 2 L p j) (rowA 2 (L.getD 5 default) 5 L p j)
     rcases (show p = 0 \/ p = 1 \/ p = 2 \/ p = 3 \/ p = 4 \/ p = 5 \/ p = 6 \/ p = 7 by omega) with rfl | rfl | rfl | rfl | rfl | rfl | rfl | rfl
     all_goals first
      | (rw [rowA_ne (by decide)]; exact give_rowP hj rfl rfl)
      | exact rowP_A hj rfl
   . refine ⟨(), [(1, some 1), (2, some 8)], rfl, ⟨leF_int rfl, leF_bool rfl, leF_int rfl, leF_ptr rfl, leF_c (leC_os rfl rfl), trivial⟩, ⟨⟨rfl, leN_varA fun j hj => (neC.sh _ j hj).le⟩, ⟨rfl, ⟨rfl, rfl, rfl, rfl, fun p hp j hj => ?_⟩⟩, ⟨rfl, leN_entN⟩, trivial⟩⟩
     have hp : p < L.length := hp
     have hj : j < 3 := hj
     show LeC _ (rowP 2 L p j) (rowA 2 (L.getD 6 default) 6 L p j)
     rcases (show p = 0 \/ p = 1 \/ p = 2 \/ p = 3 \/ p = 4 \/ p = 5 \/ p = 6 \/ p = 7 by omega) with rfl | rfl | rfl | rfl | rfl | rfl | rfl | rfl
     all_goals first
      | (rw [rowA_ne (by decide)]; exact give_rowP hj rfl rfl)
      | exact rowP_A hj rfl
   . refine ⟨(), [(1, some 1), (2, some 9)], rfl, ⟨leF_int rfl, leF_bool rfl, leF_int rfl, leF_ptr rfl, leF_c (leC_os rfl rfl), trivial⟩, ⟨⟨rfl, leN_varA fun j hj => (neC.sh _ j hj).le⟩, ⟨rfl, ⟨rfl, rfl, rfl, rfl, fun p hp j hj => ?_⟩⟩, ⟨rfl, leN_entN⟩, trivial⟩⟩
     have hp : p < L.length := hp
     have hj : j < 3 := hj
     show LeC _ (rowP 2 L p j) (rowA 2 (L.getD 7 default) 7 L p j)
     rcases (show p = 0 \/ p = 1 \/ p = 2 \/ p = 3 \/ p = 4 \/ p = 5 \/ p = 6 \/ p = 7 by omega) with rfl | rfl | rfl | rfl | rfl | rfl | rfl | rfl
     all_goals first
      | (rw [rowA_ne (by decide)]; exact give_rowP hj rfl rfl)
      | exact rowP_A hj rfl
 | false =>
   have hF := fndR_no hv hu
   have h7 := h8 hu
   have hlt : ∀ p, p < g -> (L.getD p default).id < c.id := fun p hp => by
    have := fnd_lt (n := c.id) (L := L) (k := 0) (p := p) (Nat.zero_le _) (by rw [hg]; exact hp)
    rwa [Nat.sub_zero] at this
   have hat : g < L.length -> c.id < (L.getD g default).id := fun hp => by
    have := fnd_at (n := c.id) (L := L) (k := 0) hu (by rw [hg]; exact hp)
    rwa [hg, Nat.sub_zero] at this
   obtain ⟨x, ex⟩ : ∃ x : Sed, (⟨c.id, c.num, []⟩ : Sed) = x := ⟨_, rfl⟩
   have eA : accL c L = insA g x L := by unfold accL; rw [if_neg (by rw [hu]; simp), hg, ex]
   have xi : x.id = c.id := by rw [<- ex]
   have xm : x.mn = c.num := by rw [<- ex]
   have xh : x.held = [] := by rw [<- ex]
   rw [eA] at ht
   refine sem_cut (wd := 1) (Q := mkQ LRn) (by decide) tysOk (q_of LRn_ok) (mono_of LRn_ok) mixed (SAr (insA g x L) g now c deaf draw) (by intro _; rfl) ?_ fun _ => ht
   repeat' (first | (apply And.intro <;> intro hc <;> (first | exact Bool.noConfusion hc | (exfalso; first | exact absurd rfl hc | omega) | (simp only [zb0, ne_eq, not_true_eq_false] at hc <;> first | exact absurd rfl hc | (exfalso; first | exact absurd rfl hc | omega) | skip) | skip)) | (refine And.intro zp1 ?_) | (apply And.intro) | (intro s hs; (have q := rd_fndR hs (rowP_neI rfl) hF; clear hs; subst q)) | (refine Exists.intro _ (And.intro ⟨rfl, rfl, rfl⟩ ?_)))
   . exact fun _ _ => rfl
   . show (toN neI L.length fun k j => rowP 2 L (0 + k) j).length <= 9223372036854775807
     rw [toN_len]; omega
   conv => whnf
   clear hF ht hg hle2 eA h8 hu
   refine loop_intro (mono_of LRn_ok) (fun u : {u : Nat × Bool × List Sed // u.1 <= L.length /\ InsI g x L u.1 u.2.1 u.2.2} => (⟨[(1, one (.int .i64 now)), (3, one (.bool deaf)), (4, one (.int .u32 draw)), (7, one (.ptr 0 0 0 false)), (14, one (.os 2 0 u.1.2.2.length)), (15, one (.bool u.1.2.1)), (72, one (.os 1 0 L.length)), (73, one (.int .i64 (L.length : Int))), (74, one (.int .i64 (u.1.1 : Int)))], [(0, some ⟨32, 1, 3, true, fun _ => neC.cell c⟩), (1, some (entN neS 78 L)), (2, some ⟨78, u.1.2.2.length, 3, false, rowZ g u.1.2.2⟩)], 3⟩ : Hd)) (fun u => L.length - u.1.1) (fun _ => rfl) ?_ ⟨(0, false, []), Nat.zero_le _, .no (Nat.zero_le _)⟩ [(2, none)] ⟨rfl, ⟨leF_int rfl, leF_bool rfl, leF_int rfl, leF_ptr rfl, leF_c (leC_nils_os rfl), leF_bool rfl, leF_c (leC_os rfl rfl), leF_int rfl, leF_int rfl, trivial⟩, ⟨⟨rfl, leN_varA fun j hj => (neC.sh _ j hj).le⟩, ⟨rfl, ⟨rfl, rfl, rfl, rfl, fun p hp j hj => ?_⟩⟩, ⟨rfl, rfl, rfl, Nat.le_of_ble_eq_true rfl⟩, trivial⟩⟩
   rotate_left
   . have hp : p < L.length := hp
     have hj : j < 3 := hj
     show LeC _ (rowP 2 L p j) (rowN neS L p j)
     rcases (show p = 0 \/ p = 1 \/ p = 2 \/ p = 3 \/ p = 4 \/ p = 5 \/ p = 6 \/ p = 7 by omega) with rfl | rfl | rfl | rfl | rfl | rfl | rfl | rfl
     all_goals exact give_rowP hj rfl rfl
   rintro ⟨⟨p, dn, Lo⟩, hp, hIn⟩
   dsimp only at hp hIn ⊢
   by_cases hpl : p < L.length
   . have w5 : IntKind.i64.wrap ((p : Int) + 1) = ((p + 1 : Nat) : Int) := (IntWalk.i64_in _ (by omega)).trans (by omega)
     have z1 : 0 + (p : Int).toNat = p := Nat.zero_add p
     obtain ⟨s, es⟩ : ∃ s, L.getD p default = s := ⟨_, rfl⟩
     have eck : rowN neS L p = neS.cell s := congrArg neS.cell es
     have hLl := ins_len hIn
     cases hIn with
     | no hpg =>
       by_cases hpq : p < g
       . have hlt1 := hlt p hpq
         rw [es] at hlt1
         have hnx := ins_no (x := x) hpq hpl
         rw [es] at hnx
         have hlz : (L.take p).length = p := by rw [List.length_take]; omega
         repeat' (first | (simp only [z1, eck]) | (apply And.intro <;> intro hc <;> (first | exact Bool.noConfusion hc | (exfalso; first | exact absurd rfl hc | omega) | (simp only [zb0, ne_eq, not_true_eq_false] at hc <;> first | exact absurd rfl hc | (exfalso; first | exact absurd rfl hc | omega) | skip) | skip)) | (refine And.intro zp1 ?_) | (apply And.intro) | (intro s hs; skip) | (refine Exists.intro _ (And.intro ⟨rfl, rfl, rfl⟩ ?_)))
         conv => whnf
         refine ⟨⟨(p + 1, false, L.take p ++ [s]), hpl, hnx⟩, [(2, some 20)], by dsimp only; omega, rfl, ⟨leF_int rfl, leF_bool rfl, leF_int rfl, leF_ptr rfl, leF_c (leC_os rfl (by rw [List.length_append]; rfl)), leF_bool rfl, leF_c (leC_os rfl rfl), leF_int rfl, leF_int w5, trivial⟩, ⟨⟨rfl, leN_varA fun j hj => (neC.sh _ j hj).le⟩, ⟨rfl, leN_entN⟩, ⟨rfl, ⟨rfl, by show _ = (L.take p ++ [s]).length; rw [List.length_append]; rfl, rfl, rfl, fun k hk j hj => snocZ (Z := L.take p) (x := s) rfl hk hj (fun _ => rowZ_le hj) ?_⟩⟩, trivial⟩⟩
         rw [rowZ_end (.inl (by omega))]
         have hj : j < 3 := hj
         rcases j with _ | _ | _ | j
         . exact leC_int rfl
         . exact leC_int rfl
         . exact (neS.sh s 2 (by decide)).le
         . omega
       . obtain rfl : p = g := by omega
         have hat1 := hat hpl
         rw [es] at hat1
         have hnx := ins_at (x := x) hpl
         rw [es] at hnx
         have hlz : (L.take p).length = p := by rw [List.length_take]; omega
         repeat' (first | (simp only [z1, eck]) | (apply And.intro <;> intro hc <;> (first | exact Bool.noConfusion hc | (exfalso; first | exact absurd rfl hc | omega) | (simp only [zb0, ne_eq, not_true_eq_false] at hc <;> first | exact absurd rfl hc | (exfalso; first | exact absurd rfl hc | omega) | skip) | skip)) | (refine And.intro zp1 ?_) | (apply And.intro) | (intro s hs; skip) | (refine Exists.intro _ (And.intro ⟨rfl, rfl, rfl⟩ ?_)))
         conv => whnf
         refine ⟨⟨(p + 1, true, (L.take p ++ [x]) ++ [s]), hpl, hnx⟩, [(2, some 30)], by dsimp only; omega, rfl, ⟨leF_int rfl, leF_bool rfl, leF_int rfl, leF_ptr rfl, leF_c (leC_os rfl (by rw [List.length_append, List.length_append]; rfl)), leF_bool rfl, leF_c (leC_os rfl rfl), leF_int rfl, leF_int w5, trivial⟩, ⟨⟨rfl, leN_varA fun j hj => (neC.sh _ j hj).le⟩, ⟨rfl, leN_entN⟩, ⟨rfl, ⟨rfl, by show _ = ((L.take p ++ [x]) ++ [s]).length; rw [List.length_append, List.length_append]; rfl, rfl, rfl, fun k hk j hj => snocZ (Z := L.take p ++ [x]) (x := s) (by rw [List.length_append]; rfl) hk hj (fun hk1 => snocZ (Z := L.take p) (x := x) rfl hk1 hj (fun _ => rowZ_le hj) ?_) ?_⟩⟩, trivial⟩⟩
         . have hj : j < 3 := hj
           rcases j with _ | _ | _ | j
           . rw [rowZ_end (.inr (by decide))]; exact leC_int xi.symm
           . rw [rowZ_end (.inr (by decide))]; exact leC_int xm.symm
           . rw [hlz, rowZ_g]; exact leC_nils
           . omega
         . have e : (L.take p ++ [x]).length = (L.take p).length + 1 := by rw [List.length_append]; rfl
           rw [<- e, rowZ_end (.inl (by omega))]
           have hj : j < 3 := hj
           rcases j with _ | _ | _ | j
           . exact leC_int rfl
           . exact leC_int rfl
           . exact (neS.sh s 2 (by decide)).le
           . omega
     | yes hgp =>
       have hnx := ins_yes (x := x) hgp hpl
       rw [es] at hnx
       have hlz : ((insA g x L).take (p + 1)).length = p + 1 := by rw [List.length_take, insA_len (by omega)]; omega
       repeat' (first | (simp only [z1, eck]) | (apply And.intro <;> intro hc <;> (first | exact Bool.noConfusion hc | (exfalso; first | exact absurd rfl hc | omega) | (simp only [zb0, ne_eq, not_true_eq_false] at hc <;> first | exact absurd rfl hc | (exfalso; first | exact absurd rfl hc | omega) | skip) | skip)) | (refine And.intro zp1 ?_) | (apply And.intro) | (intro s hs; skip) | (refine Exists.intro _ (And.intro ⟨rfl, rfl, rfl⟩ ?_)))
       conv => whnf
       refine ⟨⟨(p + 1, true, (insA g x L).take (p + 1) ++ [s]), hpl, hnx⟩, [(2, some 20)], by dsimp only; omega, rfl, ⟨leF_int rfl, leF_bool rfl, leF_int rfl, leF_ptr rfl, leF_c (leC_os rfl (by rw [List.length_append]; rfl)), leF_bool rfl, leF_c (leC_os rfl rfl), leF_int rfl, leF_int w5, trivial⟩, ⟨⟨rfl, leN_varA fun j hj => (neC.sh _ j hj).le⟩, ⟨rfl, leN_entN⟩, ⟨rfl, ⟨rfl, by show _ = ((insA g x L).take (p + 1) ++ [s]).length; rw [List.length_append]; rfl, rfl, rfl, fun k hk j hj => snocZ (Z := (insA g x L).take (p + 1)) (x := s) rfl hk hj (fun _ => rowZ_le hj) ?_⟩⟩, trivial⟩⟩
       rw [rowZ_end (.inl (by omega))]
       have hj : j < 3 := hj
       rcases j with _ | _ | _ | j
       . exact leC_int rfl
       . exact leC_int rfl
       . exact (neS.sh s 2 (by decide)).le
       . omega
   . obtain rfl : p = L.length := by omega
     cases hIn with
     | no hpg =>
       obtain rfl : L.length = g := by omega
       have hlz : (L.take L.length).length = L.length := by rw [List.length_take]; omega
       have eI : insA L.length x L = L.take L.length ++ [x] := ins_end0.symm
       have eD : (insA L.length x L).getD L.length default = x := insA_eq (Nat.le_refl _)
       repeat' (first | (apply And.intro <;> intro hc <;> (first | exact Bool.noConfusion hc | (exfalso; first | exact absurd rfl hc | omega) | (simp only [zb0, ne_eq, not_true_eq_false] at hc <;> first | exact absurd rfl hc | (exfalso; first | exact absurd rfl hc | omega) | skip) | skip)) | (refine And.intro zp1 ?_) | (apply And.intro) | (intro s hs; skip) | (refine Exists.intro _ (And.intro ⟨rfl, rfl, rfl⟩ ?_)))
       conv => whnf
       refine ⟨(), [(1, some 13), (2, none)], rfl, ⟨leF_int rfl, leF_bool rfl, leF_int rfl, leF_ptr rfl, leF_c (leC_os rfl (by rw [eI, List.length_append]; rfl)), trivial⟩, ⟨⟨rfl, leN_varA fun j hj => (neC.sh _ j hj).le⟩, ⟨rfl, ⟨rfl, by rw [eI, List.length_append]; rfl, rfl, rfl, fun k hk j hj => ?_⟩⟩, ?_, trivial⟩⟩
       . have hj : j < 3 := hj
         refine snocG hk (fun h => ?_) (fun h => ?_)
         . show LeC _ (rowZ L.length (L.take L.length) k j) (rowA 2 ((insA L.length x L).getD L.length default) L.length (insA L.length x L) k j)
           rw [rowA_ne (by omega), rowZ_i (.inl (by omega)), show rowN neS (insA L.length x L) k j = rowN neS (L.take L.length) k j from congrArg (fun z => neS.cell z j) (by rw [insA_lt (Nat.le_refl _) (by omega), List.take_length])]
           exact (neS.sh _ j hj).le
         . obtain rfl : k = L.length := by omega
           show LeC _ _ (rowA 2 ((insA L.length x L).getD L.length default) L.length (insA L.length x L) L.length j)
           rw [rowA_at, eD]
           rcases j with _ | _ | _ | j
           . exact leC_int xi.symm
           . exact leC_int xm.symm
           . exact leC_nils_os (by rw [xh]; rfl)
           . omega
       . rw [eD, xh]; exact ⟨rfl, rfl, rfl, Nat.le_of_ble_eq_true rfl⟩
     | yes hgp =>
       have hlz : ((insA g x L).take (L.length + 1)).length = L.length + 1 := by rw [List.length_take, insA_len (by omega)]; omega
       have eI : insA g x L = (insA g x L).take (L.length + 1) := (ins_end1 (by omega)).symm
       have eD : (insA g x L).getD g default = x := insA_eq (by omega)
       repeat' (first | (apply And.intro <;> intro hc <;> (first | exact Bool.noConfusion hc | (exfalso; first | exact absurd rfl hc | omega) | (simp only [zb0, ne_eq, not_true_eq_false] at hc <;> first | exact absurd rfl hc | (exfalso; first | exact absurd rfl hc | omega) | skip) | skip)) | (refine And.intro zp1 ?_) | (apply And.intro) | (intro s hs; skip) | (refine Exists.intro _ (And.intro ⟨rfl, rfl, rfl⟩ ?_)))
       conv => whnf
       refine ⟨(), [(1, some 2), (2, none)], rfl, ⟨leF_int rfl, leF_bool rfl, leF_int rfl, leF_ptr rfl, leF_c (leC_os rfl (by rw [<- eI])), trivial⟩, ⟨⟨rfl, leN_varA fun j hj => (neC.sh _ j hj).le⟩, ⟨rfl, ⟨rfl, by rw [<- eI], rfl, rfl, fun k hk j hj => ?_⟩⟩, ?_, trivial⟩⟩
       . have hj : j < 3 := hj
         show LeC _ (rowZ g ((insA g x L).take (L.length + 1)) k j) (rowA 2 ((insA g x L).getD g default) g (insA g x L) k j)
         rw [<- eI]
         exact rowZ_A hj (by rw [eD, xh]; rfl)
       . rw [eD, xh]; exact ⟨rfl, rfl, rfl, Nat.le_of_ble_eq_true rfl⟩
structure AccR (L : List Sed) (c : Cas) (d : Int) : Prop where
 h : LHp L
 i : 0 <= c.id
 d : drawOk d
theorem racc1 (L : List Sed) (now : Int) (c : Cas) (deaf : Bool) (draw : Int) (hP : AccR L c draw) : NewOk Try.prog 39 [(cNS neS neS_sz).enc L, (cI .i64).enc now, (cN neC).enc c, cB.enc deaf, (cI .u32).enc draw] (some (acceptF L now c deaf draw).1.length) (encAc (acceptF L now c deaf draw)) (entN neS 78 (acceptF L now c deaf draw).1) := by
 obtain ⟨hL, hid, hdr⟩ := hP
 obtain ⟨R, hR⟩ : ∃ R, acceptF L now c deaf draw = R := ⟨_, rfl⟩
 rw [hR]
 obtain ⟨V, hV⟩ : ∃ V, validL L = V := ⟨_, rfl⟩
 obtain ⟨F, hF⟩ : ∃ F, fndR c.id (L.map Sed.id) 0 = F := ⟨_, rfl⟩
 obtain ⟨B, hB⟩ : ∃ B, isTimeT now = B := ⟨_, rfl⟩
 have hV0 : V = false -> R = ([], false, 1) := fun h => by rw [<- hR]; unfold acceptF; rw [if_pos (.inl (hV.trans h))]
 have hI0 : c.id = 0 -> R = ([], false, 1) := fun h => by rw [<- hR]; unfold acceptF; rw [if_pos (.inr (.inl h))]
 have hD0 : 64 < c.data.length -> R = ([], false, 1) := fun h => by rw [<- hR]; unfold acceptF; rw [if_pos (.inr (.inr h))]
 have h1 : V = true -> ¬ c.id = 0 -> ¬ 64 < c.data.length -> R = if isTimeT now = false \/ c.num < 0 \/ 1073741824 <= c.num then ([], false, 2) else
  if (fndS c.id L 0).2 = false /\ 8 <= L.length then ([], false, 10) else
  ((accL c L).set (fndS c.id L 0).1 (accS ((accL c L).getD (fndS c.id L 0).1 default) now c deaf draw).1, (accS ((accL c L).getD (fndS c.id L 0).1 default) now c deaf draw).2, 0) := fun ha hb hd => by
  rw [<- hR]; unfold acceptF; rw [if_neg (by rw [hV, ha]; simp; omega)]
 clear hR
 refine new_introS tysOk Try.func39 rfl _ (by show 5 <= _; decide) (fun i _ j hj => rowN_nf _ hj) ?_
 refine sem_step (wd := 1) (Q := mkQ LRn) (by decide) tysOk (q_of LRn_ok) mixed ?_
 refine sem_step (wd := 1) (Q := mkQ LRn) (by decide) tysOk (q_of LRn_ok) mixed ?_
 repeat' (first | (apply And.intro <;> intro hc <;> (first | exact Bool.noConfusion hc | (exfalso; first | exact absurd rfl hc) | (simp only [zb0, ne_eq, not_true_eq_false] at hc <;> first | exact absurd rfl hc | (exfalso; first | exact absurd rfl hc) | skip) | skip)) | (refine And.intro zp1 ?_) | (apply And.intro) | (intro s hs; (have q : V = s := rd_validL hs (toN_row neS_rd _) hV; clear hs; subst q)) | (refine Exists.intro _ (And.intro ⟨rfl, rfl, rfl⟩ ?_)))
 . exact fun _ _ => ⟨rfl, okHs_sl _⟩
 . exact Eq.mpr (congrArg LHp (toN_row neS_rd _)) hL
 . exact fin_err (hV0 (by assumption))
 . exact fin_err (hI0 (by assumption))
 . exact fin_err (hD0 (by omega))
 rename_i hi
 have h2 := h1 (by assumption) hi (by omega)
 clear h1 hV0 hI0 hD0
 refine sem_step (wd := 1) (Q := mkQ LRn) (by decide) tysOk (q_of LRn_ok) mixed ?_
 repeat' (first | (apply And.intro <;> intro hc <;> (first | exact Bool.noConfusion hc | (exfalso; first | exact absurd rfl hc) | (simp only [zb0, ne_eq, not_true_eq_false] at hc <;> first | exact absurd rfl hc | (exfalso; first | exact absurd rfl hc) | skip) | skip)) | (refine And.intro zp1 ?_) | (apply And.intro) | (intro s hs; (have q : B = s := hB.symm.trans hs.symm; clear hs; subst q)) | (refine Exists.intro _ (And.intro ⟨rfl, rfl, rfl⟩ ?_)))
 . exact fin_err (h2.trans (if_pos (.inl (hB.trans (by assumption)))))
 . exact fin_err (h2.trans (if_pos (.inr (.inl (by assumption)))))
 . exact fin_err (h2.trans (if_pos (.inr (.inr hc))))
 rename_i hn
 have h3 := h2.trans (if_neg (by rw [hB, show B = true by assumption]; simp; omega))
 clear h2
 have hVt : validL L = true := hV.trans (by assumption)
 have hl8 := vl_len hVt
 have hc8 := vl_c8 hVt
 refine sem_step (wd := 1) (Q := mkQ LRn) (by decide) tysOk (q_of LRn_ok) mixed ?_
 repeat' (first | (apply And.intro <;> intro hc <;> (first | exact Bool.noConfusion hc | (exfalso; first | exact absurd rfl hc | omega) | (simp only [zb0, ne_eq, not_true_eq_false] at hc <;> first | exact absurd rfl hc | (exfalso; first | exact absurd rfl hc | omega) | skip) | skip)) | (refine And.intro zp1 ?_) | (apply And.intro) | (intro s hs; (have q := rd_fndR hs (toNI L) hF; clear hs; subst q)) | (refine Exists.intro _ (And.intro ⟨rfl, rfl, rfl⟩ ?_)))
 . show (toN neI L.length (rowN neS L)).length <= 9223372036854775807
   rw [toN_len]; omega
 . have hu : (fndS c.id L 0).2 = false := by
    cases hu : (fndS c.id L 0).2 with
    | false => rfl
    | true => have := fndR_yes hVt hu; omega
   exact fin_err (h3.trans (if_pos ⟨hu, by omega⟩))
 . have h4 := h3.trans (if_neg (by omega))
   clear h3
   have hAcc := accL_ok (c := c) hVt (by omega) ⟨by omega, by omega⟩ (.inr (by omega))
   obtain ⟨a1, a2, a3⟩ := hAcc
   have hI : AcR (accL c L) (fndS c.id L 0).1 now c draw := ⟨a2, by have := vl_len a1; omega, (vl_mem a1 _ (getD_in a2)).2, ⟨by omega, by omega⟩, by omega, time_rng (hB.trans (by assumption)), hdr, fndR_acc a1 a2 a3⟩
   change Sem _ _ _ _ _ _ _ _
   refine sem_cut (wd := 9) (Q := mkQ LRn) (by decide) tysOk (q_of LRn_ok) (mono_of LRn_ok) mixed (SFr L now c deaf draw) (by intro _; rfl) ?_ fun _ => racc_ins L now c deaf draw hVt (fun _ => by omega) ⟨by omega, by omega⟩ R (racc_all (accL c L) (fndS c.id L 0).1 now c deaf draw hI R h4)
   clear hI a1 a2 a3 h4 hF
   repeat' (first | (apply And.intro <;> intro hc <;> (first | exact Bool.noConfusion hc | (exfalso; first | exact absurd rfl hc) | (simp only [zb0, ne_eq, not_true_eq_false] at hc <;> first | exact absurd rfl hc | (exfalso; first | exact absurd rfl hc) | skip) | skip)) | (refine And.intro zp1 ?_) | (apply And.intro) | (intro s hs; (have q : L = s := (hs.trans (toN_row neS_rd _)).symm; clear hs; subst q)) | (refine Exists.intro _ (And.intro ⟨rfl, rfl, rfl⟩ ?_)))
   . exact fun _ _ => ⟨rfl, okHs_sl _⟩
   . exact Eq.mpr (congrArg Cl8 (toN_row neS_rd _)) hc8
   conv => whnf
   exact ⟨(), [(1, some 50), (2, some 51), (3, some 52), (4, some 53), (5, some 54), (6, some 55), (7, some 56), (8, some 57), (9, some 58)], rfl, ⟨leF_int rfl, leF_bool rfl, leF_int rfl, leF_ptr rfl, leF_c (leC_os rfl rfl), trivial⟩, ⟨⟨rfl, leN_varA fun j hj => (neC.sh _ j hj).le⟩, ⟨rfl, ⟨rfl, rfl, rfl, rfl, fun p hp j hj => rowP_le hj (lt8 (P := fun p => Wc.src _ (2 + p) = some (51 + p)) rfl rfl rfl rfl rfl rfl rfl rfl p (Nat.lt_of_lt_of_le hp (vl_len hVt)))⟩⟩, ⟨rfl, leN_entN⟩, ⟨rfl, leN_entN⟩, ⟨rfl, leN_entN⟩, ⟨rfl, leN_entN⟩, ⟨rfl, leN_entN⟩, ⟨rfl, leN_entN⟩, ⟨rfl, leN_entN⟩, ⟨rfl, leN_entN⟩, trivial⟩⟩
 . have hu : (fndS c.id L 0).2 = true := by
    cases hu : (fndS c.id L 0).2 with
    | true => rfl
    | false => have := fndR_no hVt hu; omega
   have h4 := h3.trans (if_neg (by rw [hu]; simp))
   clear h3
   have hAcc := accL_ok (c := c) hVt (by omega) ⟨by omega, by omega⟩ (.inl hu)
   obtain ⟨a1, a2, a3⟩ := hAcc
   have hI : AcR (accL c L) (fndS c.id L 0).1 now c draw := ⟨a2, by have := vl_len a1; omega, (vl_mem a1 _ (getD_in a2)).2, ⟨by omega, by omega⟩, by omega, time_rng (hB.trans (by assumption)), hdr, fndR_acc a1 a2 a3⟩
   change Sem _ _ _ _ _ _ _ _
   refine sem_cut (wd := 9) (Q := mkQ LRn) (by decide) tysOk (q_of LRn_ok) (mono_of LRn_ok) mixed (SFr L now c deaf draw) (by intro _; rfl) ?_ fun _ => racc_ins L now c deaf draw hVt (fun h => by rw [hu] at h; cases h) ⟨by omega, by omega⟩ R (racc_all (accL c L) (fndS c.id L 0).1 now c deaf draw hI R h4)
   clear hI a1 a2 a3 h4 hF
   repeat' (first | (apply And.intro <;> intro hc <;> (first | exact Bool.noConfusion hc | (exfalso; first | exact absurd rfl hc) | (simp only [zb0, ne_eq, not_true_eq_false] at hc <;> first | exact absurd rfl hc | (exfalso; first | exact absurd rfl hc) | skip) | skip)) | (refine And.intro zp1 ?_) | (apply And.intro) | (intro s hs; (have q : L = s := (hs.trans (toN_row neS_rd _)).symm; clear hs; subst q)) | (refine Exists.intro _ (And.intro ⟨rfl, rfl, rfl⟩ ?_)))
   . exact fun _ _ => ⟨rfl, okHs_sl _⟩
   . exact Eq.mpr (congrArg Cl8 (toN_row neS_rd _)) hc8
   conv => whnf
   exact ⟨(), [(1, some 50), (2, some 51), (3, some 52), (4, some 53), (5, some 54), (6, some 55), (7, some 56), (8, some 57), (9, some 58)], rfl, ⟨leF_int rfl, leF_bool rfl, leF_int rfl, leF_ptr rfl, leF_c (leC_os rfl rfl), trivial⟩, ⟨⟨rfl, leN_varA fun j hj => (neC.sh _ j hj).le⟩, ⟨rfl, ⟨rfl, rfl, rfl, rfl, fun p hp j hj => rowP_le hj (lt8 (P := fun p => Wc.src _ (2 + p) = some (51 + p)) rfl rfl rfl rfl rfl rfl rfl rfl p (Nat.lt_of_lt_of_le hp (vl_len hVt)))⟩⟩, ⟨rfl, leN_entN⟩, ⟨rfl, leN_entN⟩, ⟨rfl, leN_entN⟩, ⟨rfl, leN_entN⟩, ⟨rfl, leN_entN⟩, ⟨rfl, leN_entN⟩, ⟨rfl, leN_entN⟩, ⟨rfl, leN_entN⟩, trivial⟩⟩
abbrev raccE : Entry := newE (AC.cons (cNS neS neS_sz) (AC.cons (cI .i64) (AC.cons (cN neC) (AC.cons cB (AC.cons (cI .u32) AC.nil))))) (fun a => AccR a.1 a.2.2.1 a.2.2.2.2.1) (fun a => acceptF a.1 a.2.1 a.2.2.1 a.2.2.2.1 a.2.2.2.2.1) (fun s => some s.1.length) encAc (fun s => entN neS 78 s.1)
theorem raccE_ok : EntOk Try.prog 39 raccE := newE_ok ⟨_, Try.func39, rfl, by kernel_rfl⟩ (fun s l h x hx => by
 injection h with h
 subst h
 rcases List.mem_cons.1 hx with rfl | hx
 . exact nfE_c nf_bool
 . rcases List.mem_cons.1 hx with rfl | hx
   . exact nfE_c nf_int
   . cases hx) fun a h => racc1 a.1 a.2.1 a.2.2.1 a.2.2.2.1 a.2.2.2.2.1 h
theorem nff_slBb {L : List Int} : NFF (.e (.c (slR eB L))) := nff_c (nf_sl fun i _ j _ => (eB.flat _ _).nf)
structure BytT (n : Nat) (l : List Int) (K : Nat) where
 i : Nat
 L : List Int
 q : Int
 hi : i <= K
 hL : L.length = K
 hb : BL L
 ht : TapeOk n (rI l) q
theorem u8rb (z : Int) : 0 <= IntKind.u8.wrap z /\ IntKind.u8.wrap z < 256 := by
 simp only [IntKind.wrap, IntKind.signed, IntKind.bits]
 constructor
 . exact Int.emod_nonneg _ (by decide)
 . exact Int.emod_lt_of_pos _ (by decide)
theorem bl_setb {L : List Int} {i : Nat} {v : Int} (h : BL L) (hv : 0 <= v /\ v < 256) : BL (L.set i v) := ⟨fun x hx => by
 rcases List.mem_or_eq_of_mem_set hx with h1 | h1
 . exact h.m x h1
 . rw [h1]; exact hv⟩
theorem bl_repb (n : Nat) : BL (List.replicate n 0) := ⟨fun x hx => by rw [(List.mem_replicate.1 hx).2]; omega⟩
theorem leN_setIb {c : Wc} {t : TypeId} {L : List Int} {idx i n : Nat} {x : Int} {g : Nat -> CV} (e : idx = i) (hn : n = L.length) (hi : i < L.length) (hg : g 0 = .int .u8 x) : LeN c ⟨t, n, eB.sz, false, updE false (rowF eB L) idx g⟩ (ents eB t (L.set i x)) := by
 subst e
 refine leN_set hn hi (fun i _ j _ => (eB.flat _ _).le) fun j hj => ?_
 have hj : j < 1 := hj
 obtain rfl : j = 0 := by omega
 rw [hg]
 exact leC_int rfl
theorem leN_repb {c : Wc} {t : TypeId} {n : Nat} : LeN c ⟨t, n, 1, false, fun _ => nth [CV.int .u8 0]⟩ (ents eB t (List.replicate n 0)) := by
 refine ⟨rfl, by show n = (List.replicate n (0 : Int)).length; rw [List.length_replicate], rfl, rfl, fun k hk j hj => ?_⟩
 have hk : k < n := hk
 have hj : j < 1 := hj
 obtain rfl : j = 0 := by omega
 refine leC_int ?_
 show (0 : Int) = (List.replicate n (0 : Int)).getD k default
 simp [List.getD_eq_getElem?_getD, List.getElem?_replicate, hk]
theorem bytesB_ok (n : Nat) (l : List Int) (q m : Int) (ht : TapeOk n (rI l) q) (h1 : 0 <= m) (h2 : m <= 2000) :
 ∃ (r : List Int) (q' : Int), (BL r /\ (r.length : Int) <= m) /\ TapeOk n (rI l) q' /\ MethOk Try.prog 28 [(cI .i64).enc m] (tapeN n (rI l) q) (.e (.c (slR eB r))) (tapeN n (rI l) q') := by
 have w1 : IntKind.i64.wrap (m + 1) = m + 1 := IntWalk.i64_in _ (by omega)
 refine tape_intro (S := fun r => BL r /\ (r.length : Int) <= m) (enc := fun r => .e (.c (slR eB r))) (wd := 1) (Q := mkQ LT0) (by decide) tysOk (q_of LT0_ok) mixed Try.func28 rfl _ (by show 1 + 1 <= _; decide) (fun _ => nff_slBb) ?_
 repeat' (first | (apply And.intro <;> intro hc <;> (first | exact Bool.noConfusion hc | (simp only [zb0] at hc) | skip)) | (refine And.intro zp1 ?_) | (apply And.intro) | (intro s hs))
 rename_i s1 hs1
 have hs1' : 0 <= s1 /\ s1 < IntKind.i64.wrap (m + 1) := hs1
 rw [w1] at hs1'
 refine loop_intro (mono_of LT0_ok) (fun s : BytT n l s1.toNat => (⟨[(0, one (.ptr 0 0 0 false)), (5, one (.os 6 0 s.L.length)), (6, one (.int .i64 (s.i : Int)))],
  [(0, some (tapeN n (rI l) s.q)), (6, some (ents eB 5 s.L))], 7⟩ : Hd)) (fun s => s1.toNat - s.i) (fun _ => rfl) ?_ ⟨0, List.replicate s1.toNat 0, _, by omega, by simp, bl_repb _, hs⟩ [] ?_
 . rintro ⟨i, L, q2, hi, hL, hb, ht2⟩
   dsimp only at hi hL hb ht2 ⊢
   repeat' (first | (apply And.intro <;> intro hc <;> (first | exact Bool.noConfusion hc | (simp only [zb0] at hc) | skip)) | (refine And.intro zp1 ?_) | (apply And.intro) | (intro s hs))
   . rename_i s2 hs2
     refine ⟨⟨i + 1, L.set i (IntKind.u8.wrap s2), _, by omega, by rw [List.length_set]; exact hL, bl_setb hb (u8rb _), hs⟩, [], by dsimp only; omega, rfl, ?_, ?_⟩
     . repeat' (first | exact zw0 | refine leF_int ?_ | refine leF_bool ?_ | exact zw1 | apply And.intro)
       . exact leF_c (leC_os rfl (by dsimp only; rw [List.length_set]))
       . refine (IntWalk.i64_in _ ?_).trans ?_
         . constructor <;> omega
         . dsimp only
           omega
     . repeat' (first | exact zw0 | refine leF_int ?_ | refine leF_bool ?_ | exact zw1 | apply And.intro)
       . exact tapeN_le
       . exact leN_setIb (by omega) rfl (by omega) rfl
   . exact ⟨(L, q2), ⟨⟨hb, (show (L.length : Int) <= m by omega)⟩, ht2⟩, ⟨leF_c (leC_row_fin rfl rfl), tapeN_le⟩⟩
 . refine ⟨rfl, ?_, ?_⟩
   . repeat' (first | exact zw0 | refine leF_int ?_ | refine leF_bool ?_ | exact zw1 | apply And.intro)
     exact leF_c (leC_os rfl (by simp))
   . repeat' (first | exact zw0 | refine leF_int ?_ | refine leF_bool ?_ | exact zw1 | apply And.intro)
     . exact tapeN_le
     . exact leN_repb
abbrev bytesBE : Entry := tapeE (AC.cons (cI .i64) AC.nil) (fun a => 0 <= a.1 /\ a.1 <= 2000) (fun a (r : List Int) => BL r /\ (r.length : Int) <= a.1) (fun r => .e (.c (slR eB r)))
theorem bytesBE_ok : EntOk Try.prog 28 bytesBE := tapeE_ok ⟨_, Try.func28, rfl, by kernel_rfl⟩ fun n l q a ht hp => bytesB_ok n l q a.1 ht hp.1 hp.2
structure CasM (c : Cas) : Prop where
 i : 0 < c.id
 n : 10 <= c.num /\ c.num < 60
 d : c.data.length <= 5
theorem nff_cas {c : Cas} : NFF ((cN neC).enc c) := by
 rintro r r' X W w v ⟨cs, rfl, c1, c2⟩
 refine ⟨cs, rfl, c1, fun i u hu => ?_⟩
 have hi : i < neC.sz := by rw [<- c1]; exact (Array.getElem?_eq_some_iff.1 hu).1
 exact (neC.sh c i hi).nf _ _ _ _ _ _ (c2 i u hu)
theorem nff_sds {L : List Sed} : NFF (.e (.c (slN neS L))) := nff_c (nf_sl fun i _ j hj => (neS.sh _ j hj).nf)
theorem u32okt (x : Int) : drawOk (IntKind.u32.wrap x) := by unfold drawOk; rw [IntKind.wrap_u32']; omega
theorem eui_ok (n : Nat) (l : List Int) (q : Int) (ht : TapeOk n (rI l) q) :
 ∃ (r q' : Int), (1 <= r /\ r <= 5) /\ TapeOk n (rI l) q' /\ MethOk Try.prog 42 [] (tapeN n (rI l) q) ((cI .u64).enc r) (tapeN n (rI l) q') := by
 refine tape_intro (wd := 1) (Q := mkQ LTb) (by decide) tysOk (q_of LTb_ok) mixed Try.func42 rfl _ (by show 0 + 1 <= _; decide) (fun _ => nff_int) ?_
 repeat' (first | (apply And.intro <;> intro hc <;> (first | exact Bool.noConfusion hc | (simp only [zb0] at hc) | skip)) | (refine And.intro zp1 ?_) | (apply And.intro) | (intro s hs))
 rename_i r hr
 have hr' : 0 <= r /\ r < 5 := hr
 exact ⟨(1 + r, _), ⟨⟨by omega, by omega⟩, by assumption⟩, ⟨leF_int (by rw [IntWalk.i64_in (1 + r) (by omega), IntWalk.u64_in (1 + r) (by omega)]), tapeN_le⟩⟩
abbrev euiE : Entry := tapeE AC.nil (fun _ => True) (fun a (r : Int) => 1 <= r /\ r <= 5) (cI .u64).enc
def LMu : CsL := (42, some euiE) :: (28, some bytesBE) :: LTb
theorem LMu_ok : AllOk Try.prog LMu := ⟨tapeE_ok ⟨_, Try.func42, rfl, by kernel_rfl⟩ fun n l q a ht hp => eui_ok n l q ht, bytesBE_ok, LTb_ok⟩
theorem mcast_ok (n : Nat) (l : List Int) (q : Int) (ht : TapeOk n (rI l) q) :
 ∃ (r : Cas) (q' : Int), CasM r /\ TapeOk n (rI l) q' /\ MethOk Try.prog 18 [] (tapeN n (rI l) q) ((cN neC).enc r) (tapeN n (rI l) q') := by
 refine tape_intro (wd := 1) (Q := mkQ LMu) (by decide) tysOk (q_of LMu_ok) mixed Try.func18 rfl _ (by show 0 + 1 <= _; decide) (fun _ => nff_cas) ?_
 repeat' (first | (apply And.intro <;> intro hc <;> (first | exact Bool.noConfusion hc | (simp only [zb0] at hc) | skip)) | (refine And.intro zp1 ?_) | (apply And.intro) | (intro s hs))
 rename_i x hx q1 hq1 y hy q2 hq2 b hb
 have hx' : 1 <= x /\ x <= 5 := hx
 have hy' : 0 <= y /\ y < 50 := hy
 have hb' : BL b /\ (b.length : Int) <= 5 := hb
 have w1 : IntKind.i64.wrap (10 + y) = 10 + y := IntWalk.i64_in _ (by omega)
 refine ⟨(⟨x, 10 + y, b⟩, _), ⟨⟨by dsimp only; omega, by dsimp only; omega, by dsimp only; omega⟩, hs⟩, ⟨leF_e (leE_agg (m := 3) rfl fun j hj => ?_), tapeN_le⟩⟩
 have hj : j < 3 := hj
 rcases j with _ | _ | _ | j
 . exact leC_int rfl
 . exact leC_int w1
 . exact (neC.sh ⟨x, 10 + y, b⟩ 2 (by decide)).le
 . omega
abbrev mcastE : Entry := tapeE AC.nil (fun _ => True) (fun a (r : Cas) => CasM r) (cN neC).enc
theorem cas_i {c : Cas} (h : CasM c) : 0 <= c.id := by have := h.i; omega
theorem vl_hp {L : List Sed} (h : validL L = true) : LHp L := ⟨vl_hn h, fun x hx => by have := (vl_mem h x hx).1; omega⟩
theorem acc_okv {s : List Sed × Bool × Int} {M L : List Sed} {now : Int} {c' c : Cas} {deaf : Bool} {draw : Int} (hs : s = acceptF M now c' deaf draw) (hM : M = L) (hc : c' = c) (hi : 0 <= c.id) (he : s.2.2 = 0) : validL s.1 = true := by
 subst hM hc
 rw [hs] at he ⊢
 exact acceptF_ok hi he
theorem give_St {c : Wc} {k : Nat} {t : TypeId} {x : List Sed} {n : Nat} (hn : n = x.length) (hd : hget c.H k = some (entN neS t x)) (hk : c.dead k = true) : LeC c (.os k 0 n) (slN neS x) := by
 subst hn
 refine leC_os_sl hd hk rfl rfl (Nat.le_of_eq (Nat.zero_add _)) fun q hq j hj => ?_
 show LeC c (rowN neS x (0 + q) j) (rowN neS x q j)
 rw [Nat.zero_add]
 exact (neS.sh _ j hj).le
structure SdsS (n : Nat) (l : List Int) where
 k : Nat
 L : List Sed
 q : Int
 hk : k <= 9
 h : validL L = true
 ht : TapeOk n (rI l) q
def LMv : CsL := (18, some mcastE) :: (17, some wtimeE) :: (39, some raccE) :: LTb
theorem LMv_ok : AllOk Try.prog LMv := ⟨tapeE_ok ⟨_, Try.func18, rfl, by kernel_rfl⟩ fun n l q a ht hp => mcast_ok n l q ht, tapeE_ok ⟨_, Try.func17, rfl, by kernel_rfl⟩ fun n l q a ht hp => time_ok n l q a.1 ht hp, raccE_ok, LTb_ok⟩
theorem seeds_ok (n : Nat) (l : List Int) (q now : Int) (ht : TapeOk n (rI l) q) (hnow : 0 <= now /\ now <= 1099511627776) :
 ∃ (r : List Sed) (q' : Int), validL r = true /\ TapeOk n (rI l) q' /\ MethOk Try.prog 15 [(cI .i64).enc now] (tapeN n (rI l) q) (.e (.c (slN neS r))) (tapeN n (rI l) q') := by
 refine tape_intro (enc := fun r => .e (.c (slN neS r))) (wd := 1) (Q := mkQ LMv) (by decide) tysOk (q_of LMv_ok) mixed Try.func15 rfl _ (by show 1 + 1 <= _; decide) (fun _ => nff_sds) ?_
 repeat' (first | (apply And.intro <;> intro hc <;> (first | exact Bool.noConfusion hc | (simp only [zb0] at hc) | skip)) | (refine And.intro zp1 ?_) | (apply And.intro) | (intro s hs))
 rename_i k0 hk0
 have hk0' : 0 <= k0 /\ k0 < 10 := hk0
 refine loop_intro (mono_of LMv_ok) (fun s : SdsS n l => (⟨[(0, one (.ptr 0 0 0 false)), (1, one (.int .i64 now)), (5, one (slN neS s.L)), (6, one (.int .i64 (s.k : Int)))],
  [(0, some (tapeN n (rI l) s.q))], 1⟩ : Hd)) (fun s => s.k) (fun _ => rfl) ?_ ⟨k0.toNat, [], _, by omega, rfl, hs⟩ [] ⟨rfl, ⟨leF_ptr rfl, leF_int rfl, leF_c (leC_nils_sl rfl), leF_int (by dsimp only; omega), trivial⟩, ⟨⟨rfl, tapeN_le⟩, trivial⟩⟩
 rintro ⟨k, L, q1, hk, hL, ht1⟩
 dsimp only at hk hL ht1 ⊢
 by_cases hk0 : 0 < k
 . repeat' (first | (apply And.intro <;> intro hc <;> (first | exact Bool.noConfusion hc | (exfalso; first | exact absurd rfl hc | omega) | (simp only [zb0, ne_eq, not_true_eq_false] at hc <;> first | exact absurd rfl hc | (exfalso; first | exact absurd rfl hc | omega) | skip) | skip)) | (refine And.intro zp1 ?_) | (apply And.intro) | (intro s hs; skip))
   . exact ⟨rfl, okHs_sl _⟩
   . exact ⟨rfl, okD_sl _⟩
   . exact ⟨Eq.mpr (congrArg LHp (toN_row neS_rd _)) (vl_hp hL), Eq.mpr (congrArg (fun z : Cas => 0 <= z.id) (neC_rd _)) (cas_i (by assumption)), u32okt _⟩
   . have hv := acc_okv hs (toN_row neS_rd _) (neC_rd _) (cas_i (by assumption)) hc
     conv => whnf
     exact ⟨⟨k - 1, s.1, _, by omega, hv, by assumption⟩, [], by dsimp only; omega, rfl, ⟨leF_ptr rfl, leF_int rfl, leF_c (give_St rfl rfl rfl), leF_int ((IntWalk.i64_in _ (by omega)).trans (by dsimp only; omega)), trivial⟩, ⟨⟨rfl, tapeN_le⟩, trivial⟩⟩
   . conv => whnf
     exact ⟨⟨k - 1, L, _, by omega, hL, by assumption⟩, [], by dsimp only; omega, rfl, ⟨leF_ptr rfl, leF_int rfl, leF_c (sh_slN _).le, leF_int ((IntWalk.i64_in _ (by omega)).trans (by dsimp only; omega)), trivial⟩, ⟨⟨rfl, tapeN_le⟩, trivial⟩⟩
 . obtain rfl : k = 0 := by omega
   repeat' (first | (apply And.intro <;> intro hc <;> (first | exact Bool.noConfusion hc | (exfalso; first | exact absurd rfl hc | omega) | (simp only [zb0, ne_eq, not_true_eq_false] at hc <;> first | exact absurd rfl hc | (exfalso; first | exact absurd rfl hc | omega) | skip) | skip)) | (refine And.intro zp1 ?_) | (apply And.intro) | (intro s hs; skip))
   conv => whnf
   exact ⟨(L, _), ⟨hL, ht1⟩, ⟨leF_c (sh_slN _).le, tapeN_le⟩⟩
abbrev seedsE : Entry := tapeE (AC.cons (cI .i64) AC.nil) (fun a => 0 <= a.1 /\ a.1 <= 1099511627776) (fun a (r : List Sed) => validL r = true) (fun r => .e (.c (slN neS r)))
theorem acc_nil {L : List Sed} {now : Int} {c : Cas} {deaf : Bool} {draw : Int} (h : (acceptF L now c deaf draw).2.2 ≠ 0) : (acceptF L now c deaf draw).1 = [] := by
 unfold acceptF at h ⊢
 split
 . rfl
 . split
   . rfl
   . split
     . rfl
     . rename_i h1 h2 h3
       rw [if_neg h1, if_neg h2, if_neg h3] at h
       exact absurd rfl h
theorem acc_lhn {L : List Sed} {now : Int} {c : Cas} {deaf : Bool} {draw : Int} (hid : 0 <= c.id) : LHn (acceptF L now c deaf draw).1 := by
 by_cases h : (acceptF L now c deaf draw).2.2 = 0
 . exact vl_hn (acceptF_ok hid h)
 . rw [acc_nil h]; exact ⟨fun x hx => (List.not_mem_nil hx).elim, Nat.zero_le _⟩
def LAc : CsL := (11, some acceptE) :: (39, some raccE) :: (31, some mvalidE) :: (40, some rvalidE) :: (41, some samesE) :: []
theorem LAc_ok : AllOk Try.prog LAc := ⟨acceptE_ok, raccE_ok, pureE_ok ⟨_, Try.func31, rfl, by kernel_rfl⟩ fun a h => mvalid_ok a.1 h, pureE_ok ⟨_, Try.func40, rfl, by kernel_rfl⟩ fun a h => rvalid_ok a.1 h, samesE_ok, trivial⟩
theorem accepts_ok (L : List Sed) (now : Int) (c : Cas) (deaf : Bool) (draw : Int) (hP : AccR L c draw) : PureOk Try.prog 16 [(cNS neS neS_sz).enc L, (cI .i64).enc now, (cN neC).enc c, cB.enc deaf, (cI .u32).enc draw] (cB.enc true) := by
 obtain ⟨hL, hid, hdr⟩ := hP
 obtain ⟨A, hA⟩ : ∃ A, acceptF L now c deaf draw = A := ⟨_, rfl⟩
 obtain ⟨V, hV⟩ : ∃ V, validL L = V := ⟨_, rfl⟩
 have hn : LHn A.1 := by rw [<- hA]; exact acc_lhn hid
 have hv : A.2.2 = 0 -> validL A.1 = true := fun h => by rw [<- hA] at h ⊢; exact acceptF_ok hid h
 refine pure_intro (wd := 1) (Q := mkQ LAc) (by decide) tysOk (q_of LAc_ok) mixed Try.func16 rfl _ (by show 5 <= _; decide) _ ?_
 repeat' (first | (apply And.intro <;> intro hc <;> (first | exact Bool.noConfusion hc | (exfalso; first | exact absurd rfl hc | exact absurd (beq_self_eq_true _) (by rw [hc]; decide)) | (simp only [zb0, ne_eq, not_true_eq_false] at hc <;> first | exact absurd rfl hc | (exfalso; first | exact absurd rfl hc | exact absurd (beq_self_eq_true _) (by rw [hc]; decide)) | skip) | skip)) | (refine And.intro zp1 ?_) | (apply And.intro) | (intro s hs; (first | (have q : A = s := rd_acc hs (toN_row neS_rd _) (neC_rd c) hA; clear hs; subst q) | (have q : V = s := rd_validL hs (toN_row neS_rd _) hV; clear hs; subst q) | (have q := rd_validL hs (toN_row0 neS_rd _) rfl; clear hs; subst q) | subst hs)))
 all_goals try first
  | exact fun _ _ => ⟨rfl, okHs_sl _⟩
  | exact ⟨rfl, okD_sl _⟩
  | exact ⟨Eq.mpr (congrArg LHn (toN_row neS_rd _)) hL.h, hdr⟩
  | exact ⟨Eq.mpr (congrArg LHp (toN_row neS_rd _)) hL, hid, hdr⟩
  | exact Eq.mpr (congrArg LHp (toN_row neS_rd _)) hL
  | exact Eq.mpr (congrArg LHn (toN_row neS_rd _)) hL.h
  | exact Eq.mpr (congrArg LHn (toN_row0 neS_rd _)) hn
  | exact rfl
 . conv => whnf
   exact Done.mk (leF_bool rfl)
 . conv => whnf
   exact Done.mk (leF_bool (hv hc))
abbrev acceptsE : Entry := pureE (AC.cons (cNS neS neS_sz) (AC.cons (cI .i64) (AC.cons (cN neC) (AC.cons cB (AC.cons (cI .u32) AC.nil))))) (fun a => AccR a.1 a.2.2.1 a.2.2.2.2.1) (fun _ => true) cB.enc
theorem acceptsE_ok : EntOk Try.prog 16 acceptsE := pureE_ok ⟨_, Try.func16, rfl, by kernel_rfl⟩ fun a h => accepts_ok a.1 a.2.1 a.2.2.1 a.2.2.2.1 a.2.2.2.2.1 h
def smH (n : Int) : List Hel -> Int
 | [] => n
 | h :: t => smH (IntKind.i64.wrap (n + IntKind.i64.wrap ((h.data.length : Int).tdiv 8))) t
def smS (n : Int) : List Sed -> Int
 | [] => n
 | s :: t => smS (smH (IntKind.i64.wrap (n + (s.held.length : Int))) s.held) t
def smallF (L : List Sed) : Bool := decide (smS L.length L <= 120)
theorem smH_step {n : Int} {H : List Hel} {p : Nat} (h : p < H.length) : smH n (H.drop p) = smH (IntKind.i64.wrap (n + IntKind.i64.wrap (((H.getD p default).data.length : Int).tdiv 8))) (H.drop (p + 1)) := by rw [drop_at h]; rfl
theorem smS_step {n : Int} {L : List Sed} {p : Nat} (h : p < L.length) : smS n (L.drop p) = smS (smH (IntKind.i64.wrap (n + ((L.getD p default).held.length : Int))) (L.getD p default).held) (L.drop (p + 1)) := by rw [drop_at h]; rfl
theorem small_ok (L : List Sed) (hL : LHn L) : PureOk Try.prog 13 [(cNS neS neS_sz).enc L] (cB.enc (smallF L)) := by
 have hn := hL.n
 obtain ⟨R, hR⟩ : ∃ R, smS L.length L = R := ⟨_, rfl⟩
 have hRe : smallF L = decide (R <= 120) := by rw [<- hR]; rfl
 rw [hRe]
 refine pure_intro (wd := 1) (Q := mkQ LE0) (by decide) tysOk (q_of LE0_ok) mixed Try.func13 rfl _ (by show 1 <= _; decide) _ ?_
 repeat' (first | (apply And.intro <;> intro hc <;> (first | exact Bool.noConfusion hc | (exfalso; first | exact absurd rfl hc | omega) | (simp only [zb0, ne_eq, not_true_eq_false] at hc <;> first | exact absurd rfl hc | (exfalso; first | exact absurd rfl hc | omega) | skip) | skip)) | (refine And.intro zp1 ?_) | (apply And.intro) | (intro s hs; subst hs))
 conv => whnf
 refine loop_intro (mono_of LE0_ok) (fun s : {s : Nat × Int // s.1 <= L.length /\ smS s.2 (L.drop s.1) = R} => (⟨[(3, one (.int .i64 s.1.2)), (10, one (slBN neS L)), (11, one (.int .i64 (L.length : Int))), (12, one (.int .i64 (s.1.1 : Int)))], [], 0⟩ : Hd)) (fun s => L.length - s.1.1) (fun _ => rfl) ?_ ⟨(0, L.length), Nat.zero_le _, hR⟩ [] ⟨rfl, ⟨leF_int rfl, leF_c (leC_cl (cl_slBN L)), leF_int rfl, leF_int rfl, trivial⟩, trivial⟩
 rintro ⟨⟨p, n⟩, hp, hV⟩
 dsimp only at hp hV ⊢
 unfold slBN
 by_cases hpl : p < L.length
 . have w4 : IntKind.i64.wrap ((p : Int) + 1) = ((p + 1 : Nat) : Int) := (IntWalk.i64_in _ (by omega)).trans (by omega)
   rw [smS_step hpl] at hV
   have hh := hL.h _ (getD_in hpl)
   obtain ⟨x, ex⟩ : ∃ x, L.getD p default = x := ⟨_, rfl⟩
   have ec : rowN neS L p = neS.cell x := congrArg neS.cell ex
   have zp : (p : Int).toNat = p := rfl
   rw [ex] at hV hh
   obtain ⟨W, eW⟩ : ∃ W, smH (IntKind.i64.wrap (n + (x.held.length : Int))) x.held = W := ⟨_, rfl⟩
   rw [eW] at hV
   repeat' (first | (simp only [zp, ec]) | (apply And.intro <;> intro hc <;> (first | exact Bool.noConfusion hc | (exfalso; first | exact absurd rfl hc | omega) | (simp only [zb0, ne_eq, not_true_eq_false] at hc <;> first | exact absurd rfl hc | (exfalso; first | exact absurd rfl hc | omega) | skip) | skip)) | (refine And.intro zp1 ?_) | (apply And.intro) | (intro s hs; subst hs))
   conv => whnf
   refine loop_intro (mono_of LE0_ok) (fun s : {s : Nat × Int // s.1 <= x.held.length /\ smH s.2 (x.held.drop s.1) = W} => (⟨[(3, one (.int .i64 s.1.2)), (10, one (slBN neS L)), (11, one (.int .i64 (L.length : Int))), (12, one (.int .i64 (p : Int))), (22, one (slN neH x.held)), (23, one (.int .i64 (x.held.length : Int))), (24, one (.int .i64 (s.1.1 : Int)))], [], 0⟩ : Hd)) (fun s => x.held.length - s.1.1) (fun _ => rfl) ?_ ⟨(0, _), Nat.zero_le _, eW⟩ [] ⟨rfl, ⟨leF_int rfl, leF_c (leC_cl (cl_slBN L)), leF_int rfl, leF_int rfl, leF_c (sh_slN _).le, leF_int rfl, leF_int rfl, trivial⟩, trivial⟩
   rintro ⟨⟨k, m⟩, hk, hW⟩
   dsimp only at hk hW ⊢
   unfold slBN
   by_cases hkl : k < x.held.length
   . have w5 : IntKind.i64.wrap ((k : Int) + 1) = ((k + 1 : Nat) : Int) := (IntWalk.i64_in _ (by omega)).trans (by omega)
     rw [smH_step hkl] at hW
     obtain ⟨h, eh⟩ : ∃ h, x.held.getD k default = h := ⟨_, rfl⟩
     have ech : rowN neH x.held k = neH.cell h := congrArg neH.cell eh
     have zk : (k : Int).toNat = k := rfl
     rw [eh] at hW
     repeat' (first | (simp only [zk, ech]) | (apply And.intro <;> intro hc <;> (first | exact Bool.noConfusion hc | (exfalso; first | exact absurd rfl hc | omega) | (simp only [zb0, ne_eq, not_true_eq_false] at hc <;> first | exact absurd rfl hc | (exfalso; first | exact absurd rfl hc | omega) | skip) | skip)) | (refine And.intro zp1 ?_) | (apply And.intro) | (intro s hs; subst hs))
     conv => whnf
     exact ⟨⟨(k + 1, _), hkl, hW⟩, [], by dsimp only; omega, rfl, ⟨leF_int rfl, leF_c (leC_cl (cl_slBN L)), leF_int rfl, leF_int rfl, leF_c (sh_slN _).le, leF_int rfl, leF_int w5, trivial⟩, trivial⟩
   . obtain rfl : m = W := by rw [<- hW, List.drop_of_length_le (by omega)]; rfl
     repeat' (first | (apply And.intro <;> intro hc <;> (first | exact Bool.noConfusion hc | (exfalso; first | exact absurd rfl hc | omega) | (simp only [zb0, ne_eq, not_true_eq_false] at hc <;> first | exact absurd rfl hc | (exfalso; first | exact absurd rfl hc | omega) | skip) | skip)) | (refine And.intro zp1 ?_) | (apply And.intro) | (intro s hs; subst hs))
     conv => whnf
     exact ⟨⟨(p + 1, m), hpl, hV⟩, [], by dsimp only; omega, rfl, ⟨leF_int rfl, leF_c (leC_cl (cl_slBN L)), leF_int rfl, leF_int w4, trivial⟩, trivial⟩
 . obtain rfl : n = R := by rw [<- hV, List.drop_of_length_le (by omega)]; rfl
   repeat' (first | (apply And.intro <;> intro hc <;> (first | exact Bool.noConfusion hc | (exfalso; first | exact absurd rfl hc | omega) | (simp only [zb0, ne_eq, not_true_eq_false] at hc <;> first | exact absurd rfl hc | (exfalso; first | exact absurd rfl hc | omega) | skip) | skip)) | (refine And.intro zp1 ?_) | (apply And.intro) | (intro s hs; subst hs))
   conv => whnf
   exact Done.mk (leF_bool rfl)
abbrev smallE : Entry := pureE (AC.cons (cNS neS neS_sz) AC.nil) (fun a => LHn a.1) (fun a => smallF a.1) cB.enc
theorem smallE_ok : EntOk Try.prog 13 smallE := pureE_ok ⟨_, Try.func13, rfl, by kernel_rfl⟩ fun a h => small_ok a.1 h
structure TrkS (n : Nat) (l : List Int) where
 k : Int
 x : Trk
 q : Int
 hk : 0 <= k /\ k <= 4
 hx : validT x = true
 ht : TapeOk n (rI l) q
theorem trickle_ok (n : Nat) (l : List Int) (q b : Int) (ht : TapeOk n (rI l) q) (hb : 0 <= b /\ b <= 1099511627776) :
 ∃ (r : Trk) (q' : Int), validT r = true /\ TapeOk n (rI l) q' /\ MethOk Try.prog 44 [(cI .i64).enc b] (tapeN n (rI l) q) ((cE eTk).enc r) (tapeN n (rI l) q') := by
 refine tape_intro (enc := (cE eTk).enc) (wd := 1) (Q := mkQ LTk) (by decide) tysOk (q_of LTk_ok) mixed Try.func44 rfl _ (by show 1 + 1 <= _; decide) (fun r => nff_elem eTk r) ?_
 repeat' (first | (apply And.intro <;> intro hc <;> (first | exact Bool.noConfusion hc | (simp only [zb0] at hc) | skip)) | (refine And.intro zp1 ?_) | (apply And.intro) | (intro s hs))
 all_goals first
  | assumption
  | exact hb.1
  | exact hb.2
  | exact (wrap_u32 _).1
  | exact (wrap_u32 _).2
  | skip
 rename_i v1 hv1 q1 hq1 v2 hv2 q2 hq2 v3 hv3 q3 hq3 v4 hv4 q4 hq4 v5 hv5 q5 hq5 s0 hs0 v6 hv6
 have hv1' : 0 <= v1 /\ v1 < 9 := hv1
 have hv2' : 0 <= v2 /\ v2 < 5 := hv2
 have hv3' : 0 <= v3 /\ v3 < 4 := hv3
 have hv4' : 0 <= v4 /\ v4 <= 1099511627776 := hv4
 have hv6' : 0 <= v6 /\ v6 < 5 := hv6
 have hsv : validT s0.1 = true := by
  have e : s0 = newT (IntKind.i64.wrap (2 + v1)) v2 v3 v4 (IntKind.u32.wrap v5) := hs0
  rw [e, IntWalk.i64_in (2 + v1) (by omega)]
  exact new_valid (numbersB_iff.2 (by omega)) hv4'
 clear hs0
 refine loop_intro (mono_of LTk_ok) (fun s : TrkS n l => (⟨[(0, one (.ptr 0 0 0 false)), (4, one (.ptr 1 0 0 false)), (5, one (.ptr 19 0 0 false)), (7, one (.int .i64 s.k))],
  [(0, some (tapeN n (rI l) s.q)), (1, some ⟨82, 1, 8, true, fun _ => eTk.cell zeroT⟩), (19, some ⟨82, 1, 8, true, fun _ => eTk.cell s.x⟩)], 20⟩ : Hd)) (fun s => s.k.toNat) (fun _ => rfl) ?_ ⟨v6, s0.1, s, by omega, hsv, hs⟩ [] ?_
 . rintro ⟨k, x, q, hk, hx, ht⟩
   dsimp only
   have hxn := validT_num hx
   have w1 : IntKind.i64.wrap (x.start + x.len) = x.start + x.len := IntWalk.i64_in _ (by omega)
   repeat' (first | (apply And.intro <;> intro hc <;> (first | exact Bool.noConfusion hc | (simp only [zb0] at hc) | skip)) | (refine And.intro zp1 ?_) | (apply And.intro) | (intro s hs))
   all_goals first
    | exact (wrap_u32 _).1
    | exact (wrap_u32 _).2
    | skip
   . rename_i y1 hy1 p1 hp1 y2 hy2 p2 hp2
     have hy1' : 0 <= y1 /\ y1 < 2 := hy1
     have w2 : IntKind.i64.wrap (x.start + x.len - y1) = x.start + x.len - y1 := IntWalk.i64_in _ (by omega)
     have hzv : validT s.1 = true := by
      have e : s = stepT x (if IntKind.i64.wrap (IntKind.i64.wrap (x.start + x.len) - y1) < 1099511627776 then IntKind.i64.wrap (IntKind.i64.wrap (x.start + x.len) - y1) else 1099511627776) (IntKind.u32.wrap y2) := hs
      rw [e, w1, w2]
      refine step_valid hx ?_ ?_
      . split <;> omega
      . split <;> omega
     refine ⟨⟨k - 1, s.1, p2, by omega, hzv, by assumption⟩, [], by dsimp only <;> omega, rfl, ?_, ?_⟩
     . repeat' (first | exact zw0 | refine leF_int ?_ | refine leF_bool ?_ | exact zw1 | apply And.intro)
       exact IntWalk.i64_in _ (by omega)
     . repeat' (first | exact zw0 | refine leF_int ?_ | refine leF_bool ?_ | exact zw1 | apply And.intro)
       all_goals first
        | exact tapeN_le
        | (change LeN _ _ _; refine leN_var ?_; repeat' (first | exact zw2 | refine leE_all ?_ | exact leC_bool (by assumption) | apply And.intro))
   . rename_i y1 hy1
     refine ⟨({ x with heard := y1 }, _), ⟨heard_valid hx hy1, by assumption⟩, ⟨leF_e (leE_all ?_), tapeN_le⟩⟩
     repeat' (first | exact zw2 | refine leE_all ?_ | exact leC_bool (by assumption) | apply And.intro)
 . refine ⟨rfl, ?_, ?_⟩
   . repeat' (first | exact zw0 | refine leF_int ?_ | refine leF_bool ?_ | exact zw1 | apply And.intro)
   . repeat' (first | exact zw0 | refine leF_int ?_ | refine leF_bool ?_ | exact zw1 | apply And.intro)
     . exact tapeN_le
     all_goals (change LeN _ _ _; refine leN_var ?_; repeat' (first | exact zw2 | refine leE_all ?_ | exact leC_bool (by assumption) | apply And.intro))
abbrev trickleE : Entry := tapeE (AC.cons (cI .i64) AC.nil) (fun a => 0 <= a.1 /\ a.1 <= 1099511627776) (fun a (r : Trk) => validT r = true) (cE eTk).enc
def LSo : CsL := (43, some rcopyE) :: (44, some trickleE) :: LTb
theorem LSo_ok : AllOk Try.prog LSo := ⟨rcopyE_ok, tapeE_ok ⟨_, Try.func44, rfl, by kernel_rfl⟩ fun n l q a ht hp => trickle_ok n l q a.1 ht hp, LTb_ok⟩
theorem lhp_app {L : List Sed} {y : Sed} (h : validL L = true) (h0 : 0 <= y.id) (hh : y.held.length <= 9223372036854775807) : LHp (L ++ [y]) := by
 have h8 := vl_len h
 have hp := vl_hp h
 refine ⟨⟨fun x hx => ?_, by rw [List.length_append]; show L.length + 1 <= _; omega⟩, fun x hx => ?_⟩
 . rcases List.mem_append.1 hx with g | g
   . exact hp.h.h x g
   . rw [List.mem_singleton.1 g]; exact hh
 . rcases List.mem_append.1 hx with g | g
   . exact hp.i x g
   . rw [List.mem_singleton.1 g]; exact h0
theorem spo_fin {c : Wc} {k m : Nat} {t : TypeId} {L : List Sed} {y : Sed} {v : Bool} {f : Nat -> Nat -> CV} (hm : L.length = m) (hk : hget c.H k = some ⟨t, m + 1, 3, v, f⟩) (hd : c.dead k = true) (h1 : ∀ p, p < m -> ∀ j, j < 3 -> LeC c (f p j) (rowN neS L p j)) (h2 : ∀ j, j < 3 -> LeC c (f m j) (neS.cell y j)) : LeC c (.os k 0 (m + 1)) (slN neS (L ++ [y])) := by
 subst hm
 have hl : (L ++ [y]).length = L.length + 1 := by rw [List.length_append]; rfl
 refine leC_os_sl hk hd rfl hl.symm (Nat.le_of_eq (Nat.zero_add _)) fun q hq j hj => ?_
 have hj : j < 3 := hj
 have hq : q < L.length + 1 := by omega
 show LeC c (f (0 + q) j) (rowN neS (L ++ [y]) q j)
 rw [Nat.zero_add]
 by_cases h : q < L.length
 . rw [show rowN neS (L ++ [y]) q j = rowN neS L q j from congrArg (fun z => neS.cell z j) (by rw [List.getD_eq_getElem?_getD, List.getElem?_append_left h, <- List.getD_eq_getElem?_getD])]
   exact h1 q h j hj
 . obtain rfl : q = L.length := by omega
   rw [show rowN neS (L ++ [y]) L.length j = neS.cell y j from congrArg (fun z => neS.cell z j) (by simp [List.getD_eq_getElem?_getD])]
   exact h2 j hj
theorem held1_le {c : Wc} {k : Nat} {t : TypeId} {v : Bool} {h : Hel} {f : Nat -> Nat -> CV} (hk : hget c.H k = some ⟨t, 1, 11, v, f⟩) (hd : c.dead k = true) (h1 : ∀ j, j < 11 -> LeC c (f 0 j) (neH.cell h j)) : LeC c (.os k 0 1) (slN neH [h]) := by
 refine leC_os_sl hk hd rfl rfl (Nat.le_refl _) fun q hq j hj => ?_
 obtain rfl : q = 0 := by omega
 exact h1 j hj
theorem held2_le {c : Wc} {k : Nat} {t : TypeId} {v : Bool} {h h' : Hel} {f : Nat -> Nat -> CV} (hk : hget c.H k = some ⟨t, 2, 11, v, f⟩) (hd : c.dead k = true) (h1 : ∀ j, j < 11 -> LeC c (f 0 j) (neH.cell h j)) (h2 : ∀ j, j < 11 -> LeC c (f 1 j) (neH.cell h' j)) : LeC c (.os k 0 2) (slN neH [h, h']) := by
 refine leC_os_sl hk hd rfl rfl (Nat.le_refl _) fun q hq j hj => ?_
 rcases (show q = 0 \/ q = 1 by omega) with rfl | rfl
 . exact h1 j hj
 . exact h2 j hj
theorem toN_rowK {α : Type} [Inhabited α] {E : NElem α} (hE : ∀ a, E.rd (E.cell a) = a) {l : List α} {k : Nat} (h : l.length = k) : toN E k (rowN E l) = l := by
 subst h; exact toN_row hE l
theorem zeros_le {c : Wc} {k : Nat} {t : TypeId} {v : Bool} (hk : hget c.H k = some ⟨t, 65, 1, v, fun _ => nth [CV.int .u8 0]⟩) (hd : c.dead k = true) : LeC c (.os k 0 65) (slR eB (List.replicate 65 0)) := by
 refine leC_os_sl hk hd rfl (by rw [List.length_replicate]) (Nat.le_refl _) fun q hq j hj => ?_
 have hj : j < 1 := hj
 obtain rfl : j = 0 := by omega
 refine leC_int ?_
 show (0 : Int) = (List.replicate 65 (0 : Int)).getD q default
 rw [List.getD_eq_getElem?_getD, List.getElem?_replicate]
 split <;> rfl
theorem spoilS_ok (n : Nat) (l : List Int) (q : Int) (L : List Sed) (ht : TapeOk n (rI l) q) (hL : validL L = true) :
 ∃ (r : List Sed) (q' : Int), LHp r /\ TapeOk n (rI l) q' /\ MethOk Try.prog 20 [(cNS neS neS_sz).enc L] (tapeN n (rI l) q) (.e (.c (slN neS r))) (tapeN n (rI l) q') := by
 have hc8 := vl_c8 hL
 have h8 := vl_len hL
 refine tape_intro (enc := fun r => .e (.c (slN neS r))) (wd := 9) (Q := mkQ LSo) (by decide) tysOk (q_of LSo_ok) mixed Try.func20 rfl _ (by show 1 + 1 <= _; decide) (fun _ => nff_sds) ?_
 rcases (show L.length = 0 \/ L.length = 1 \/ L.length = 2 \/ L.length = 3 \/ L.length = 4 \/ L.length = 5 \/ L.length = 6 \/ L.length = 7 \/ L.length = 8 by omega) with hK | hK | hK | hK | hK | hK | hK | hK | hK
 all_goals
  have wL : IntKind.i64.wrap (((L.length + 1 : Nat) : Int) - 1) = (L.length : Int) := (IntWalk.i64_in _ (by omega)).trans (by omega)
  rw [hK] at wL
  repeat' (first | (simp only [hK, wL]) | (apply And.intro <;> intro hc <;> (first | exact Bool.noConfusion hc | (exfalso; first | exact absurd rfl hc | omega) | (simp only [zb0, ne_eq, not_true_eq_false] at hc <;> first | exact absurd rfl hc | (exfalso; first | exact absurd rfl hc | omega) | skip) | skip)) | (refine And.intro zp1 ?_) | (apply And.intro) | (intro s hs; (first | (have q : L = s := (hs.trans (toN_rowK neS_rd hK)).symm; clear hs; subst q) | skip)))
  all_goals try first
   | exact ⟨rfl, okHs_sl _⟩
   | exact fun _ _ => ⟨rfl, okHs_sl _⟩
   | exact Eq.mpr (congrArg Cl8 (toN_rowK neS_rd hK)) hc8
   | exact Eq.mpr (congrArg Cl8 (toN_row neS_rd _)) hc8
  . rename_i T hT q1 hq1 v hv
    conv => whnf
    refine ⟨(L ++ [⟨0, 3, [⟨4, [], T, 0⟩]⟩], _), ⟨lhp_app hL (by dsimp only; omega) (Nat.le_of_ble_eq_true rfl), hs⟩, ⟨leF_c (spo_fin hK rfl rfl (fun p hp j hj => ?_) (fun j hj => ?_)), tapeN_le⟩⟩
    . rcases (show p = 0 \/ p = 1 \/ p = 2 \/ p = 3 \/ p = 4 \/ p = 5 \/ p = 6 \/ p = 7 by omega) with rfl | rfl | rfl | rfl | rfl | rfl | rfl | rfl
      . first | exact absurd hp (by decide) | (rcases j with _ | _ | _ | j <;> first | exact leC_int rfl | exact give_held (L := L) (p := 0) rfl rfl | exact absurd hj (by omega))
      . first | exact absurd hp (by decide) | (rcases j with _ | _ | _ | j <;> first | exact leC_int rfl | exact give_held (L := L) (p := 1) rfl rfl | exact absurd hj (by omega))
      . first | exact absurd hp (by decide) | (rcases j with _ | _ | _ | j <;> first | exact leC_int rfl | exact give_held (L := L) (p := 2) rfl rfl | exact absurd hj (by omega))
      . first | exact absurd hp (by decide) | (rcases j with _ | _ | _ | j <;> first | exact leC_int rfl | exact give_held (L := L) (p := 3) rfl rfl | exact absurd hj (by omega))
      . first | exact absurd hp (by decide) | (rcases j with _ | _ | _ | j <;> first | exact leC_int rfl | exact give_held (L := L) (p := 4) rfl rfl | exact absurd hj (by omega))
      . first | exact absurd hp (by decide) | (rcases j with _ | _ | _ | j <;> first | exact leC_int rfl | exact give_held (L := L) (p := 5) rfl rfl | exact absurd hj (by omega))
      . first | exact absurd hp (by decide) | (rcases j with _ | _ | _ | j <;> first | exact leC_int rfl | exact give_held (L := L) (p := 6) rfl rfl | exact absurd hj (by omega))
      . first | exact absurd hp (by decide) | (rcases j with _ | _ | _ | j <;> first | exact leC_int rfl | exact give_held (L := L) (p := 7) rfl rfl | exact absurd hj (by omega))
    . rcases j with _ | _ | _ | j
      . exact leC_int rfl
      . exact leC_int rfl
      . refine held1_le rfl rfl fun j hj => ?_
        iterate 11 (rcases j with _ | j; · first | exact leC_int rfl | exact leC_bool rfl | exact leC_nils_sl rfl | exact zeros_le rfl rfl)
        exact absurd hj (by omega)
      . exact absurd hj (by omega)
  . rename_i T hT q1 hq1 v hv c0
    conv => whnf
    refine ⟨(L ++ [⟨99, -1, [⟨4, [], T, 0⟩]⟩], _), ⟨lhp_app hL (by dsimp only; omega) (Nat.le_of_ble_eq_true rfl), hs⟩, ⟨leF_c (spo_fin hK rfl rfl (fun p hp j hj => ?_) (fun j hj => ?_)), tapeN_le⟩⟩
    . rcases (show p = 0 \/ p = 1 \/ p = 2 \/ p = 3 \/ p = 4 \/ p = 5 \/ p = 6 \/ p = 7 by omega) with rfl | rfl | rfl | rfl | rfl | rfl | rfl | rfl
      . first | exact absurd hp (by decide) | (rcases j with _ | _ | _ | j <;> first | exact leC_int rfl | exact give_held (L := L) (p := 0) rfl rfl | exact absurd hj (by omega))
      . first | exact absurd hp (by decide) | (rcases j with _ | _ | _ | j <;> first | exact leC_int rfl | exact give_held (L := L) (p := 1) rfl rfl | exact absurd hj (by omega))
      . first | exact absurd hp (by decide) | (rcases j with _ | _ | _ | j <;> first | exact leC_int rfl | exact give_held (L := L) (p := 2) rfl rfl | exact absurd hj (by omega))
      . first | exact absurd hp (by decide) | (rcases j with _ | _ | _ | j <;> first | exact leC_int rfl | exact give_held (L := L) (p := 3) rfl rfl | exact absurd hj (by omega))
      . first | exact absurd hp (by decide) | (rcases j with _ | _ | _ | j <;> first | exact leC_int rfl | exact give_held (L := L) (p := 4) rfl rfl | exact absurd hj (by omega))
      . first | exact absurd hp (by decide) | (rcases j with _ | _ | _ | j <;> first | exact leC_int rfl | exact give_held (L := L) (p := 5) rfl rfl | exact absurd hj (by omega))
      . first | exact absurd hp (by decide) | (rcases j with _ | _ | _ | j <;> first | exact leC_int rfl | exact give_held (L := L) (p := 6) rfl rfl | exact absurd hj (by omega))
      . first | exact absurd hp (by decide) | (rcases j with _ | _ | _ | j <;> first | exact leC_int rfl | exact give_held (L := L) (p := 7) rfl rfl | exact absurd hj (by omega))
    . rcases j with _ | _ | _ | j
      . exact leC_int rfl
      . exact leC_int rfl
      . refine held1_le rfl rfl fun j hj => ?_
        iterate 11 (rcases j with _ | j; · first | exact leC_int rfl | exact leC_bool rfl | exact leC_nils_sl rfl | exact zeros_le rfl rfl)
        exact absurd hj (by omega)
      . exact absurd hj (by omega)
  . rename_i T hT q1 hq1 v hv c0 c1
    conv => whnf
    refine ⟨(L ++ [⟨99, 3, [⟨2, [], T, 0⟩]⟩], _), ⟨lhp_app hL (by dsimp only; omega) (Nat.le_of_ble_eq_true rfl), hs⟩, ⟨leF_c (spo_fin hK rfl rfl (fun p hp j hj => ?_) (fun j hj => ?_)), tapeN_le⟩⟩
    . rcases (show p = 0 \/ p = 1 \/ p = 2 \/ p = 3 \/ p = 4 \/ p = 5 \/ p = 6 \/ p = 7 by omega) with rfl | rfl | rfl | rfl | rfl | rfl | rfl | rfl
      . first | exact absurd hp (by decide) | (rcases j with _ | _ | _ | j <;> first | exact leC_int rfl | exact give_held (L := L) (p := 0) rfl rfl | exact absurd hj (by omega))
      . first | exact absurd hp (by decide) | (rcases j with _ | _ | _ | j <;> first | exact leC_int rfl | exact give_held (L := L) (p := 1) rfl rfl | exact absurd hj (by omega))
      . first | exact absurd hp (by decide) | (rcases j with _ | _ | _ | j <;> first | exact leC_int rfl | exact give_held (L := L) (p := 2) rfl rfl | exact absurd hj (by omega))
      . first | exact absurd hp (by decide) | (rcases j with _ | _ | _ | j <;> first | exact leC_int rfl | exact give_held (L := L) (p := 3) rfl rfl | exact absurd hj (by omega))
      . first | exact absurd hp (by decide) | (rcases j with _ | _ | _ | j <;> first | exact leC_int rfl | exact give_held (L := L) (p := 4) rfl rfl | exact absurd hj (by omega))
      . first | exact absurd hp (by decide) | (rcases j with _ | _ | _ | j <;> first | exact leC_int rfl | exact give_held (L := L) (p := 5) rfl rfl | exact absurd hj (by omega))
      . first | exact absurd hp (by decide) | (rcases j with _ | _ | _ | j <;> first | exact leC_int rfl | exact give_held (L := L) (p := 6) rfl rfl | exact absurd hj (by omega))
      . first | exact absurd hp (by decide) | (rcases j with _ | _ | _ | j <;> first | exact leC_int rfl | exact give_held (L := L) (p := 7) rfl rfl | exact absurd hj (by omega))
    . rcases j with _ | _ | _ | j
      . exact leC_int rfl
      . exact leC_int rfl
      . refine held1_le rfl rfl fun j hj => ?_
        iterate 11 (rcases j with _ | j; · first | exact leC_int rfl | exact leC_bool rfl | exact leC_nils_sl rfl | exact zeros_le rfl rfl)
        exact absurd hj (by omega)
      . exact absurd hj (by omega)
  . rename_i T hT q1 hq1 v hv c0 c1 c2
    conv => whnf
    refine ⟨(L ++ [⟨99, 3, [⟨35, [], T, 0⟩]⟩], _), ⟨lhp_app hL (by dsimp only; omega) (Nat.le_of_ble_eq_true rfl), hs⟩, ⟨leF_c (spo_fin hK rfl rfl (fun p hp j hj => ?_) (fun j hj => ?_)), tapeN_le⟩⟩
    . rcases (show p = 0 \/ p = 1 \/ p = 2 \/ p = 3 \/ p = 4 \/ p = 5 \/ p = 6 \/ p = 7 by omega) with rfl | rfl | rfl | rfl | rfl | rfl | rfl | rfl
      . first | exact absurd hp (by decide) | (rcases j with _ | _ | _ | j <;> first | exact leC_int rfl | exact give_held (L := L) (p := 0) rfl rfl | exact absurd hj (by omega))
      . first | exact absurd hp (by decide) | (rcases j with _ | _ | _ | j <;> first | exact leC_int rfl | exact give_held (L := L) (p := 1) rfl rfl | exact absurd hj (by omega))
      . first | exact absurd hp (by decide) | (rcases j with _ | _ | _ | j <;> first | exact leC_int rfl | exact give_held (L := L) (p := 2) rfl rfl | exact absurd hj (by omega))
      . first | exact absurd hp (by decide) | (rcases j with _ | _ | _ | j <;> first | exact leC_int rfl | exact give_held (L := L) (p := 3) rfl rfl | exact absurd hj (by omega))
      . first | exact absurd hp (by decide) | (rcases j with _ | _ | _ | j <;> first | exact leC_int rfl | exact give_held (L := L) (p := 4) rfl rfl | exact absurd hj (by omega))
      . first | exact absurd hp (by decide) | (rcases j with _ | _ | _ | j <;> first | exact leC_int rfl | exact give_held (L := L) (p := 5) rfl rfl | exact absurd hj (by omega))
      . first | exact absurd hp (by decide) | (rcases j with _ | _ | _ | j <;> first | exact leC_int rfl | exact give_held (L := L) (p := 6) rfl rfl | exact absurd hj (by omega))
      . first | exact absurd hp (by decide) | (rcases j with _ | _ | _ | j <;> first | exact leC_int rfl | exact give_held (L := L) (p := 7) rfl rfl | exact absurd hj (by omega))
    . rcases j with _ | _ | _ | j
      . exact leC_int rfl
      . exact leC_int rfl
      . refine held1_le rfl rfl fun j hj => ?_
        iterate 11 (rcases j with _ | j; · first | exact leC_int rfl | exact leC_bool rfl | exact leC_nils_sl rfl | exact zeros_le rfl rfl)
        exact absurd hj (by omega)
      . exact absurd hj (by omega)
  . rename_i T hT q1 hq1 v hv c0 c1 c2 c3
    conv => whnf
    refine ⟨(L ++ [⟨99, 3, [⟨4, List.replicate 65 0, T, 0⟩]⟩], _), ⟨lhp_app hL (by dsimp only; omega) (Nat.le_of_ble_eq_true rfl), hs⟩, ⟨leF_c (spo_fin hK rfl rfl (fun p hp j hj => ?_) (fun j hj => ?_)), tapeN_le⟩⟩
    . rcases (show p = 0 \/ p = 1 \/ p = 2 \/ p = 3 \/ p = 4 \/ p = 5 \/ p = 6 \/ p = 7 by omega) with rfl | rfl | rfl | rfl | rfl | rfl | rfl | rfl
      . first | exact absurd hp (by decide) | (rcases j with _ | _ | _ | j <;> first | exact leC_int rfl | exact give_held (L := L) (p := 0) rfl rfl | exact absurd hj (by omega))
      . first | exact absurd hp (by decide) | (rcases j with _ | _ | _ | j <;> first | exact leC_int rfl | exact give_held (L := L) (p := 1) rfl rfl | exact absurd hj (by omega))
      . first | exact absurd hp (by decide) | (rcases j with _ | _ | _ | j <;> first | exact leC_int rfl | exact give_held (L := L) (p := 2) rfl rfl | exact absurd hj (by omega))
      . first | exact absurd hp (by decide) | (rcases j with _ | _ | _ | j <;> first | exact leC_int rfl | exact give_held (L := L) (p := 3) rfl rfl | exact absurd hj (by omega))
      . first | exact absurd hp (by decide) | (rcases j with _ | _ | _ | j <;> first | exact leC_int rfl | exact give_held (L := L) (p := 4) rfl rfl | exact absurd hj (by omega))
      . first | exact absurd hp (by decide) | (rcases j with _ | _ | _ | j <;> first | exact leC_int rfl | exact give_held (L := L) (p := 5) rfl rfl | exact absurd hj (by omega))
      . first | exact absurd hp (by decide) | (rcases j with _ | _ | _ | j <;> first | exact leC_int rfl | exact give_held (L := L) (p := 6) rfl rfl | exact absurd hj (by omega))
      . first | exact absurd hp (by decide) | (rcases j with _ | _ | _ | j <;> first | exact leC_int rfl | exact give_held (L := L) (p := 7) rfl rfl | exact absurd hj (by omega))
    . rcases j with _ | _ | _ | j
      . exact leC_int rfl
      . exact leC_int rfl
      . refine held1_le rfl rfl fun j hj => ?_
        iterate 11 (rcases j with _ | j; · first | exact leC_int rfl | exact leC_bool rfl | exact leC_nils_sl rfl | exact zeros_le rfl rfl)
        exact absurd hj (by omega)
      . exact absurd hj (by omega)
  . rename_i T hT q1 hq1 v hv c0 c1 c2 c3 c4
    conv => whnf
    refine ⟨(L ++ [⟨99, 3, [⟨4, [], { T with len := 1 }, 0⟩]⟩], _), ⟨lhp_app hL (by dsimp only; omega) (Nat.le_of_ble_eq_true rfl), hs⟩, ⟨leF_c (spo_fin hK rfl rfl (fun p hp j hj => ?_) (fun j hj => ?_)), tapeN_le⟩⟩
    . rcases (show p = 0 \/ p = 1 \/ p = 2 \/ p = 3 \/ p = 4 \/ p = 5 \/ p = 6 \/ p = 7 by omega) with rfl | rfl | rfl | rfl | rfl | rfl | rfl | rfl
      . first | exact absurd hp (by decide) | (rcases j with _ | _ | _ | j <;> first | exact leC_int rfl | exact give_held (L := L) (p := 0) rfl rfl | exact absurd hj (by omega))
      . first | exact absurd hp (by decide) | (rcases j with _ | _ | _ | j <;> first | exact leC_int rfl | exact give_held (L := L) (p := 1) rfl rfl | exact absurd hj (by omega))
      . first | exact absurd hp (by decide) | (rcases j with _ | _ | _ | j <;> first | exact leC_int rfl | exact give_held (L := L) (p := 2) rfl rfl | exact absurd hj (by omega))
      . first | exact absurd hp (by decide) | (rcases j with _ | _ | _ | j <;> first | exact leC_int rfl | exact give_held (L := L) (p := 3) rfl rfl | exact absurd hj (by omega))
      . first | exact absurd hp (by decide) | (rcases j with _ | _ | _ | j <;> first | exact leC_int rfl | exact give_held (L := L) (p := 4) rfl rfl | exact absurd hj (by omega))
      . first | exact absurd hp (by decide) | (rcases j with _ | _ | _ | j <;> first | exact leC_int rfl | exact give_held (L := L) (p := 5) rfl rfl | exact absurd hj (by omega))
      . first | exact absurd hp (by decide) | (rcases j with _ | _ | _ | j <;> first | exact leC_int rfl | exact give_held (L := L) (p := 6) rfl rfl | exact absurd hj (by omega))
      . first | exact absurd hp (by decide) | (rcases j with _ | _ | _ | j <;> first | exact leC_int rfl | exact give_held (L := L) (p := 7) rfl rfl | exact absurd hj (by omega))
    . rcases j with _ | _ | _ | j
      . exact leC_int rfl
      . exact leC_int rfl
      . refine held1_le rfl rfl fun j hj => ?_
        iterate 11 (rcases j with _ | j; · first | exact leC_int rfl | exact leC_bool rfl | exact leC_nils_sl rfl | exact zeros_le rfl rfl)
        exact absurd hj (by omega)
      . exact absurd hj (by omega)
  . rename_i T hT q1 hq1 v hv c0 c1 c2 c3 c4 c5
    conv => whnf
    refine ⟨(L ++ [⟨99, 3, [⟨4, [], T, -1⟩]⟩], _), ⟨lhp_app hL (by dsimp only; omega) (Nat.le_of_ble_eq_true rfl), hs⟩, ⟨leF_c (spo_fin hK rfl rfl (fun p hp j hj => ?_) (fun j hj => ?_)), tapeN_le⟩⟩
    . rcases (show p = 0 \/ p = 1 \/ p = 2 \/ p = 3 \/ p = 4 \/ p = 5 \/ p = 6 \/ p = 7 by omega) with rfl | rfl | rfl | rfl | rfl | rfl | rfl | rfl
      . first | exact absurd hp (by decide) | (rcases j with _ | _ | _ | j <;> first | exact leC_int rfl | exact give_held (L := L) (p := 0) rfl rfl | exact absurd hj (by omega))
      . first | exact absurd hp (by decide) | (rcases j with _ | _ | _ | j <;> first | exact leC_int rfl | exact give_held (L := L) (p := 1) rfl rfl | exact absurd hj (by omega))
      . first | exact absurd hp (by decide) | (rcases j with _ | _ | _ | j <;> first | exact leC_int rfl | exact give_held (L := L) (p := 2) rfl rfl | exact absurd hj (by omega))
      . first | exact absurd hp (by decide) | (rcases j with _ | _ | _ | j <;> first | exact leC_int rfl | exact give_held (L := L) (p := 3) rfl rfl | exact absurd hj (by omega))
      . first | exact absurd hp (by decide) | (rcases j with _ | _ | _ | j <;> first | exact leC_int rfl | exact give_held (L := L) (p := 4) rfl rfl | exact absurd hj (by omega))
      . first | exact absurd hp (by decide) | (rcases j with _ | _ | _ | j <;> first | exact leC_int rfl | exact give_held (L := L) (p := 5) rfl rfl | exact absurd hj (by omega))
      . first | exact absurd hp (by decide) | (rcases j with _ | _ | _ | j <;> first | exact leC_int rfl | exact give_held (L := L) (p := 6) rfl rfl | exact absurd hj (by omega))
      . first | exact absurd hp (by decide) | (rcases j with _ | _ | _ | j <;> first | exact leC_int rfl | exact give_held (L := L) (p := 7) rfl rfl | exact absurd hj (by omega))
    . rcases j with _ | _ | _ | j
      . exact leC_int rfl
      . exact leC_int rfl
      . refine held1_le rfl rfl fun j hj => ?_
        iterate 11 (rcases j with _ | j; · first | exact leC_int rfl | exact leC_bool rfl | exact leC_nils_sl rfl | exact zeros_le rfl rfl)
        exact absurd hj (by omega)
      . exact absurd hj (by omega)
  . rename_i T hT q1 hq1 v hv c0 c1 c2 c3 c4 c5
    conv => whnf
    refine ⟨(L ++ [⟨99, 3, [⟨4, [], T, 0⟩, ⟨4, [], T, 0⟩]⟩], _), ⟨lhp_app hL (by dsimp only; omega) (Nat.le_of_ble_eq_true rfl), hs⟩, ⟨leF_c (spo_fin hK rfl rfl (fun p hp j hj => ?_) (fun j hj => ?_)), tapeN_le⟩⟩
    . rcases (show p = 0 \/ p = 1 \/ p = 2 \/ p = 3 \/ p = 4 \/ p = 5 \/ p = 6 \/ p = 7 by omega) with rfl | rfl | rfl | rfl | rfl | rfl | rfl | rfl
      . first | exact absurd hp (by decide) | (rcases j with _ | _ | _ | j <;> first | exact leC_int rfl | exact give_held (L := L) (p := 0) rfl rfl | exact absurd hj (by omega))
      . first | exact absurd hp (by decide) | (rcases j with _ | _ | _ | j <;> first | exact leC_int rfl | exact give_held (L := L) (p := 1) rfl rfl | exact absurd hj (by omega))
      . first | exact absurd hp (by decide) | (rcases j with _ | _ | _ | j <;> first | exact leC_int rfl | exact give_held (L := L) (p := 2) rfl rfl | exact absurd hj (by omega))
      . first | exact absurd hp (by decide) | (rcases j with _ | _ | _ | j <;> first | exact leC_int rfl | exact give_held (L := L) (p := 3) rfl rfl | exact absurd hj (by omega))
      . first | exact absurd hp (by decide) | (rcases j with _ | _ | _ | j <;> first | exact leC_int rfl | exact give_held (L := L) (p := 4) rfl rfl | exact absurd hj (by omega))
      . first | exact absurd hp (by decide) | (rcases j with _ | _ | _ | j <;> first | exact leC_int rfl | exact give_held (L := L) (p := 5) rfl rfl | exact absurd hj (by omega))
      . first | exact absurd hp (by decide) | (rcases j with _ | _ | _ | j <;> first | exact leC_int rfl | exact give_held (L := L) (p := 6) rfl rfl | exact absurd hj (by omega))
      . first | exact absurd hp (by decide) | (rcases j with _ | _ | _ | j <;> first | exact leC_int rfl | exact give_held (L := L) (p := 7) rfl rfl | exact absurd hj (by omega))
    . rcases j with _ | _ | _ | j
      . exact leC_int rfl
      . exact leC_int rfl
      . refine held2_le rfl rfl (fun j hj => ?_) (fun j hj => ?_)
        . iterate 11 (rcases j with _ | j; · first | exact leC_int rfl | exact leC_bool rfl | exact leC_nils_sl rfl | exact zeros_le rfl rfl)
          exact absurd hj (by omega)
        . iterate 11 (rcases j with _ | j; · first | exact leC_int rfl | exact leC_bool rfl | exact leC_nils_sl rfl | exact zeros_le rfl rfl)
          exact absurd hj (by omega)
      . exact absurd hj (by omega)
abbrev spoilSE : Entry := tapeE (AC.cons (cNS neS neS_sz) AC.nil) (fun a => validL a.1 = true) (fun a (r : List Sed) => LHp r) (fun r => .e (.c (slN neS r)))
theorem spoilSE_ok : EntOk Try.prog 20 spoilSE := tapeE_ok ⟨_, Try.func20, rfl, by kernel_rfl⟩ fun n l q a ht hp => spoilS_ok n l q a.1 ht hp
structure AwS (m : Nat) (z : List Int) where
 i : Nat
 q : Int
 hi : i <= 4
 ht : TapeOk m (rI z) q
def LAw : CsL := (13, some smallE) :: (16, some acceptsE) :: (20, some spoilSE) :: (12, some known35E) :: (15, some seedsE) :: (18, some mcastE) :: LWd
theorem LAw_ok : AllOk Try.prog LAw := ⟨smallE_ok, acceptsE_ok, spoilSE_ok, known35E_ok, tapeE_ok ⟨_, Try.func15, rfl, by kernel_rfl⟩ fun n l q a ht hp => seeds_ok n l q a.1 ht hp, tapeE_ok ⟨_, Try.func18, rfl, by kernel_rfl⟩ fun n l q a ht hp => mcast_ok n l q ht, LWd_ok⟩
theorem acceptsL_ok (raw : List Sed) (hraw : LHp raw) (len : Nat) (z : List Int) (hz : rngL z) (now : Int) (c : Cas) (hid : 0 <= c.id) (deaf : Bool) (draw : Int) (hdr : drawOk draw) : PureOk Try.prog 4 [.e (.c (slN neS raw)), .e (.c (.sl true len 1 (rI z))), (cI .i64).enc now, (cN neC).enc c, cB.enc deaf, (cI .u32).enc draw] (.e (.c (.bool true))) := by
 refine pure_intro (wd := 1) (Q := mkQ LAw) (by decide) tysOk (q_of LAw_ok) mixed Try.func4 rfl _ (by show 6 <= _; decide) _ ?_
 repeat' (first | (apply And.intro <;> intro hc <;> (first | exact Bool.noConfusion hc | (exfalso; first | exact absurd rfl hc | omega) | (simp only [zb0, ne_eq, not_true_eq_false] at hc <;> first | exact absurd rfl hc | (exfalso; first | exact absurd rfl hc | omega) | skip) | skip)) | (refine And.intro zp1 ?_) | (apply And.intro) | (intro s hs; skip))
 . exact ⟨rfl, okHs_sl _⟩
 . exact Eq.mpr (congrArg LHn (toN_row neS_rd _)) hraw.h
 . conv => whnf
   exact Done.mk (leF_bool hs)
 . conv => whnf
   exact Done.mk (leF_bool hs)
 . exact ⟨z, rfl, hz⟩
 intro ht0
 obtain ⟨m, em⟩ : ∃ m, m = s := ⟨s, rfl⟩
 obtain ⟨q0, eq0⟩ : ∃ q0, q0 = hs := ⟨hs, rfl⟩
 subst em eq0
 repeat' (first | (apply And.intro <;> intro hc <;> (first | exact Bool.noConfusion hc | (exfalso; first | exact absurd rfl hc | omega) | (simp only [zb0, ne_eq, not_true_eq_false] at hc <;> first | exact absurd rfl hc | (exfalso; first | exact absurd rfl hc | omega) | skip) | skip)) | (refine And.intro zp1 ?_) | (apply And.intro) | (intro s hs; skip))
 rename_i b hb q1 hq1 L hL
 have hb' : 0 <= b /\ b <= 1099511627776 := hb
 have hL : validL L = true := hL
 conv => whnf
 refine loop_intro (mono_of LAw_ok) (fun s : AwS m z => (⟨[(0, one (slN neS raw)), (2, one (.int .i64 now)), (4, one (.bool deaf)), (5, one (.int .u32 draw)), (9, one (.ptr 1 0 0 false)), (13, one (.ptr 0 0 0 false)), (14, one (.int .i64 b)), (15, one (slN neS L)), (16, one (.int .i64 (s.i : Int)))], [(0, some (tapeN m (rI z) s.q)), (1, some ⟨32, 1, 3, true, fun _ => neC.cell c⟩)], 2⟩ : Hd)) (fun s => 4 - s.i) (fun _ => rfl) ?_ ⟨0, _, Nat.zero_le _, hs⟩ [(0, some 12), (1, some 0)] ⟨rfl, ⟨leF_c (sh_slN _).le, leF_int rfl, leF_bool rfl, leF_int rfl, leF_ptr rfl, leF_ptr rfl, leF_int rfl, leF_c (sh_slN _).le, leF_int rfl, trivial⟩, ⟨⟨rfl, tapeN_le⟩, ⟨rfl, leN_varA fun j hj => (neC.sh _ j hj).le⟩, trivial⟩⟩
 clear hq1 hs
 rintro ⟨i, q, hi, ht⟩
 dsimp only at hi ht ⊢
 by_cases h4 : i < 4
 . repeat' (first | (apply And.intro <;> intro hc <;> (first | exact Bool.noConfusion hc | (exfalso; first | exact absurd rfl hc | omega | exact Bool.noConfusion hc) | (simp only [zb0, ne_eq, not_true_eq_false] at hc <;> first | exact absurd rfl hc | (exfalso; first | exact absurd rfl hc | omega | exact Bool.noConfusion hc) | skip) | skip)) | (refine And.intro zp1 ?_) | (apply And.intro) | (intro s hs; (first | subst hs | skip)))
   all_goals try first
    | exact ⟨rfl, okHs_sl _⟩
    | exact fun _ _ => ⟨rfl, okHs_sl _⟩
    | exact ⟨rfl, okD_sl _⟩
    | exact ⟨Eq.mpr (congrArg LHp (toN_row neS_rd _)) (vl_hp hL), Eq.mpr (congrArg (fun z : Cas => 0 <= z.id) (neC_rd _)) (cas_i (by assumption)), hdr⟩
   conv => whnf
   exact ⟨⟨i + 1, _, h4, hs⟩, [], by dsimp only; omega, rfl, ⟨leF_c (sh_slN _).le, leF_int rfl, leF_bool rfl, leF_int rfl, leF_ptr rfl, leF_ptr rfl, leF_int rfl, leF_c (sh_slN _).le, leF_int ((IntWalk.i64_in _ (by omega)).trans (by show (i : Int) + 1 = ((i + 1 : Nat) : Int); omega)), trivial⟩, ⟨⟨rfl, tapeN_le⟩, ⟨rfl, leN_varA fun j hj => (neC.sh _ j hj).le⟩, trivial⟩⟩
 . obtain rfl : i = 4 := by omega
   repeat' (first | (apply And.intro <;> intro hc <;> (first | exact Bool.noConfusion hc | (exfalso; first | exact absurd rfl hc | omega | exact Bool.noConfusion hc) | (simp only [zb0, ne_eq, not_true_eq_false] at hc <;> first | exact absurd rfl hc | (exfalso; first | exact absurd rfl hc | omega | exact Bool.noConfusion hc) | skip) | skip)) | (refine And.intro zp1 ?_) | (apply And.intro) | (intro s hs; (first | subst hs | skip)))
   all_goals try first
    | exact ⟨rfl, okHs_sl _⟩
    | exact fun _ _ => ⟨rfl, okHs_sl _⟩
    | exact ⟨rfl, okD_sl _⟩
    | exact ⟨Eq.mpr (congrArg LHp (toN_row neS_rd _)) hraw, hid, hdr⟩
    | exact ⟨Eq.mpr (congrArg LHp (toN_row neS_rd _)) (vl_hp hL), hid, hdr⟩
    | exact Eq.mpr (congrArg (fun z : List Sed => validL z = true) (toN_row neS_rd _)) hL
    | exact ⟨Eq.mpr (congrArg LHp (toN_row neS_rd _)) (by assumption), Eq.mpr (congrArg (fun z : Cas => 0 <= z.id) (neC_rd _)) (cas_i (by assumption)), hdr⟩
   conv => whnf
   exact Done.mk (leF_bool rfl)
end Go.Proofs.Ytfaibcgakcmhcaa.AX
namespace Go.Proofs.Ytfaibcgakcmhcaa
open Go.ChangeShapes Go.WideShapes Go.RowKit AX
inductive Sh where
 | c (k : Option IntKind)
 | s (e : List Sh)
instance : Inhabited Sh := ⟨.c none⟩
def shFs (P : Program) (g : TypeId -> Option (List Sh)) : List Field -> Nat -> Option (List Sh)
 | [], _ => some []
 | fd :: rest, off =>
   match g fd.type with
   | some l => bif Nat.beq fd.offset off && Nat.beq (P.cellsOf fd.type) l.length then (shFs P g rest (off + l.length)).map (l ++ ·) else none
   | none => none
def shOf (P : Program) : Nat -> TypeId -> Option (List Sh)
 | 0, _ => none
 | f + 1, t =>
   match P.underlying t with
   | some .bool => some [.c none]
   | some (.int k) => some [.c (some k)]
   | some (.struct fs) =>
     match shFs P (shOf P f) fs.toList 0 with
     | some l => bif Nat.beq (P.cellsOf t) l.length then some l else none
     | none => none
   | some (.array n e) =>
     match shOf P f e with
     | some l => bif Nat.beq (P.cellsOf e) l.length && Nat.beq (P.cellsOf t) (n * l.length) then some (List.replicate n l).flatten else none
     | none => none
   | some (.slice e) =>
     match shOf P f e with
     | some l => bif Nat.beq (P.cellsOf e) l.length && Nat.blt 0 l.length then some [.s l] else none
     | none => none
   | _ => none
inductive KV (w : World) : Sh -> Value -> CV -> Prop
 | c (k : Option IntKind) (v : Value) : KOk k v -> KV w (.c k) v (cvOf v)
 | z (e : List Sh) (a : Option Addr) (cap : Nat) : KV w (.s e) (.slice a 0 cap) (.sl true 0 e.length fun _ _ => .top)
 | s (e : List Sh) (ad : Addr) (len cap : Nat) (U : Nat -> Nat -> Value) (f : Nat -> Nat -> CV) : 0 < e.length -> len <= cap -> len <= 9223372036854775807 -> ad.spot = none ->
     (∀ i j, i < len -> j < e.length -> w.cell? ⟨ad.block, ad.off + (i * e.length + j), none⟩ = some (U i j)) -> (∀ i j, i < len -> j < e.length -> KV w (e.getD j default) (U i j) (f i j)) -> KV w (.s e) (.slice (some ad) len cap) (.sl true len e.length f)
theorem KV.rel {w : World} {s : Sh} {v : Value} {x : CV} (h : KV w s v x) : x.rel (fun _ => none) (fun _ => False) (fun _ => False) w v := by
 induction h with
 | c k v h => exact h.cv.2 _ _ _ _
 | z e a cap => exact ⟨a, cap, rfl, Nat.zero_le _, fun h => absurd h (Nat.lt_irrefl _)⟩
 | s e ad len cap U f h0 hl _ hs hc hk ih =>
   refine ⟨some ad, cap, rfl, hl, fun hpos => ⟨ad, rfl, hs, fun h => h, fun _ h => h, ?_, fun i hi j hj => ⟨_, hc i j hi hj, ih i j hi hj⟩⟩⟩
   exact cells_lt (ad := ⟨ad.block, ad.off + (0 * e.length + 0), none⟩) (hc 0 0 hpos h0)
def KVs (w : World) (ss : List Sh) (vs : List Value) : Prop := vs.length = ss.length /\ ∀ (j : Nat) v, vs[j]? = some v -> ∃ x, KV w (ss.getD j default) v x
theorem KVs.append {w : World} {a b : List Sh} {x y : List Value} (h : KVs w a x) (h' : KVs w b y) : KVs w (a ++ b) (x ++ y) := by
 refine ⟨by rw [List.length_append, List.length_append, h.1, h'.1], fun j v hv => ?_⟩
 rw [List.getD_eq_getElem?_getD]
 by_cases hj : j < x.length
 . rw [List.getElem?_append_left hj] at hv
   rw [List.getElem?_append_left (by rw [<- h.1]; exact hj), <- List.getD_eq_getElem?_getD]
   exact h.2 j v hv
 . rw [List.getElem?_append_right (by omega)] at hv
   rw [List.getElem?_append_right (by rw [<- h.1]; omega), <- List.getD_eq_getElem?_getD, <- h.1]
   exact h'.2 _ v hv
section
variable {H : Type} {enc : TypeId × Value -> H} {P : Program} {w : World} {base : Nat} {spare : Nat -> Bool} {held : Bool}
theorem shFs_kv {g : TypeId -> Option (List Sh)} {cs : List Value} : ∀ (fs : List Field) (off : Nat) (ks : List Sh), shFs P g fs off = some ks ->
 (∀ fd ∈ fs, ∀ l, g fd.type = some l -> KVs w l ((cs.drop fd.offset).take (P.cellsOf fd.type))) -> cs.length = off + ks.length -> KVs w ks (cs.drop off) := by
 intro fs
 induction fs with
 | nil =>
   intro off ks h _ hl
   simp only [shFs, Option.some.injEq] at h
   subst h
   rw [List.drop_eq_nil_of_le (by simp at hl; omega)]
   exact ⟨rfl, fun j v h => by simp at h⟩
 | cons fd rest ih =>
   intro off ks h hm hl
   simp only [shFs] at h
   split at h
   . rename_i l hg
     cases hb : (Nat.beq fd.offset off && Nat.beq (P.cellsOf fd.type) l.length) with
     | false => rw [hb] at h; cases h
     | true =>
       rw [hb, cond_true] at h
       simp only [Bool.and_eq_true] at hb
       have h1 := Nat.eq_of_beq_eq_true hb.1
       have h2 := Nat.eq_of_beq_eq_true hb.2
       cases hr : shFs P g rest (off + l.length) with
       | none => rw [hr] at h; cases h
       | some l' =>
         rw [hr] at h
         simp only [Option.map_some, Option.some.injEq] at h
         subst h
         have m1 := hm fd (by simp) l hg
         rw [h1, h2] at m1
         have m2 := ih _ _ hr (fun fd' hfd l hl => hm fd' (by simp [hfd]) l hl) (by simp at hl; omega)
         rw [show cs.drop off = (cs.drop off).take l.length ++ cs.drop (off + l.length) by
          rw [<- List.drop_drop, List.take_append_drop]]
         exact m1.append m2
   . cases h
theorem sh_kv : ∀ (f : Nat) (t : TypeId) (ks : List Sh) (fuel : Nat) (cs : List Value) (x : DataW H × List MemPlace), shOf P f t = some ks -> DataW.trod enc P w base spare held fuel t cs = some x -> KVs w ks cs := by
 intro f
 induction f with
 | zero => intro t ks fuel cs x h; cases h
 | succ f ih =>
   intro t ks fuel cs x h hd
   have one : ∀ {s : Sh} {v : Value} {y : CV}, KV w s v y -> KVs w [s] [v] := fun {s v y} hk => ⟨rfl, fun j u hu => by
    cases j with
    | zero => simp only [List.getElem?_cons_zero, Option.some.injEq] at hu; subst hu; exact ⟨y, hk⟩
    | succ j => simp at hu⟩
   simp only [shOf] at h
   split at h
   . rename_i ht
     simp only [Option.some.injEq] at h
     subst h
     cases fuel with
     | zero => simp [DataW.trod] at hd
     | succ m =>
       unfold DataW.trod at hd
       rw [ht] at hd
       split at hd <;> simp_all
       exact one (.c none _ ⟨_, rfl⟩)
   . rename_i k ht
     simp only [Option.some.injEq] at h
     subst h
     obtain ⟨n, rfl, hx, hw⟩ := DataW.trod_int ht hd
     exact one (.c (some k) _ ⟨n, rfl, hw⟩)
   . rename_i fs ht
     split at h
     . rename_i l hfl
       cases hb : Nat.beq (P.cellsOf t) l.length with
       | false => rw [hb] at h; cases h
       | true =>
         rw [hb] at h
         simp only [cond_true, Option.some.injEq] at h
         subst h
         obtain ⟨ys, m, _, _, hlen, hyl, hf⟩ := DataW.trod_struct ht hd
         have := shFs_kv (cs := cs) (w := w) fs.toList 0 l hfl (fun fd hfd l' hg => ?_) (by rw [hlen, Nat.eq_of_beq_eq_true hb]; omega)
         . simpa using this
         . obtain ⟨i, hi, hfi⟩ := List.getElem_of_mem hfd
           have hi' : i < fs.size := by simpa using hi
           have e1 : fs[i]? = some fd := by
            rw [Array.getElem?_eq_getElem hi']
            simpa using hfi
           have hfd' := hf i fd e1
           have hy : ys[i]? = some ys[i] := List.getElem?_eq_getElem (by omega)
           rw [hy] at hfd'
           exact ih _ _ _ _ _ hg hfd'
     . cases h
   . rename_i n e ht
     split at h
     . rename_i l hfl
       cases hb : (Nat.beq (P.cellsOf e) l.length && Nat.beq (P.cellsOf t) (n * l.length)) with
       | false => rw [hb] at h; cases h
       | true =>
         rw [hb] at h
         simp only [cond_true, Option.some.injEq] at h
         subst h
         simp only [Bool.and_eq_true] at hb
         have h1 := Nat.eq_of_beq_eq_true hb.1
         have h2 := Nat.eq_of_beq_eq_true hb.2
         obtain ⟨xs, m, _, _, hlen, hxl, hel⟩ := DataW.trod_array ht hd
         have key : ∀ j, j <= n -> KVs w (List.replicate j l).flatten (cs.drop ((n - j) * l.length)) := by
          intro j
          induction j with
          | zero =>
            intro _
            rw [List.drop_eq_nil_of_le (by rw [hlen, h2]; simp)]
            exact ⟨rfl, fun j v h => by simp at h⟩
          | succ j ihj =>
            intro hj
            have hi := hel (n - (j + 1)) (by omega)
            rw [h1] at hi
            obtain ⟨y, hy⟩ : ∃ y, xs[n - (j + 1)]? = some y := ⟨_, List.getElem?_eq_getElem (by omega)⟩
            rw [hy] at hi
            have m1 := ih _ _ _ _ _ hfl hi
            have m2 := ihj (by omega)
            rw [List.replicate_succ, List.flatten_cons]
            rw [show cs.drop ((n - (j + 1)) * l.length) = (cs.drop ((n - (j + 1)) * l.length)).take l.length ++ cs.drop ((n - j) * l.length) by
             rw [show (n - j) * l.length = (n - (j + 1)) * l.length + l.length by rw [show n - j = (n - (j + 1)) + 1 by omega, Nat.add_mul, Nat.one_mul], <- List.drop_drop, List.take_append_drop]]
            exact m1.append m2
         simpa using key n (Nat.le_refl _)
     . cases h
   . rename_i e ht
     split at h
     . rename_i l hfl
       cases hb : (Nat.beq (P.cellsOf e) l.length && Nat.blt 0 l.length) with
       | false => rw [hb] at h; cases h
       | true =>
         rw [hb] at h
         simp only [cond_true, Option.some.injEq] at h
         subst h
         simp only [Bool.and_eq_true] at hb
         have hc := Nat.eq_of_beq_eq_true hb.1
         have h0 : 0 < l.length := Nat.le_of_ble_eq_true hb.2
         rcases Go.Deep.open_slice ht hd with ⟨rfl, hx⟩ | ⟨a', len, cap, m, n, D, Pl, rfl, hbs, hl, hm, hmm, hx, hel⟩
         . exact one (.z l none 0)
         . have hlm : len <= m := by rw [hmm]; split <;> omega
           by_cases hpos : 0 < len
           . have hsp : a'.spot = none := by
              obtain ⟨cs0, g1, g2⟩ := hel 0 (by omega)
              have hk := ih e l n _ _ hfl g2
              obtain ⟨_, g3, g4⟩ := World.cells?_some g1
              have := g4 0 (by rw [hc]; exact h0)
              rw [Nat.zero_mul, add_zero_, add_zero_] at this
              cases hc0 : cs0[0]? with
              | none => rw [List.getElem?_eq_none_iff] at hc0; have := hk.1; omega
              | some u => rw [hc0] at this; exact spot_none this
             have each : ∀ i j, i < len -> j < l.length -> ∃ p : Value × CV, w.cell? ⟨a'.block, a'.off + (i * l.length + j), none⟩ = some p.1 /\ KV w (l.getD j default) p.1 p.2 := fun i j hi hj => by
              obtain ⟨cs', g1, g2⟩ := hel i (by omega)
              have hk := ih e l n _ _ hfl g2
              obtain ⟨_, g3, g4⟩ := World.cells?_some g1
              obtain ⟨u, hu⟩ : ∃ u, cs'[j]? = some u := ⟨_, List.getElem?_eq_getElem (by rw [hk.1]; exact hj)⟩
              have := g4 j (by omega)
              rw [Go.Deep.add_add, addS hsp, hu, hc] at this
              obtain ⟨x, hx⟩ := hk.2 j u hu
              exact ⟨(u, x), this, hx⟩
             have hch : ∃ F : Nat -> Nat -> Value × CV, ∀ i j, i < len -> j < l.length -> w.cell? ⟨a'.block, a'.off + (i * l.length + j), none⟩ = some (F i j).1 /\ KV w (l.getD j default) (F i j).1 (F i j).2 :=
              ⟨fun i j => if h : i < len /\ j < l.length then Classical.choose (each i j h.1 h.2) else (default, .top), fun i j hi hj => by
                show w.cell? _ = some (dite _ _ _ : Value × CV).1 /\ KV w _ (dite _ _ _ : Value × CV).1 (dite _ _ _ : Value × CV).2
                rw [dif_pos ⟨hi, hj⟩]; exact Classical.choose_spec (each i j hi hj)⟩
             obtain ⟨F, hF⟩ := hch
             exact one (.s l a' len cap (fun i j => (F i j).1) (fun i j => (F i j).2) h0 hl (Nat.le_trans hl hm) hsp (fun i j hi hj => (hF i j hi hj).1) (fun i j hi hj => (hF i j hi hj).2))
           . have : len = 0 := by omega
             subst this
             exact one (.z l (some a') cap)
     . cases h
   . cases h
theorem open_sh {r : Reach} {b0 f : Nat} {t : TypeId} {v : Value} {d : DataW H} {ps : List MemPlace} {ks : List Sh} {fs : Array Field} (hs : P.underlying t = some (.struct fs)) (hf : shOf P f t = some ks) (hval : Value.okWide P w r b0 t v) (hd : DataW.Trod enc P w base spare held t v d ps) :
 ∃ cs : Array Value, v = .agg cs /\ KVs w ks cs.toList := by
 have hv : ∃ cs, v = .agg cs := by
  unfold Value.okWide at hval
  rw [hs] at hval; obtain ⟨cs, rfl, _⟩ := hval; exact ⟨cs, rfl⟩
 obtain ⟨cs, rfl⟩ := hv
 obtain ⟨fuel, hd⟩ := hd
 exact ⟨cs, rfl, sh_kv f t ks fuel _ _ hf hd⟩
theorem open_shs {r : Reach} {b0 f : Nat} {t : TypeId} {v : Value} {d : DataW H} {ps : List MemPlace} {ks : List Sh} {e : TypeId} (hs : P.underlying t = some (.slice e)) (hf : shOf P f t = some ks) (hval : Value.okWide P w r b0 t v) (hd : DataW.Trod enc P w base spare held t v d ps) :
 ∃ a len cap, v = .slice a len cap /\ KVs w ks [.slice a len cap] := by
 obtain ⟨a, len, cap, rfl⟩ := okWide_slice hs hval
 obtain ⟨fuel, hd⟩ := hd
 exact ⟨a, len, cap, rfl, sh_kv f t ks fuel _ _ hf hd⟩
end
theorem KV.num {w : World} {k : Option IntKind} {v : Value} {x : CV} (h : KV w (.c k) v x) : KOkC k x := by
 cases h with
 | c _ _ h => exact h.cv.1
theorem KV.row {w : World} {e : List Sh} {v : Value} {x : CV} (h : KV w (.s e) v x) : ∃ n f, x = .sl true n e.length f /\ n <= 9223372036854775807 /\ ∀ i j, i < n -> j < e.length -> ∃ u, KV w (e.getD j default) u (f i j) := by
 cases h with
 | z _ a cap => exact ⟨0, _, rfl, Nat.zero_le _, fun i j h => absurd h (Nat.not_lt_zero _)⟩
 | s _ ad len cap U f h0 hl hm hs hc hk => exact ⟨len, f, rfl, hm, fun i j hi hj => ⟨_, hk i j hi hj⟩⟩
theorem KVs.g {w : World} {ss : List Sh} {vs : List Value} (h : KVs w ss vs) : ∃ g : Nat -> CV, (∀ j, j < ss.length -> ∃ u, vs[j]? = some u /\ KV w (ss.getD j default) u (g j)) := by
 have each : ∀ j, j < ss.length -> ∃ x, ∃ u, vs[j]? = some u /\ KV w (ss.getD j default) u x := fun j hj => by
  obtain ⟨u, hu⟩ : ∃ u, vs[j]? = some u := ⟨_, List.getElem?_eq_getElem (by rw [h.1]; exact hj)⟩
  obtain ⟨x, hx⟩ := h.2 j u hu
  exact ⟨x, u, hu, hx⟩
 exact ⟨fun j => if hj : j < ss.length then Classical.choose (each j hj) else .top, fun j hj => by
  show ∃ u, _ /\ KV w _ u (dite _ _ _)
  rw [dif_pos hj]; exact Classical.choose_spec (each j hj)⟩
end Go.Proofs.Ytfaibcgakcmhcaa
namespace Go.Proofs.Ytfaibcgakcmhcaa
open Go.RowKit AX
abbrev shHd : List Sh := [.c (some .i64), .s [.c (some .u8)], .c (some .i64), .c (some .i64), .c (some .i64), .c (some .i64), .c (some .i64), .c (some .i64), .c (some .i64), .c none, .c (some .i64)]
abbrev shSd : List Sh := [.c (some .u64), .c (some .i64), .s shHd]
abbrev shCs : List Sh := [.c (some .u64), .c (some .i64), .s [.c (some .u8)]]
abbrev shL (l : List Sh) : List Sh := [.s l]
theorem kv_k {w : World} {k : IntKind} {v : Value} {x : CV} (h : KV w (.c (some k)) v x) : isK k x = true := by
 obtain ⟨n, hn, _⟩ := h.num
 rw [hn]; simp [isK, kindEq]
theorem kv_b {w : World} {v : Value} {x : CV} (h : KV w (.c none) v x) : isB x = true := by
 obtain ⟨n, hn⟩ := h.num
 rw [hn]; rfl
theorem kv_u64 {w : World} {v : Value} {x : CV} (h : KV w (.c (some .u64)) v x) : 0 <= valI x := by
 obtain ⟨n, hn, hw⟩ := h.num
 rw [hn]
 simp [Lit.wf, IntKind.min, IntKind.max, IntKind.bits, IntKind.signed] at hw
 show 0 <= n
 omega
theorem kv_data {w : World} {v : Value} {x : CV} (h : KV w (.s [.c (some .u8)]) v x) : okD x := by
 obtain ⟨n, f, rfl, _, hk⟩ := h.row
 refine ⟨rfl, fun i hi => ?_⟩
 obtain ⟨u, hu⟩ := hk i 0 hi (by decide)
 exact kv_k hu
theorem kv_held {w : World} {g : Nat -> CV} (h : ∀ j, j < 11 -> ∃ u, KV w (shHd.getD j default) u (g j)) : neH.ok g := by
 obtain ⟨_, h0⟩ := h 0 (by decide)
 obtain ⟨_, h1⟩ := h 1 (by decide)
 obtain ⟨_, h2⟩ := h 2 (by decide)
 obtain ⟨_, h3⟩ := h 3 (by decide)
 obtain ⟨_, h4⟩ := h 4 (by decide)
 obtain ⟨_, h5⟩ := h 5 (by decide)
 obtain ⟨_, h6⟩ := h 6 (by decide)
 obtain ⟨_, h7⟩ := h 7 (by decide)
 obtain ⟨_, h8⟩ := h 8 (by decide)
 obtain ⟨_, h9⟩ := h 9 (by decide)
 obtain ⟨_, h10⟩ := h 10 (by decide)
 refine ⟨?_, kv_data h1⟩
 show (isK .i64 (g 0) && (isK .i64 (g 2) && isK .i64 (g 3) && isK .i64 (g 4) && isK .i64 (g 5) && isK .i64 (g 6) && isK .i64 (g 7) && isK .i64 (g 8) && isB (g 9)) && isK .i64 (g 10)) = true
 rw [kv_k h0, kv_k h2, kv_k h3, kv_k h4, kv_k h5, kv_k h6, kv_k h7, kv_k h8, kv_b h9, kv_k h10]; rfl
theorem kv_helds {w : World} {v : Value} {x : CV} (h : KV w (.s shHd) v x) : okHs x /\ (heldOf x).length <= 9223372036854775807 := by
 obtain ⟨n, f, rfl, hn, hk⟩ := h.row
 refine ⟨⟨rfl, fun i hi => kv_held fun j hj => hk i j hi hj⟩, ?_⟩
 show (toN neH n f).length <= _
 rw [toN_len]; exact hn
theorem kv_seed {w : World} {g : Nat -> CV} (h : ∀ j, j < 3 -> ∃ u, KV w (shSd.getD j default) u (g j)) : neS.ok g /\ 0 <= (neS.rd g).id /\ (neS.rd g).held.length <= 9223372036854775807 := by
 obtain ⟨_, h0⟩ := h 0 (by decide)
 obtain ⟨_, h1⟩ := h 1 (by decide)
 obtain ⟨_, h2⟩ := h 2 (by decide)
 obtain ⟨k1, k2⟩ := kv_helds h2
 refine ⟨⟨?_, k1⟩, kv_u64 h0, k2⟩
 rw [kv_k h0, kv_k h1]; rfl
theorem seeds_arg {w : World} {v : Value} (h : KVs w (shL shSd) [v]) : ∃ L : List Sed, LHp L /\ (FV.e (.c (slN neS L))).rel (fun _ => none) (fun _ => False) (fun _ => False) w v := by
 obtain ⟨x, hx⟩ := h.2 0 v rfl
 have hx : KV w (.s shSd) v x := hx
 have hr := hx.rel
 obtain ⟨n, f, rfl, hn, hk⟩ := hx.row
 have hs := fun i (hi : i < n) => kv_seed fun j hj => hk i j hi hj
 refine ⟨toN neS n f, ⟨⟨fun x hm => ?_, by rw [toN_len]; exact hn⟩, fun x hm => ?_⟩, sl_toN (E := neS) (fun i hi => (hs i hi).1) hr⟩
 . simp only [toN, List.mem_map, List.mem_range] at hm
   obtain ⟨i, hi, rfl⟩ := hm
   exact (hs i hi).2.2
 . simp only [toN, List.mem_map, List.mem_range] at hm
   obtain ⟨i, hi, rfl⟩ := hm
   exact (hs i hi).2.1
theorem cast_arg {w : World} {cs : Array Value} (h : KVs w shCs cs.toList) : ∃ c : Cas, 0 <= c.id /\ ((cN neC).enc c).rel (fun _ => none) (fun _ => False) (fun _ => False) w (.agg cs) := by
 have hlen : cs.size = 3 := by have := h.1; simpa using this
 obtain ⟨g, hg⟩ := h.g
 have hg : ∀ j, j < 3 -> ∃ u, cs.toList[j]? = some u /\ KV w (shCs.getD j default) u (g j) := hg
 obtain ⟨_, _, h0⟩ := hg 0 (by decide)
 obtain ⟨_, _, h1⟩ := hg 1 (by decide)
 obtain ⟨_, _, h2⟩ := hg 2 (by decide)
 have hok : neC.ok g := ⟨by rw [kv_k h0, kv_k h1]; rfl, kv_data h2⟩
 refine ⟨neC.rd g, kv_u64 h0, cs, rfl, hlen, fun i u hu => ?_⟩
 have hi : i < 3 := by rw [<- hlen]; exact (Array.getElem?_eq_some_iff.1 hu).1
 obtain ⟨u', hu', hk⟩ := hg i hi
 have : u' = u := by
  have h2 : cs.toList[i]? = some u := by simpa using hu
  rw [hu'] at h2; injection h2
 subst this
 exact neC.ok_rel g hok i hi _ _ _ _ _ hk.rel
theorem walkMulticastAccepts (a0 : Option Addr) (len0 cap0 : Nat) (a1 : Option Addr) (len1 cap1 : Nat) (z1 : List Int) (a2 : Int) (x3 : Array Value) (a4 : Bool) (a5 : Int) (w : World) (w0 : KVs w (shL shSd) [.slice a0 len0 cap0]) (w1 : IsRow .i64 w a1 len1 cap1 z1) (rr1 : cap1 * 8 <= 140737488351232) (w2 : (Lit.int .i64 a2).wf = true) (w3 : KVs w shCs x3.toList) (w5 : (Lit.int .u32 a5).wf = true) :
 Calls Try.prog 4 #[.slice a0 len0 cap0, .slice a1 len1 cap1, .int .i64 a2, .agg x3, .bool a4, .int .u32 a5] w fun e w' => e = .returned (.bool true) /\ Below w.heap.size w w' := by
 obtain ⟨L, hL, h0⟩ := seeds_arg w0
 obtain ⟨c, hc, h3⟩ := cast_arg w3
 have hd : drawOk a5 := by
  simp [Lit.wf, IntKind.min, IntKind.max, IntKind.bits, IntKind.signed] at w5
  unfold drawOk; omega
 exact walk_of (acceptsL_ok L hL len1 z1 (rng_of w1) a2 c hc a4 a5 hd) (relL_cons h0 (relL_cons (row_rel w1) (relL_cons rfl (relL_cons h3 (relL_cons rfl (relL1 rfl))))))
end Go.Proofs.Ytfaibcgakcmhcaa
