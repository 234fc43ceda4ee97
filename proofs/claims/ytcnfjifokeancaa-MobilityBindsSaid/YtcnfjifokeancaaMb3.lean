/- Package mobility: Bind (by AX2). -/
import Derived.Test.YtcnfjifokeancaaMb2
import Derived.Test.YtcnfjifokeancaaR12f
namespace Go.Proofs.Ytcnfjifokeancaa.AX
open Go.RowKit
set_option linter.unusedVariables false
set_option linter.unusedSimpArgs false
def bindL (now : Int) (b : Bd) : Bool → List Bd → Option (List Bd)
  | placed, [] => some (if placed = true then [] else [b])
  | placed, d :: l =>
    if ipEq d.home b.home = true then (if b.seq ≤ d.seq then none else (bindL now b true l).map ([b] ++ ·))
    else if d.til ≤ now then bindL now b placed l
    else if placed = false ∧ ipC b.home d.home < 0 then (bindL now b true l).map ([b, d] ++ ·)
    else (bindL now b placed l).map ([d] ++ ·)
def minT (now life : Int) : Int := if 1099511627776 < now + life then 1099511627776 else now + life
def bindE (r : Option (List Bd)) : List Bd × Int :=
  match r with
  | none => ([], 16)
  | some out => if out.length ≤ 32 then (out, 0) else ([], 10)
def bindF (l : List Bd) (now : Int) (b : Bd) (life : Int) : List Bd × Int :=
  if bvalid l = true ∧ ipEq b.place b.home = false then
    if vt now = true ∧ sqOk b.seq = true ∧ 0 ≤ life ∧ life ≤ 60 then bindE (bindL now { b with til := minT now life } false l) else ([], 2)
  else ([], 1)
def encBE (r : List Bd × Int) : FV := .tup [.c (slR eBd r.1), .c (.int .i64 r.2)]
theorem map_app {o : Option (List Bd)} {a b : List Bd} : (o.map (b ++ ·)).map (a ++ ·) = o.map ((a ++ b) ++ ·) := by cases o <;> simp
theorem map_nil {o : Option (List Bd)} : o.map (([] : List Bd) ++ ·) = o := by cases o <;> simp
structure BdS (l : List Bd) (b : Bd) (now : Int) where
  i : Nat
  out : List Bd
  placed : Bool
  hi : i ≤ l.length
  hn : out.length ≤ 2 * i
  h : bindL now b false l = (bindL now b placed (l.drop i)).map (out ++ ·)
theorem bv_len {l : List Bd} (h : bvalid l = true) : l.length ≤ 32 := by
  unfold bvalid at h
  simp only [Bool.and_eq_true, decide_eq_true_eq] at h
  exact h.1
set_option maxHeartbeats 8000000 in
set_option maxRecDepth 20000 in
theorem bind_ok (l : List Bd) (now : Int) (b : Bd) (life : Int) (hl : bdL l) (hb : byteOk b.home) (hlife : -9223372036854775808 ≤ life ∧ life ≤ 9223372036854775807) : PureOk Try.prog 23 [(cSl eBd eBd_sz).enc l, (cI .i64).enc now, (cE eBd).enc b, (cI .i64).enc life] (encBE (bindF l now b life)) := by
  have hn := hl.n
  refine pure_intro (wd := 1) (Q := mkQ LM1) (by decide) tysOk (q_of LM1_ok) mixed Try.func23 rfl _ (by show 4 ≤ _; decide) _ ?_
  repeat' (first | (apply And.intro <;> intro hc <;> (first | exact Bool.noConfusion hc | (simp only [decide_eq_true_eq, decide_eq_false_iff_not, Bool.not_eq_true', Bool.not_eq_false', beq_iff_eq, beq_eq_false_iff_ne, bne_iff_ne, bne_eq_false_iff_eq, Bool.true_eq_false, Bool.false_eq_true, ne_eq, not_true_eq_false] at hc <;> first | exact absurd rfl hc | skip) | skip)) | (refine And.intro (by first | exact trivial | decide | omega | (dsimp only; omega) | exact fun _ _ => rfl | exact ⟨by assumption, by first | exact trivial | decide | omega | (dsimp only; omega)⟩) ?_) | (apply And.intro) | (intro s hs; (first | (have hs' : s = bvalid l := hs.trans (by show bvalid (toL eBd l.length (rowF eBd l)) = _; rw [toL_bd])) | (have hs' : s = vt now := hs) | (have hs' : s = sqOk b.seq := hs)); clear hs; subst hs'))
  all_goals first
    | (show bdL (toL eBd l.length (rowF eBd l)); rw [toL_bd]; exact hl)
    | (have e : bindF l now b life = ([], 1) := by
         first
           | (have h1 : bvalid l = false := by assumption
              simp [bindF, h1])
           | (have h1 : ipEq b.place b.home = true := by assumption
              simp [bindF, h1])
       rw [e]
       exact Done.mk (leF_tup ⟨leC_nils_sl rfl, leC_int rfl, trivial⟩))
    | (have e : bindF l now b life = ([], 2) := by
         have h0 : ipEq b.place b.home = false := by assumption
         have h1 : bvalid l = true := by assumption
         rw [bindF, if_pos ⟨h1, h0⟩, if_neg]
         rintro ⟨g1, g2, g3, g4⟩
         first
           | omega
           | (have q : vt now = false := by assumption
              rw [g1] at q; cases q)
           | (have q : sqOk b.seq = false := by assumption
              rw [g2] at q; cases q)
       rw [e]
       exact Done.mk (leF_tup ⟨leC_nils_sl rfl, leC_int rfl, trivial⟩))
    | skip
  have h0 : ipEq b.place b.home = false := by assumption
  have h1 : bvalid l = true := by assumption
  have h2 : vt now = true := by assumption
  have h3 : sqOk b.seq = true := by assumption
  have h4 : ¬ life < 0 := by assumption
  have h5 : ¬ 60 < life := by assumption
  have hvt : 0 ≤ now ∧ now ≤ 1099511627776 := by
    unfold vt at h2
    simp only [Bool.and_eq_true, decide_eq_true_eq] at h2
    exact h2
  have h32 := bv_len h1
  have e : bindF l now b life = bindE (bindL now { b with til := minT now life } false l) := by
    rw [bindF, if_pos ⟨h1, h0⟩, if_pos ⟨h2, h3, by omega, by omega⟩]
  rw [e]
  have et : (if 1099511627776 < IntKind.i64.wrap (now + life) then 1099511627776 else IntKind.i64.wrap (now + life)) = minT now life := by
    rw [IntWalk.i64_in _ (by omega)]; rfl
  generalize hb' : ({ b with til := minT now life } : Bd) = b'
  have b1 : b'.home = b.home := by rw [← hb']
  have hb2 : byteOk b'.home := by rw [b1]; exact hb
  clear h0 h1 h2 h3
  refine loop_intro (mono_of LM1_ok) (fun s : BdS l b' now => (⟨[(0, one (.sl false l.length eBd.sz (rowF eBd l))), (1, one (.int .i64 now)), (6, one (.ptr 0 0 0 false)), (10, one (.os 7 0 s.out.length)), (11, one (.bool s.placed)), (46, one (.sl false l.length eBd.sz (rowF eBd l))), (47, one (.int .i64 (l.length : Int))), (48, one (.int .i64 (s.i : Int)))],
    [(0, some ⟨51, 1, 34, true, fun _ => eBd.cell b'⟩), (7, some (ents eBd 51 s.out))], 45⟩ : Hd)) (fun s => l.length - s.i) (fun _ => rfl) ?_ ⟨0, [], false, by omega, by simp, map_nil.symm⟩ [(7, none)] ?_
  · rintro ⟨i, out, placed, hi, hno, hv⟩
    dsimp only at hi hno hv ⊢
    clear et hb' b1 e
    repeat' (first | (apply And.intro <;> intro hc <;> (first | exact Bool.noConfusion hc | (simp only [decide_eq_true_eq, decide_eq_false_iff_not, Bool.not_eq_true', Bool.not_eq_false', beq_iff_eq, beq_eq_false_iff_ne, bne_iff_ne, bne_eq_false_iff_eq, Bool.true_eq_false, Bool.false_eq_true] at hc) | skip)) | (refine And.intro (by first | exact trivial | decide | omega | (dsimp only; omega) | exact fun _ _ => rfl) ?_) | (apply And.intro) | (intro s hs))
    all_goals first
      | exact home_ok (s := s) (by omega) (by omega)
      | (dsimp only; refine byL_home hb2 (fun k hk => ?_); exact home_cell (by omega) hk)
      | (dsimp only; refine byL_home (hl.b _ (memB (show i < l.length by omega))).1 (fun k hk => ?_); exact home_cell (by omega) hk)
      | (have hlt : i < l.length := by omega
         have hE : ipEq (l.getD i default).home b'.home = true := by assumption
         first
           | (have hG : b'.seq ≤ (l.getD i default).seq := by assumption
              have e : bindL now b' false l = none := by rw [hv, drop_at hlt, bindL, if_pos hE, if_pos hG]; rfl
              rw [e]
              exact Done.mk (leF_tup ⟨leC_nils_sl rfl, leC_int rfl, trivial⟩))
           | (have hG : ¬ b'.seq ≤ (l.getD i default).seq := by assumption
              refine ⟨⟨i + 1, out ++ [b'], true, by omega, by simp; omega, ?_⟩, [(7, some 63)], by dsimp only; omega, rfl, ?_, ?_⟩
              · rw [hv, drop_at hlt, bindL, if_pos hE, if_neg hG, map_app]
              · repeat' (first | exact trivial | exact rfl | exact leF_ptr rfl | exact leF_int rfl | exact leF_bool rfl | exact leF_cl (cl_slB _ _) | exact leF_cl (cl_slR _ _) | exact leF_c (leC_os rfl rfl) | refine leF_int ?_ | refine leF_bool ?_ | exact leN_varA (fun _ _ => (Elem.flat _ _ _).le) | exact leN_varA (fun _ _ => leC_top) | apply And.intro)
                · exact leF_c (leC_os rfl (by simp))
                · (dsimp only; rw [IntWalk.i64_in _ (by omega)]; omega)
              · repeat' (first | exact trivial | exact rfl | exact leF_ptr rfl | exact leF_int rfl | exact leF_bool rfl | exact leF_cl (cl_slB _ _) | exact leF_cl (cl_slR _ _) | exact leF_c (leC_os rfl rfl) | refine leF_int ?_ | refine leF_bool ?_ | exact leN_varA (fun _ _ => (Elem.flat _ _ _).le) | exact leN_varA (fun _ _ => leC_top) | apply And.intro)
                (change LeN _ _ _; refine leN_snoc (E := eBd) (L := out) (x := b') rfl (fun i hi j hj => selC_in (Nat.ble_eq_true_of_le hi) (Elem.flat _ _ _).le) ?_; repeat' (first | exact trivial | (refine selC_out (blt_self _) ?_; rw [Nat.sub_self]; first | exact leC_int rfl | exact leC_bool rfl | exact leC_bool (by assumption)) | apply And.intro))))
      | (have hlt : i < l.length := by omega
         have hE : ¬ ipEq (l.getD i default).home b'.home = true := by
           have q : ipEq (l.getD i default).home b'.home = false := by assumption
           rw [q]; decide
         first
           | (have hT : (l.getD i default).til ≤ now := by assumption
              refine ⟨⟨i + 1, out, placed, by omega, by omega, ?_⟩, [], by dsimp only; omega, rfl, ?_, ?_⟩
              · rw [hv, drop_at hlt, bindL, if_neg hE, if_pos hT]
              · repeat' (first | exact trivial | exact rfl | exact leF_ptr rfl | exact leF_int rfl | exact leF_bool rfl | exact leF_cl (cl_slB _ _) | exact leF_cl (cl_slR _ _) | exact leF_c (leC_os rfl rfl) | refine leF_int ?_ | refine leF_bool ?_ | exact leN_varA (fun _ _ => (Elem.flat _ _ _).le) | exact leN_varA (fun _ _ => leC_top) | apply And.intro)
                (dsimp only; rw [IntWalk.i64_in _ (by omega)]; omega)
              · repeat' (first | exact trivial | exact rfl | exact leF_ptr rfl | exact leF_int rfl | exact leF_bool rfl | exact leF_cl (cl_slB _ _) | exact leF_cl (cl_slR _ _) | exact leF_c (leC_os rfl rfl) | refine leF_int ?_ | refine leF_bool ?_ | exact leN_varA (fun _ _ => (Elem.flat _ _ _).le) | exact leN_varA (fun _ _ => leC_top) | apply And.intro)
                exact leN_ents)
           | (have hT : ¬ (l.getD i default).til ≤ now := by assumption
              first
                | (have hP : placed = false := by assumption
                   have q : s = ipC b'.home (l.getD i default).home := by rw [hs]; dsimp only; refine cmp_home (fun k hk => ?_) (fun k hk => ?_) <;> exact home_cell (by omega) hk
                   first
                     | (have hC : s < 0 := by assumption
                        refine ⟨⟨i + 1, out ++ [b', l.getD i default], true, by omega, by simp; omega, ?_⟩, [(7, some 78)], by dsimp only; omega, rfl, ?_, ?_⟩
                        · rw [hv, drop_at hlt, bindL, if_neg hE, if_neg hT, if_pos ⟨hP, by omega⟩, map_app]
                        · repeat' (first | exact trivial | exact rfl | exact leF_ptr rfl | exact leF_int rfl | exact leF_bool rfl | exact leF_cl (cl_slB _ _) | exact leF_cl (cl_slR _ _) | exact leF_c (leC_os rfl rfl) | refine leF_int ?_ | refine leF_bool ?_ | exact leN_varA (fun _ _ => (Elem.flat _ _ _).le) | exact leN_varA (fun _ _ => leC_top) | apply And.intro)
                          · exact leF_c (leC_os rfl (by simp))
                          · (dsimp only; rw [IntWalk.i64_in _ (by omega)]; omega)
                        · repeat' (first | exact trivial | exact rfl | exact leF_ptr rfl | exact leF_int rfl | exact leF_bool rfl | exact leF_cl (cl_slB _ _) | exact leF_cl (cl_slR _ _) | exact leF_c (leC_os rfl rfl) | refine leF_int ?_ | refine leF_bool ?_ | exact leN_varA (fun _ _ => (Elem.flat _ _ _).le) | exact leN_varA (fun _ _ => leC_top) | apply And.intro)
                          change LeN _ _ _
                          refine leN_snoc2 (E := eBd) (L := out) (x := b') (y := l.getD i default) rfl (fun q hq j hj => selC_in (blt_lt (by omega)) (selC_in (blt_lt hq) (Elem.flat _ _ _).le)) ?_ ?_
                          · repeat' (first | exact trivial | (refine selC_in (blt_lt (by omega)) (selC_out (blt_self _) ?_); rw [Nat.sub_self]; exact leC_int rfl) | apply And.intro)
                          · repeat' (first | exact trivial | (refine selC_out (blt_self _) ?_; rw [Nat.sub_self]; exact leC_int rfl) | apply And.intro))
                     | (have hC : ¬ s < 0 := by assumption
                        refine ⟨⟨i + 1, out ++ [l.getD i default], placed, by omega, by simp; omega, ?_⟩, [(7, some 72)], by dsimp only; omega, rfl, ?_, ?_⟩
                        · rw [hv, drop_at hlt, bindL, if_neg hE, if_neg hT, if_neg (fun h => hC (by omega)), map_app]
                        · repeat' (first | exact trivial | exact rfl | exact leF_ptr rfl | exact leF_int rfl | exact leF_bool rfl | exact leF_cl (cl_slB _ _) | exact leF_cl (cl_slR _ _) | exact leF_c (leC_os rfl rfl) | refine leF_int ?_ | refine leF_bool ?_ | exact leN_varA (fun _ _ => (Elem.flat _ _ _).le) | exact leN_varA (fun _ _ => leC_top) | apply And.intro)
                          · exact leF_c (leC_os rfl (by simp))
                          · (dsimp only; rw [IntWalk.i64_in _ (by omega)]; omega)
                        · repeat' (first | exact trivial | exact rfl | exact leF_ptr rfl | exact leF_int rfl | exact leF_bool rfl | exact leF_cl (cl_slB _ _) | exact leF_cl (cl_slR _ _) | exact leF_c (leC_os rfl rfl) | refine leF_int ?_ | refine leF_bool ?_ | exact leN_varA (fun _ _ => (Elem.flat _ _ _).le) | exact leN_varA (fun _ _ => leC_top) | apply And.intro)
                          (change LeN _ _ _; refine leN_snoc (E := eBd) (L := out) (x := l.getD i default) rfl (fun i hi j hj => selC_in (Nat.ble_eq_true_of_le hi) (Elem.flat _ _ _).le) ?_; repeat' (first | exact trivial | (refine selC_out (blt_self _) ?_; rw [Nat.sub_self]; first | exact leC_int rfl | exact leC_bool rfl | exact leC_bool (by assumption)) | apply And.intro))))
                | (have hP : placed = true := by assumption
                   refine ⟨⟨i + 1, out ++ [l.getD i default], placed, by omega, by simp; omega, ?_⟩, [(7, some 72)], by dsimp only; omega, rfl, ?_, ?_⟩
                   · rw [hv, drop_at hlt, bindL, if_neg hE, if_neg hT, if_neg (fun h => by rw [hP] at h; cases h.1), map_app]
                   · repeat' (first | exact trivial | exact rfl | exact leF_ptr rfl | exact leF_int rfl | exact leF_bool rfl | exact leF_cl (cl_slB _ _) | exact leF_cl (cl_slR _ _) | exact leF_c (leC_os rfl rfl) | refine leF_int ?_ | refine leF_bool ?_ | exact leN_varA (fun _ _ => (Elem.flat _ _ _).le) | exact leN_varA (fun _ _ => leC_top) | apply And.intro)
                     · exact leF_c (leC_os rfl (by simp))
                     · (dsimp only; rw [IntWalk.i64_in _ (by omega)]; omega)
                   · repeat' (first | exact trivial | exact rfl | exact leF_ptr rfl | exact leF_int rfl | exact leF_bool rfl | exact leF_cl (cl_slB _ _) | exact leF_cl (cl_slR _ _) | exact leF_c (leC_os rfl rfl) | refine leF_int ?_ | refine leF_bool ?_ | exact leN_varA (fun _ _ => (Elem.flat _ _ _).le) | exact leN_varA (fun _ _ => leC_top) | apply And.intro)
                     (change LeN _ _ _; refine leN_snoc (E := eBd) (L := out) (x := l.getD i default) rfl (fun i hi j hj => selC_in (Nat.ble_eq_true_of_le hi) (Elem.flat _ _ _).le) ?_; repeat' (first | exact trivial | (refine selC_out (blt_self _) ?_; rw [Nat.sub_self]; first | exact leC_int rfl | exact leC_bool rfl | exact leC_bool (by assumption)) | apply And.intro)))))
      | (have hil : i = l.length := by omega
         first
           | (have hP : placed = false := by assumption
              have e : bindL now b' false l = some (out ++ [b']) := by rw [hv, hil, List.drop_length, bindL, hP]; rfl
              rw [e]
              first
                | (have hF : (32 : Int) < ((out.length + 1 : Nat) : Int) := by assumption
                   rw [show bindE (some (out ++ [b'])) = ([], 10) from if_neg (by simp; omega)]
                   exact Done.mk (leF_tup ⟨leC_nils_sl rfl, leC_int rfl, trivial⟩))
                | (have hF : ¬ (32 : Int) < ((out.length + 1 : Nat) : Int) := by assumption
                   rw [show bindE (some (out ++ [b'])) = (out ++ [b'], 0) from if_pos (by simp; omega)]
                   refine Done.mk (leF_tup ⟨leC_fin (t := 51) rfl rfl (by simp) ?_, leC_int rfl, trivial⟩)
                   (change LeN _ _ _; refine leN_snoc (E := eBd) (L := out) (x := b') rfl (fun i hi j hj => selC_in (Nat.ble_eq_true_of_le hi) (Elem.flat _ _ _).le) ?_; repeat' (first | exact trivial | (refine selC_out (blt_self _) ?_; rw [Nat.sub_self]; first | exact leC_int rfl | exact leC_bool rfl | exact leC_bool (by assumption)) | apply And.intro))))
           | (have hP : placed = true := by assumption
              have e : bindL now b' false l = some out := by rw [hv, hil, List.drop_length, bindL, hP]; simp
              rw [e]
              first
                | (have hF : (32 : Int) < (out.length : Int) := by assumption
                   rw [show bindE (some out) = ([], 10) from if_neg (by omega)]
                   exact Done.mk (leF_tup ⟨leC_nils_sl rfl, leC_int rfl, trivial⟩))
                | (have hF : ¬ (32 : Int) < (out.length : Int) := by assumption
                   rw [show bindE (some out) = (out, 0) from if_pos (by omega)]
                   exact Done.mk (leF_tup ⟨leC_row_fin rfl rfl, leC_int rfl, trivial⟩))))
  · refine ⟨rfl, ?_, ?_⟩
    · repeat' (first | exact trivial | exact rfl | exact leF_ptr rfl | exact leF_int rfl | exact leF_bool rfl | exact leF_cl (cl_slB _ _) | exact leF_cl (cl_slR _ _) | exact leF_c (leC_os rfl rfl) | refine leF_int ?_ | refine leF_bool ?_ | exact leN_varA (fun _ _ => (Elem.flat _ _ _).le) | exact leN_varA (fun _ _ => leC_top) | apply And.intro)
      exact leF_c (leC_nils_os rfl)
    · repeat' (first | exact trivial | exact rfl | exact leF_ptr rfl | exact leF_int rfl | exact leF_bool rfl | exact leF_cl (cl_slB _ _) | exact leF_cl (cl_slR _ _) | exact leF_c (leC_os rfl rfl) | refine leF_int ?_ | refine leF_bool ?_ | exact leN_varA (fun _ _ => (Elem.flat _ _ _).le) | exact leN_varA (fun _ _ => leC_top) | apply And.intro)
      · subst hb'
        refine leN_var ?_
        repeat' (first | exact trivial | exact leC_int rfl | exact leC_int et | apply And.intro)
      · exact eBd_sz
end Go.Proofs.Ytcnfjifokeancaa.AX
