/- Layer 2 by AX2: the Internet checksum of the program and of the reference. -/
import Derived.Test.YtjknkfjhcapocaaOc
namespace Go.Proofs.Ytjknkfjhcapocaa.AX
open Go.RowKit
set_option linter.unusedVariables false
set_option linter.unusedSimpArgs false
def toU (l : List Int) : List UInt8 := l.map fun x => UInt8.ofNat x.toNat
theorem toU_app (l m : List Int) : toU (l ++ m) = toU l ++ toU m := by simp [toU]
theorem toU_len (l : List Int) : (toU l).length = l.length := by simp [toU]
theorem u8n {c : Int} (h : 0 ≤ c ∧ c < 256) : ((UInt8.ofNat c.toNat).toNat : Int) = c := by
  rw [UInt8.toNat_ofNat', Nat.mod_eq_of_lt (by omega)]; omega
def totI (l : List Int) : Nat := tot true (toU l)
def inetF (l : List Int) : Int := 65535 - (foldN (totI l) : Int)
theorem totI_le (l : List Int) : totI l ≤ 32768 * l.length + 32768 := by have := tot_le (toU l); rw [toU_len] at this; exact this
theorem side_toU (l : List Int) : side true (toU l) = decide (l.length % 2 = 0) := by
  unfold side
  rw [toU_len]
  rcases Nat.mod_two_eq_zero_or_one l.length with h | h <;> simp [h]
theorem totI_snoc (l : List Int) (c : Int) (hc : 0 ≤ c ∧ c < 256) : (totI (l ++ [c]) : Int) = totI l + if l.length % 2 = 0 then c * 256 else c := by
  unfold totI
  rw [toU_app, show toU [c] = [UInt8.ofNat c.toNat] from rfl, tot_snoc, side_toU]
  have := u8n hc
  by_cases h : l.length % 2 = 0
  · simp [h]; omega
  · simp [h]; omega
structure FdS (n : Nat) where
  x : Nat
  hx : x ≤ n
  h : foldN x = foldN n
set_option maxHeartbeats 4000000 in
theorem fold_ok (n : Nat) (hn : n ≤ 4611686018427387904) : PureOk Try.prog 143 [(cI .u64).enc n] ((cI .u16).enc (foldN n)) := by
  refine pure_intro (wd := 1) (Q := mkQ LE0) (by decide) tysOk (q_of LE0_ok) mixed Try.func143 rfl _ (by show 1 ≤ _; decide) _ ?_
  repeat' (first | (apply And.intro <;> intro hc <;> (first | exact Bool.noConfusion hc | (simp only [decide_eq_true_eq, decide_eq_false_iff_not, Bool.not_eq_true', Bool.not_eq_false', beq_iff_eq, beq_eq_false_iff_ne, bne_iff_ne, bne_eq_false_iff_eq, Bool.true_eq_false, Bool.false_eq_true] at hc) | skip)) | (refine And.intro (by first | exact trivial | decide | omega | (dsimp only; omega) | exact fun _ _ => rfl) ?_) | (apply And.intro) | (intro s hs))
  refine loop_intro (mono_of LE0_ok) (fun s : FdS n => (⟨[(0, one (.int .u64 (s.x : Int)))], [], 0⟩ : Hd)) (fun s => s.x) (fun _ => rfl) ?_ ⟨n, Nat.le_refl _, rfl⟩ [] ?_
  · rintro ⟨x, hx, h⟩
    dsimp only at hx h ⊢
    repeat' (first | (apply And.intro <;> intro hc <;> (first | exact Bool.noConfusion hc | (simp only [decide_eq_true_eq, decide_eq_false_iff_not, Bool.not_eq_true', Bool.not_eq_false', beq_iff_eq, beq_eq_false_iff_ne, bne_iff_ne, bne_eq_false_iff_eq, Bool.true_eq_false, Bool.false_eq_true] at hc) | skip)) | (refine And.intro (by first | exact trivial | decide | omega | (dsimp only; omega) | exact fun _ _ => rfl) ?_) | (apply And.intro) | (intro s hs))
    · have hc' : 65535 < x := by omega
      refine ⟨⟨x % 65536 + x / 65536, by omega, by rw [foldN_step hc']; exact h⟩, [], by dsimp only; omega, rfl, ?_, ?_⟩
      · repeat' (first | exact trivial | exact rfl | exact leF_ptr rfl | exact leF_int rfl | exact leF_bool rfl | exact leF_cl (cl_slB _ _) | exact leF_cl (cl_slR _ _) | exact leF_cl (cl_ll _ _) | exact leF_c (leC_os rfl rfl) | refine leF_int ?_ | refine leF_bool ?_ | exact leN_varA (fun _ _ => (Elem.flat _ _ _).le) | exact leN_varA (fun _ _ => leC_top) | apply And.intro)
        dsimp only
        rw [IntWalk.u64_in ((x : Int).tdiv 65536) (by rw [Int.tdiv_eq_ediv_of_nonneg (by omega)]; omega), IntWalk.u64_in _ (by rw [Int.tmod_eq_emod_of_nonneg (by omega), Int.tdiv_eq_ediv_of_nonneg (by omega)]; omega), Int.tmod_eq_emod_of_nonneg (by omega), Int.tdiv_eq_ediv_of_nonneg (by omega)]
        omega
      · repeat' (first | exact trivial | exact rfl | exact leF_ptr rfl | exact leF_int rfl | exact leF_bool rfl | exact leF_cl (cl_slB _ _) | exact leF_cl (cl_slR _ _) | exact leF_cl (cl_ll _ _) | exact leF_c (leC_os rfl rfl) | refine leF_int ?_ | refine leF_bool ?_ | exact leN_varA (fun _ _ => (Elem.flat _ _ _).le) | exact leN_varA (fun _ _ => leC_top) | apply And.intro)
    · refine Done.mk (leF_int ?_)
      rw [← h, foldN_small (by omega)]
      exact IntWalk.u16_in _ (by omega)
  · refine ⟨rfl, ?_, ?_⟩
    · repeat' (first | exact trivial | exact rfl | exact leF_ptr rfl | exact leF_int rfl | exact leF_bool rfl | exact leF_cl (cl_slB _ _) | exact leF_cl (cl_slR _ _) | exact leF_cl (cl_ll _ _) | exact leF_c (leC_os rfl rfl) | refine leF_int ?_ | refine leF_bool ?_ | exact leN_varA (fun _ _ => (Elem.flat _ _ _).le) | exact leN_varA (fun _ _ => leC_top) | apply And.intro)
    · repeat' (first | exact trivial | exact rfl | exact leF_ptr rfl | exact leF_int rfl | exact leF_bool rfl | exact leF_cl (cl_slB _ _) | exact leF_cl (cl_slR _ _) | exact leF_cl (cl_ll _ _) | exact leF_c (leC_os rfl rfl) | refine leF_int ?_ | refine leF_bool ?_ | exact leN_varA (fun _ _ => (Elem.flat _ _ _).le) | exact leN_varA (fun _ _ => leC_top) | apply And.intro)
set_option maxHeartbeats 4000000 in
theorem rfold_ok (n : Nat) (hn : n ≤ 4611686018427387904) : PureOk Try.prog 145 [(cI .i64).enc n] ((cI .u16).enc (foldN n)) := by
  refine pure_intro (wd := 1) (Q := mkQ LE0) (by decide) tysOk (q_of LE0_ok) mixed Try.func145 rfl _ (by show 1 ≤ _; decide) _ ?_
  repeat' (first | (apply And.intro <;> intro hc <;> (first | exact Bool.noConfusion hc | (simp only [decide_eq_true_eq, decide_eq_false_iff_not, Bool.not_eq_true', Bool.not_eq_false', beq_iff_eq, beq_eq_false_iff_ne, bne_iff_ne, bne_eq_false_iff_eq, Bool.true_eq_false, Bool.false_eq_true] at hc) | skip)) | (refine And.intro (by first | exact trivial | decide | omega | (dsimp only; omega) | exact fun _ _ => rfl) ?_) | (apply And.intro) | (intro s hs))
  refine loop_intro (mono_of LE0_ok) (fun s : FdS n => (⟨[(0, one (.int .i64 (s.x : Int)))], [], 0⟩ : Hd)) (fun s => s.x) (fun _ => rfl) ?_ ⟨n, Nat.le_refl _, rfl⟩ [] ?_
  · rintro ⟨x, hx, h⟩
    dsimp only at hx h ⊢
    repeat' (first | (apply And.intro <;> intro hc <;> (first | exact Bool.noConfusion hc | (simp only [decide_eq_true_eq, decide_eq_false_iff_not, Bool.not_eq_true', Bool.not_eq_false', beq_iff_eq, beq_eq_false_iff_ne, bne_iff_ne, bne_eq_false_iff_eq, Bool.true_eq_false, Bool.false_eq_true] at hc) | skip)) | (refine And.intro (by first | exact trivial | decide | omega | (dsimp only; omega) | exact fun _ _ => rfl) ?_) | (apply And.intro) | (intro s hs))
    · have hc' : 65535 < x := by omega
      refine ⟨⟨x % 65536 + x / 65536, by omega, by rw [foldN_step hc']; exact h⟩, [], by dsimp only; omega, rfl, ?_, ?_⟩
      · repeat' (first | exact trivial | exact rfl | exact leF_ptr rfl | exact leF_int rfl | exact leF_bool rfl | exact leF_cl (cl_slB _ _) | exact leF_cl (cl_slR _ _) | exact leF_cl (cl_ll _ _) | exact leF_c (leC_os rfl rfl) | refine leF_int ?_ | refine leF_bool ?_ | exact leN_varA (fun _ _ => (Elem.flat _ _ _).le) | exact leN_varA (fun _ _ => leC_top) | apply And.intro)
        dsimp only
        rw [IntWalk.i64_in ((x : Int).tdiv 65536) (by rw [Int.tdiv_eq_ediv_of_nonneg (by omega)]; omega), IntWalk.i64_in _ (by rw [Int.tmod_eq_emod_of_nonneg (by omega), Int.tdiv_eq_ediv_of_nonneg (by omega)]; omega), Int.tmod_eq_emod_of_nonneg (by omega), Int.tdiv_eq_ediv_of_nonneg (by omega)]
        omega
      · repeat' (first | exact trivial | exact rfl | exact leF_ptr rfl | exact leF_int rfl | exact leF_bool rfl | exact leF_cl (cl_slB _ _) | exact leF_cl (cl_slR _ _) | exact leF_cl (cl_ll _ _) | exact leF_c (leC_os rfl rfl) | refine leF_int ?_ | refine leF_bool ?_ | exact leN_varA (fun _ _ => (Elem.flat _ _ _).le) | exact leN_varA (fun _ _ => leC_top) | apply And.intro)
    · refine Done.mk (leF_int ?_)
      rw [← h, foldN_small (by omega)]
      exact IntWalk.u16_in _ (by omega)
  · refine ⟨rfl, ?_, ?_⟩
    · repeat' (first | exact trivial | exact rfl | exact leF_ptr rfl | exact leF_int rfl | exact leF_bool rfl | exact leF_cl (cl_slB _ _) | exact leF_cl (cl_slR _ _) | exact leF_cl (cl_ll _ _) | exact leF_c (leC_os rfl rfl) | refine leF_int ?_ | refine leF_bool ?_ | exact leN_varA (fun _ _ => (Elem.flat _ _ _).le) | exact leN_varA (fun _ _ => leC_top) | apply And.intro)
    · repeat' (first | exact trivial | exact rfl | exact leF_ptr rfl | exact leF_int rfl | exact leF_bool rfl | exact leF_cl (cl_slB _ _) | exact leF_cl (cl_slR _ _) | exact leF_cl (cl_ll _ _) | exact leF_c (leC_os rfl rfl) | refine leF_int ?_ | refine leF_bool ?_ | exact leN_varA (fun _ _ => (Elem.flat _ _ _).le) | exact leN_varA (fun _ _ => leC_top) | apply And.intro)
/-! ### The sum of the words of parts -/
def hiB (l : List Int) : Bool := decide (l.length % 2 = 0)
theorem hiB_snoc (l : List Int) (c : Int) : hiB (l ++ [c]) = !hiB l := by
  unfold hiB
  rw [List.length_append, List.length_singleton]
  rcases Nat.mod_two_eq_zero_or_one l.length with h | h
  · have : (l.length + 1) % 2 = 1 := by omega
    simp [h, this]
  · have : (l.length + 1) % 2 = 0 := by omega
    simp [h, this]
theorem totI_hi (l : List Int) (c : Int) (hc : 0 ≤ c ∧ c < 256) (h : hiB l = true) : (totI (l ++ [c]) : Int) = totI l + c * 256 := by
  rw [totI_snoc l c hc, if_pos (by simpa [hiB] using h)]
theorem totI_lo (l : List Int) (c : Int) (hc : 0 ≤ c ∧ c < 256) (h : hiB l = false) : (totI (l ++ [c]) : Int) = totI l + c := by
  rw [totI_snoc l c hc, if_neg (by simpa [hiB] using h)]
theorem flat_take {L : List (List Int)} {k : Nat} (h : k < L.length) : (L.take (k + 1)).flatten = (L.take k).flatten ++ L.getD k [] := by
  rw [List.take_succ_eq_append_getElem h, List.flatten_append, List.getD_eq_getElem?_getD, List.getElem?_eq_getElem h]
  simp
structure BLL (L : List (List Int)) : Prop where
  m : ∀ l ∈ L, BL l
theorem BLL.get {L : List (List Int)} (h : BLL L) (k : Nat) : BL (L.getD k []) := by
  rcases Nat.lt_or_ge k L.length with hi | hi
  · rw [List.getD_eq_getElem?_getD, List.getElem?_eq_getElem hi]; exact h.m _ (List.getElem_mem hi)
  · rw [List.getD_eq_getElem?_getD, List.getElem?_eq_none hi]; exact BL.nil
theorem BLL.flat {L : List (List Int)} (h : BLL L) : BL L.flatten := ⟨fun x hx => by
  obtain ⟨l, hl, hxl⟩ := List.mem_flatten.1 hx
  exact (h.m l hl).m x hxl⟩
theorem flat_le (L : List (List Int)) (k : Nat) : (L.take k).flatten.length ≤ L.flatten.length := by
  have h : L.flatten = (L.take k).flatten ++ (L.drop k).flatten := by rw [← List.flatten_append, List.take_append_drop]
  rw [h]; simp
structure TtS (L : List (List Int)) (k : Nat) where
  i : Nat
  hi : i ≤ (L.getD k []).length
set_option maxHeartbeats 8000000 in
set_option maxRecDepth 20000 in
theorem total_ok (L : List (List Int)) (hL : BLL L) (hn : L.length ≤ 4611686018427387904) (hf : L.flatten.length ≤ 281474976710000) : PureOk Try.prog 144 [(cLL eB eB_sz).enc L] ((cI .u64).enc (totI L.flatten)) := by
  refine pure_intro (wd := 1) (Q := mkQ LE0) (by decide) tysOk (q_of LE0_ok) mixed Try.func144 rfl _ (by show 1 ≤ _; decide) _ ?_
  repeat' (first | (apply And.intro <;> intro hc <;> (first | exact Bool.noConfusion hc | (simp only [decide_eq_true_eq, decide_eq_false_iff_not, Bool.not_eq_true', Bool.not_eq_false', beq_iff_eq, beq_eq_false_iff_ne, bne_iff_ne, bne_eq_false_iff_eq, Bool.true_eq_false, Bool.false_eq_true] at hc) | skip)) | (refine And.intro (by first | exact trivial | decide | omega | (dsimp only; omega) | exact fun _ _ => rfl) ?_) | (apply And.intro) | (intro s hs))
  refine loop_intro (mono_of LE0_ok) (fun s : {k : Nat // k ≤ L.length} => (⟨[(3, one (.int .u64 (totI (L.take s.1).flatten))), (4, one (.bool (hiB (L.take s.1).flatten))), (9, one (.sl false L.length 1 (rowFF eB L))), (10, one (.int .i64 (L.length : Int))), (11, one (.int .i64 (s.1 : Int)))], [], 0⟩ : Hd)) (fun s => L.length - s.1) (fun _ => rfl) ?_ ⟨0, by omega⟩ [] ?_
  · rintro ⟨k, hk⟩
    dsimp only at hk ⊢
    repeat' (first | (apply And.intro <;> intro hc <;> (first | exact Bool.noConfusion hc | (simp only [decide_eq_true_eq, decide_eq_false_iff_not, Bool.not_eq_true', Bool.not_eq_false', beq_iff_eq, beq_eq_false_iff_ne, bne_iff_ne, bne_eq_false_iff_eq, Bool.true_eq_false, Bool.false_eq_true] at hc) | skip)) | (refine And.intro (by first | exact trivial | decide | omega | (dsimp only; omega) | exact fun _ _ => rfl) ?_) | (apply And.intro) | (intro s hs))
    · have hk' : k < L.length := by omega
      obtain ⟨w, hw⟩ : ∃ w, L.getD k [] = w := ⟨_, rfl⟩
      have hwB : BL w := by rw [← hw]; exact hL.get k
      obtain ⟨Q, hQ⟩ : ∃ Q, Q = (L.take k).flatten := ⟨_, rfl⟩
      have hQw : Q.length + w.length ≤ 281474976710000 := by
        have h1 := flat_le L (k + 1)
        rw [flat_take hk', List.length_append, hw, ← hQ] at h1
        omega
      rw [← hQ]
      refine loop_intro (mono_of LE0_ok) (fun s : {i : Nat // i ≤ w.length} => (⟨[(3, one (.int .u64 (totI (Q ++ w.take s.1)))), (4, one (.bool (hiB (Q ++ w.take s.1)))), (9, one (.sl false L.length 1 (rowFF eB L))), (10, one (.int .i64 (L.length : Int))), (11, one (.int .i64 (k : Int))), (15, one (.sl false w.length eB.sz (rowF eB w))), (16, one (.int .i64 (w.length : Int))), (17, one (.int .i64 (s.1 : Int)))], [], 0⟩ : Hd)) (fun s => w.length - s.1) (fun _ => rfl) ?_ ⟨0, by omega⟩ [] ?_
      · rintro ⟨i, hi⟩
        dsimp only at hi ⊢
        have hx := hwB.get i
        obtain ⟨c, hcc⟩ : ∃ c, c = w.getD i default := ⟨_, rfl⟩
        rw [← hcc] at hx
        have hle := totI_le (Q ++ w.take i)
        have hlen : (Q ++ w.take i).length ≤ 281474976710000 := by rw [List.length_append, List.length_take]; omega
        have hstep : i < w.length → Q ++ w.take (i + 1) = (Q ++ w.take i) ++ [c] := fun h => by rw [take_snocI h, ← List.append_assoc, hcc]
        have e1 : IntKind.u64.wrap c = c := IntWalk.u64_in _ (by omega)
        have e2 : shlI .u64 (IntKind.u64.wrap c) 8 = c * 256 := by rw [e1]; exact shl8 c (by omega)
        repeat' (first | (apply And.intro <;> intro hc <;> (first | exact Bool.noConfusion hc | (simp only [decide_eq_true_eq, decide_eq_false_iff_not, Bool.not_eq_true', Bool.not_eq_false', beq_iff_eq, beq_eq_false_iff_ne, bne_iff_ne, bne_eq_false_iff_eq, Bool.true_eq_false, Bool.false_eq_true] at hc) | skip)) | (refine And.intro (by first | exact trivial | decide | omega | (dsimp only; omega) | exact fun _ _ => rfl) ?_) | (apply And.intro) | (intro s hs))
        · have hlt : i < w.length := by omega
          refine ⟨⟨i + 1, by omega⟩, [], by dsimp only <;> omega, rfl, ?_, ?_⟩
          · repeat' (first | exact trivial | exact rfl | exact leF_ptr rfl | exact leF_int rfl | exact leF_bool rfl | exact leF_cl (cl_slB _ _) | exact leF_cl (cl_slR _ _) | exact leF_cl (cl_ll _ _) | exact leF_c (leC_os rfl rfl) | refine leF_int ?_ | refine leF_bool ?_ | exact leN_varA (fun _ _ => (Elem.flat _ _ _).le) | exact leN_varA (fun _ _ => leC_top) | apply And.intro)
            · have ht := totI_hi (Q ++ w.take i) c hx (by assumption)
              show _ = ((totI (Q ++ w.take (i + 1)) : Nat) : Int)
              rw [hstep hlt, ht, ← e2]
              exact (congrArg _ (by rw [hcc]; rfl)).trans (IntWalk.u64_in _ (by omega))
            · show _ = hiB (Q ++ w.take (i + 1))
              rw [hstep hlt, hiB_snoc]
            · first | (dsimp only; rw [IntWalk.i64_in _ (by omega)]; omega) | (dsimp only; rw [IntWalk.i64_in _ (by omega)]; done) | (dsimp only; exact IntWalk.i64_in _ (by omega)) | exact IntWalk.i64_in _ (by omega) | (rw [IntWalk.i64_in _ (by omega)]; omega)
          · repeat' (first | exact trivial | exact rfl | exact leF_ptr rfl | exact leF_int rfl | exact leF_bool rfl | exact leF_cl (cl_slB _ _) | exact leF_cl (cl_slR _ _) | exact leF_cl (cl_ll _ _) | exact leF_c (leC_os rfl rfl) | refine leF_int ?_ | refine leF_bool ?_ | exact leN_varA (fun _ _ => (Elem.flat _ _ _).le) | exact leN_varA (fun _ _ => leC_top) | apply And.intro)
        · have hlt : i < w.length := by omega
          refine ⟨⟨i + 1, by omega⟩, [], by dsimp only <;> omega, rfl, ?_, ?_⟩
          · repeat' (first | exact trivial | exact rfl | exact leF_ptr rfl | exact leF_int rfl | exact leF_bool rfl | exact leF_cl (cl_slB _ _) | exact leF_cl (cl_slR _ _) | exact leF_cl (cl_ll _ _) | exact leF_c (leC_os rfl rfl) | refine leF_int ?_ | refine leF_bool ?_ | exact leN_varA (fun _ _ => (Elem.flat _ _ _).le) | exact leN_varA (fun _ _ => leC_top) | apply And.intro)
            · have ht := totI_lo (Q ++ w.take i) c hx (by assumption)
              show _ = ((totI (Q ++ w.take (i + 1)) : Nat) : Int)
              rw [hstep hlt, ht, ← e1]
              exact (congrArg _ (by rw [hcc]; rfl)).trans (IntWalk.u64_in _ (by omega))
            · show _ = hiB (Q ++ w.take (i + 1))
              rw [hstep hlt, hiB_snoc]
            · first | (dsimp only; rw [IntWalk.i64_in _ (by omega)]; omega) | (dsimp only; rw [IntWalk.i64_in _ (by omega)]; done) | (dsimp only; exact IntWalk.i64_in _ (by omega)) | exact IntWalk.i64_in _ (by omega) | (rw [IntWalk.i64_in _ (by omega)]; omega)
          · repeat' (first | exact trivial | exact rfl | exact leF_ptr rfl | exact leF_int rfl | exact leF_bool rfl | exact leF_cl (cl_slB _ _) | exact leF_cl (cl_slR _ _) | exact leF_cl (cl_ll _ _) | exact leF_c (leC_os rfl rfl) | refine leF_int ?_ | refine leF_bool ?_ | exact leN_varA (fun _ _ => (Elem.flat _ _ _).le) | exact leN_varA (fun _ _ => leC_top) | apply And.intro)
        · have hend : Q ++ w.take i = (L.take (k + 1)).flatten := by rw [List.take_of_length_le (by omega), flat_take hk', hw, hQ]
          refine ⟨⟨k + 1, by omega⟩, [], by dsimp only <;> omega, rfl, ?_, ?_⟩
          · repeat' (first | exact trivial | exact rfl | exact leF_ptr rfl | exact leF_int rfl | exact leF_bool rfl | exact leF_cl (cl_slB _ _) | exact leF_cl (cl_slR _ _) | exact leF_cl (cl_ll _ _) | exact leF_c (leC_os rfl rfl) | refine leF_int ?_ | refine leF_bool ?_ | exact leN_varA (fun _ _ => (Elem.flat _ _ _).le) | exact leN_varA (fun _ _ => leC_top) | apply And.intro)
            · show _ = ((totI (L.take (k + 1)).flatten : Nat) : Int)
              rw [hend]
            · show _ = hiB (L.take (k + 1)).flatten
              rw [hend]
            · first | (dsimp only; rw [IntWalk.i64_in _ (by omega)]; omega) | (dsimp only; rw [IntWalk.i64_in _ (by omega)]; done) | (dsimp only; exact IntWalk.i64_in _ (by omega)) | exact IntWalk.i64_in _ (by omega) | (rw [IntWalk.i64_in _ (by omega)]; omega)
          · repeat' (first | exact trivial | exact rfl | exact leF_ptr rfl | exact leF_int rfl | exact leF_bool rfl | exact leF_cl (cl_slB _ _) | exact leF_cl (cl_slR _ _) | exact leF_cl (cl_ll _ _) | exact leF_c (leC_os rfl rfl) | refine leF_int ?_ | refine leF_bool ?_ | exact leN_varA (fun _ _ => (Elem.flat _ _ _).le) | exact leN_varA (fun _ _ => leC_top) | apply And.intro)
      · refine ⟨rfl, ?_, ?_⟩
        · repeat' (first | exact trivial | exact rfl | exact leF_ptr rfl | exact leF_int rfl | exact leF_bool rfl | exact leF_cl (cl_slB _ _) | exact leF_cl (cl_slR _ _) | exact leF_cl (cl_ll _ _) | exact leF_c (leC_os rfl rfl) | refine leF_int ?_ | refine leF_bool ?_ | exact leN_varA (fun _ _ => (Elem.flat _ _ _).le) | exact leN_varA (fun _ _ => leC_top) | apply And.intro)
          · show _ = ((totI (Q ++ []) : Nat) : Int)
            rw [List.append_nil]
          · show _ = hiB (Q ++ [])
            rw [List.append_nil]
          · exact leF_c (leC_sl (fun h => by cases h) (by rw [← hw]; rfl) rfl fun i hi j hj => leC_cell (E := eB) (by rw [← hw]; rfl))
          · exact congrArg _ (congrArg _ hw)
        · repeat' (first | exact trivial | exact rfl | exact leF_ptr rfl | exact leF_int rfl | exact leF_bool rfl | exact leF_cl (cl_slB _ _) | exact leF_cl (cl_slR _ _) | exact leF_cl (cl_ll _ _) | exact leF_c (leC_os rfl rfl) | refine leF_int ?_ | refine leF_bool ?_ | exact leN_varA (fun _ _ => (Elem.flat _ _ _).le) | exact leN_varA (fun _ _ => leC_top) | apply And.intro)
    · refine Done.mk (leF_int ?_)
      rw [List.take_of_length_le (by omega)]
  · refine ⟨rfl, ?_, ?_⟩
    · repeat' (first | exact trivial | exact rfl | exact leF_ptr rfl | exact leF_int rfl | exact leF_bool rfl | exact leF_cl (cl_slB _ _) | exact leF_cl (cl_slR _ _) | exact leF_cl (cl_ll _ _) | exact leF_c (leC_os rfl rfl) | refine leF_int ?_ | refine leF_bool ?_ | exact leN_varA (fun _ _ => (Elem.flat _ _ _).le) | exact leN_varA (fun _ _ => leC_top) | apply And.intro)
    · repeat' (first | exact trivial | exact rfl | exact leF_ptr rfl | exact leF_int rfl | exact leF_bool rfl | exact leF_cl (cl_slB _ _) | exact leF_cl (cl_slR _ _) | exact leF_cl (cl_ll _ _) | exact leF_c (leC_os rfl rfl) | refine leF_int ?_ | refine leF_bool ?_ | exact leN_varA (fun _ _ => (Elem.flat _ _ _).le) | exact leN_varA (fun _ _ => leC_top) | apply And.intro)
/-- The entry of a function of a row of slices that is handed on. -/
def llE {R : Type} (p : List (List Int) → Prop) (F : List (List Int) → R) (enc : R → FV) : Entry := fun args H _ _ =>
  match args with
  | [.e (.c (.sl _ n s f))] => bif Nat.beq s 1 then some fun K => ∃ L, (f = rowFF eB L ∧ n = L.length) ∧ p L ∧ K (enc (F L)) [] [] else none
  | _ => none
theorem llE_ok {R : Type} {p : List (List Int) → Prop} {F : List (List Int) → R} {enc : R → FV} {P : Program} {f : FuncId} (hb : hasBody P f) (h : ∀ L, p L → PureOk P f [(cLL eB eB_sz).enc L] (enc (F L))) : EntOk P f (llE p F enc) := by
  refine ⟨fun args H nm wd q _ hq K hK => ?_, fun args H nm wd q hq K K' hKK hK => ?_⟩
  · unfold llE at hq
    split at hq
    · rename_i sh n s g
      obtain ⟨hs, hq⟩ := cond_some hq
      subst hq
      obtain ⟨L, ⟨rfl, rfl⟩, hp, hK⟩ := hK
      have hs := Nat.eq_of_beq_eq_true hs
      subst hs
      refine ⟨_, _, _, callR_pure hb (args' := [(cLL eB eB_sz).enc L]) (rd := []) (fun H' _ => ⟨rfl, fun i x y hx hy => ?_⟩) (h L hp), hK⟩
      cases i with
      | zero =>
        simp only [List.getElem?_cons_zero, Option.some.injEq] at hx hy
        subst hx hy
        rintro cx r w v st ⟨a, cap, rfl, h1, h2⟩
        refine ⟨a, cap, rfl, h1, fun h0 => ?_⟩
        obtain ⟨ad, rfl, hsp, ho, hX, hlt, hc⟩ := h2 h0
        refine ⟨ad, rfl, hsp, fun ⟨k, e, x, q1, q2, q3, _⟩ => ho ⟨k, e, x, q1, q2, q3⟩, (fun h => by cases h), hlt, fun i hi j hj => ?_⟩
        obtain ⟨u, hu, hr⟩ := hc i hi j hj
        refine ⟨u, hu, ?_⟩
        obtain ⟨a', cap', rfl, g1, g2⟩ := hr
        refine ⟨a', cap', rfl, g1, fun h0' => ?_⟩
        obtain ⟨ad', rfl, hsp', ho', hX', hlt', hc'⟩ := g2 h0'
        refine ⟨ad', rfl, hsp', fun ⟨k, e, x, q1, q2, q3, _⟩ => ho' ⟨k, e, x, q1, q2, q3⟩, (fun h => by cases h), hlt', fun i' hi' j' hj' => ?_⟩
        obtain ⟨u', hu', hr'⟩ := hc' i' hi' j' hj'
        exact ⟨u', hu', (eB.flat _ _) _ _ _ _ _ _ _ _ _ hr'⟩
      | succ i => cases i <;> cases hx
    · cases hq
  · unfold llE at hq
    split at hq
    · obtain ⟨hs, hq⟩ := cond_some hq
      subst hq
      obtain ⟨L, h1, h2, h3⟩ := hK
      exact ⟨L, h1, h2, hKK _ _ _ h3⟩
    · cases hq
def LSm0 : CsL := (144, some (llE (fun L => BLL L ∧ L.length ≤ 4611686018427387904 ∧ L.flatten.length ≤ 281474976710000) (fun L => (totI L.flatten : Int)) (cI .u64).enc)) ::
  (143, some (pureE (AC.cons (cI .u64) AC.nil) (fun a => 0 ≤ a.1 ∧ a.1 ≤ 4611686018427387904) (fun a => (foldN a.1.toNat : Int)) (cI .u16).enc)) ::
  (145, some (pureE (AC.cons (cI .i64) AC.nil) (fun a => 0 ≤ a.1 ∧ a.1 ≤ 4611686018427387904) (fun a => (foldN a.1.toNat : Int)) (cI .u16).enc)) :: []
theorem LSm0_ok : AllOk Try.prog LSm0 := ⟨llE_ok ⟨_, Try.func144, rfl, by kernel_rfl⟩ fun L h => total_ok L h.1 h.2.1 h.2.2,
  pureE_ok ⟨_, Try.func143, rfl, by kernel_rfl⟩ fun a h => by have := fold_ok a.1.toNat (by omega); rw [show ((a.1.toNat : Nat) : Int) = a.1 by omega] at this; exact this,
  pureE_ok ⟨_, Try.func145, rfl, by kernel_rfl⟩ fun a h => by have := rfold_ok a.1.toNat (by omega); rw [show ((a.1.toNat : Nat) : Int) = a.1 by omega] at this; exact this, trivial⟩
set_option maxHeartbeats 4000000 in
theorem inet_ok (L : List (List Int)) (hL : BLL L) (hn : L.length ≤ 16) (hf : L.flatten.length ≤ 70368744177664) : PureOk Try.prog 108 [(cLL eB eB_sz).enc L] ((cI .u16).enc (inetF L.flatten)) := by
  have ht := totI_le L.flatten
  have hF := foldN_le (totI L.flatten)
  refine pure_intro (wd := 1) (Q := mkQ LSm0) (by decide) tysOk (q_of LSm0_ok) mixed Try.func108 rfl _ (by show 1 ≤ _; decide) _ ?_
  refine ⟨L, ⟨rfl, rfl⟩, ⟨hL, by omega, by omega⟩, ?_⟩
  refine ⟨⟨by dsimp only; omega, by dsimp only; omega⟩, fun s hs => ?_⟩
  have hs' : s = (foldN (totI L.flatten) : Int) := hs
  subst hs'
  exact Done.mk (leF_int (IntWalk.u16_in _ (by omega)))
structure SuS (l : List Int) where
  k : Nat
  hk : k % 2 = 0
  hle : k ≤ l.length + 1
theorem hiB_take {l : List Int} {k : Nat} (h : k ≤ l.length) : hiB (l.take k) = decide (k % 2 = 0) := by unfold hiB; rw [List.length_take, Nat.min_eq_left h]
theorem totI_two {l : List Int} (hl : BL l) {k : Nat} (hk : k + 1 < l.length) (he : k % 2 = 0) : (totI (l.take (k + 2)) : Int) = totI (l.take k) + (256 * l.getD k default + l.getD (k + 1) default) := by
  rw [take_snocI hk, totI_lo _ _ (hl.get _) (by rw [hiB_take (by omega)]; simp; omega), take_snocI (by omega), totI_hi _ _ (hl.get _) (by rw [hiB_take (by omega)]; simp; omega)]
  omega
theorem totI_one {l : List Int} (hl : BL l) {k : Nat} (hk : k + 1 = l.length) (he : k % 2 = 0) : (totI (l.take (k + 2)) : Int) = totI (l.take k) + 256 * l.getD k default := by
  have e : l.take (k + 2) = l.take k ++ [l.getD k default] := by rw [← take_snocI (by omega), List.take_of_length_le (by omega), List.take_of_length_le (by omega)]
  rw [e, totI_hi _ _ (hl.get _) (by rw [hiB_take (by omega)]; simp; omega)]
  omega
set_option maxHeartbeats 4000000 in
set_option maxRecDepth 20000 in
theorem rsum_ok (l : List Int) (hl : BL l) (hn : l.length ≤ 70368744177664) : PureOk Try.prog 109 [(cSl eB eB_sz).enc l] ((cI .u16).enc (foldN (totI l))) := by
  refine pure_intro (wd := 1) (Q := mkQ LSm0) (by decide) tysOk (q_of LSm0_ok) mixed Try.func109 rfl _ (by show 1 ≤ _; decide) _ ?_
  repeat' (first | (apply And.intro <;> intro hc <;> (first | exact Bool.noConfusion hc | (simp only [decide_eq_true_eq, decide_eq_false_iff_not, Bool.not_eq_true', Bool.not_eq_false', beq_iff_eq, beq_eq_false_iff_ne, bne_iff_ne, bne_eq_false_iff_eq, Bool.true_eq_false, Bool.false_eq_true] at hc) | skip)) | (refine And.intro (by first | exact trivial | decide | omega | (dsimp only; omega) | exact fun _ _ => rfl) ?_) | (apply And.intro) | (intro s hs))
  refine loop_intro (mono_of LSm0_ok) (fun s : SuS l => (⟨[(0, one (.sl false l.length eB.sz (rowF eB l))), (3, one (.int .u16 (foldN (totI (l.take s.k))))), (4, one (.int .i64 (s.k : Int)))], [], 0⟩ : Hd)) (fun s => l.length + 1 - s.k) (fun _ => rfl) ?_ ⟨0, by omega, by omega⟩ [] ?_
  · rintro ⟨k, hk, hle⟩
    dsimp only at hk hle ⊢
    have hF := foldN_le (totI (l.take k))
    have x1 := hl.get k
    have x2 := hl.get (k + 1)
    have w1 : IntKind.i64.wrap (256 * l.getD k default) = 256 * l.getD k default := IntWalk.i64_in _ (by omega)
    have w2 : IntKind.i64.wrap ((k : Int) + 1) = k + 1 := IntWalk.i64_in _ (by omega)
    have w3 : IntKind.i64.wrap (l.getD k default) = l.getD k default := IntWalk.i64_in _ (by omega)
    have w4 : IntKind.i64.wrap (l.getD (k + 1) default) = l.getD (k + 1) default := IntWalk.i64_in _ (by omega)
    have w5 : IntKind.i64.wrap (foldN (totI (l.take k)) : Int) = foldN (totI (l.take k)) := IntWalk.i64_in _ (by omega)
    have w6 : IntKind.i64.wrap (256 * l.getD k default + l.getD (k + 1) default) = 256 * l.getD k default + l.getD (k + 1) default := IntWalk.i64_in _ (by omega)
    have w7 : IntKind.i64.wrap ((foldN (totI (l.take k)) : Int) + (256 * l.getD k default + l.getD (k + 1) default)) = foldN (totI (l.take k)) + (256 * l.getD k default + l.getD (k + 1) default) := IntWalk.i64_in _ (by omega)
    have w8 : IntKind.i64.wrap ((foldN (totI (l.take k)) : Int) + 256 * l.getD k default) = foldN (totI (l.take k)) + 256 * l.getD k default := IntWalk.i64_in _ (by omega)
    have w9 : IntKind.i64.wrap ((k : Int) + 2) = k + 2 := IntWalk.i64_in _ (by omega)
    have q1 : IntKind.i64.wrap (IntKind.i64.wrap (foldN (totI (l.take k)) : Int) + IntKind.i64.wrap (IntKind.i64.wrap (256 * IntKind.i64.wrap (l.getD (k : Int).toNat default)) + IntKind.i64.wrap (l.getD (IntKind.i64.wrap ((k : Int) + 1)).toNat default))) = foldN (totI (l.take k)) + (256 * l.getD k default + l.getD (k + 1) default) := by
      rw [Int.toNat_natCast, w2, show ((k : Int) + 1).toNat = k + 1 by omega, w3, w4, w1, w6, w5, w7]
    have q2 : IntKind.i64.wrap (IntKind.i64.wrap (foldN (totI (l.take k)) : Int) + IntKind.i64.wrap (256 * IntKind.i64.wrap (l.getD (k : Int).toNat default))) = foldN (totI (l.take k)) + 256 * l.getD k default := by
      rw [Int.toNat_natCast, w3, w1, w5, w8]
    repeat' (first | (apply And.intro <;> intro hc <;> (first | exact Bool.noConfusion hc | (simp only [decide_eq_true_eq, decide_eq_false_iff_not, Bool.not_eq_true', Bool.not_eq_false', beq_iff_eq, beq_eq_false_iff_ne, bne_iff_ne, bne_eq_false_iff_eq, Bool.true_eq_false, Bool.false_eq_true] at hc) | skip)) | (refine And.intro (by first | exact trivial | decide | omega | (dsimp only; omega) | exact fun _ _ => rfl) ?_) | (apply And.intro) | (intro s hs))
    · have hs' : s = (foldN (IntKind.i64.wrap (IntKind.i64.wrap (foldN (totI (l.take k)) : Int) + IntKind.i64.wrap (IntKind.i64.wrap (256 * IntKind.i64.wrap (l.getD (k : Int).toNat default)) + IntKind.i64.wrap (l.getD (IntKind.i64.wrap ((k : Int) + 1)).toNat default)))).toNat : Int) := hs
      rw [q1] at hs'
      have ht := totI_two hl (k := k) (by omega) hk
      have e : ((foldN (totI (l.take k)) : Int) + (256 * l.getD k default + l.getD (k + 1) default)).toNat = foldN (totI (l.take k)) + (256 * l.getD k default + l.getD (k + 1) default).toNat := by omega
      rw [e, foldN_add, show totI (l.take k) + (256 * l.getD k default + l.getD (k + 1) default).toNat = totI (l.take (k + 2)) by omega] at hs'
      refine ⟨⟨k + 2, by omega, by omega⟩, [], by dsimp only <;> omega, rfl, ?_, ?_⟩
      · repeat' (first | exact trivial | exact rfl | exact leF_ptr rfl | exact leF_int rfl | exact leF_bool rfl | exact leF_cl (cl_slB _ _) | exact leF_cl (cl_slR _ _) | exact leF_cl (cl_ll _ _) | exact leF_c (leC_os rfl rfl) | refine leF_int ?_ | refine leF_bool ?_ | exact leN_varA (fun _ _ => (Elem.flat _ _ _).le) | exact leN_varA (fun _ _ => leC_top) | apply And.intro)
        · exact hs'
        · first | (dsimp only; rw [IntWalk.i64_in _ (by omega)]; omega) | (dsimp only; rw [IntWalk.i64_in _ (by omega)]; done) | (dsimp only; exact IntWalk.i64_in _ (by omega)) | exact IntWalk.i64_in _ (by omega) | (rw [IntWalk.i64_in _ (by omega)]; omega)
      · repeat' (first | exact trivial | exact rfl | exact leF_ptr rfl | exact leF_int rfl | exact leF_bool rfl | exact leF_cl (cl_slB _ _) | exact leF_cl (cl_slR _ _) | exact leF_cl (cl_ll _ _) | exact leF_c (leC_os rfl rfl) | refine leF_int ?_ | refine leF_bool ?_ | exact leN_varA (fun _ _ => (Elem.flat _ _ _).le) | exact leN_varA (fun _ _ => leC_top) | apply And.intro)
    · have hs' : s = (foldN (IntKind.i64.wrap (IntKind.i64.wrap (foldN (totI (l.take k)) : Int) + IntKind.i64.wrap (256 * IntKind.i64.wrap (l.getD (k : Int).toNat default)))).toNat : Int) := hs
      rw [q2] at hs'
      have ht := totI_one hl (k := k) (by omega) hk
      have e : ((foldN (totI (l.take k)) : Int) + 256 * l.getD k default).toNat = foldN (totI (l.take k)) + (256 * l.getD k default).toNat := by omega
      rw [e, foldN_add, show totI (l.take k) + (256 * l.getD k default).toNat = totI (l.take (k + 2)) by omega] at hs'
      refine ⟨⟨k + 2, by omega, by omega⟩, [], by dsimp only <;> omega, rfl, ?_, ?_⟩
      · repeat' (first | exact trivial | exact rfl | exact leF_ptr rfl | exact leF_int rfl | exact leF_bool rfl | exact leF_cl (cl_slB _ _) | exact leF_cl (cl_slR _ _) | exact leF_cl (cl_ll _ _) | exact leF_c (leC_os rfl rfl) | refine leF_int ?_ | refine leF_bool ?_ | exact leN_varA (fun _ _ => (Elem.flat _ _ _).le) | exact leN_varA (fun _ _ => leC_top) | apply And.intro)
        · exact hs'
        · first | (dsimp only; rw [IntWalk.i64_in _ (by omega)]; omega) | (dsimp only; rw [IntWalk.i64_in _ (by omega)]; done) | (dsimp only; exact IntWalk.i64_in _ (by omega)) | exact IntWalk.i64_in _ (by omega) | (rw [IntWalk.i64_in _ (by omega)]; omega)
      · repeat' (first | exact trivial | exact rfl | exact leF_ptr rfl | exact leF_int rfl | exact leF_bool rfl | exact leF_cl (cl_slB _ _) | exact leF_cl (cl_slR _ _) | exact leF_cl (cl_ll _ _) | exact leF_c (leC_os rfl rfl) | refine leF_int ?_ | refine leF_bool ?_ | exact leN_varA (fun _ _ => (Elem.flat _ _ _).le) | exact leN_varA (fun _ _ => leC_top) | apply And.intro)
    · refine Done.mk (leF_int ?_)
      rw [List.take_of_length_le (by omega)]
  · refine ⟨rfl, ?_, ?_⟩
    · repeat' (first | exact trivial | exact rfl | exact leF_ptr rfl | exact leF_int rfl | exact leF_bool rfl | exact leF_cl (cl_slB _ _) | exact leF_cl (cl_slR _ _) | exact leF_cl (cl_ll _ _) | exact leF_c (leC_os rfl rfl) | refine leF_int ?_ | refine leF_bool ?_ | exact leN_varA (fun _ _ => (Elem.flat _ _ _).le) | exact leN_varA (fun _ _ => leC_top) | apply And.intro)
    · repeat' (first | exact trivial | exact rfl | exact leF_ptr rfl | exact leF_int rfl | exact leF_bool rfl | exact leF_cl (cl_slB _ _) | exact leF_cl (cl_slR _ _) | exact leF_cl (cl_ll _ _) | exact leF_c (leC_os rfl rfl) | refine leF_int ?_ | refine leF_bool ?_ | exact leN_varA (fun _ _ => (Elem.flat _ _ _).le) | exact leN_varA (fun _ _ => leC_top) | apply And.intro)
def LSm1 : CsL := (109, some (pureE (AC.cons (cSl eB eB_sz) AC.nil) (fun a => BL a.1 ∧ a.1.length ≤ 70368744177664) (fun a => (foldN (totI a.1) : Int)) (cI .u16).enc)) :: LSm0
theorem LSm1_ok : AllOk Try.prog LSm1 := ⟨pureE_ok ⟨_, Try.func109, rfl, by kernel_rfl⟩ fun a h => rsum_ok a.1 h.1 h.2, LSm0_ok⟩
set_option maxHeartbeats 4000000 in
set_option maxRecDepth 20000 in
theorem rinet_ok (L : List (List Int)) (hL : BLL L) (hn : L.length ≤ 16) (hf : L.flatten.length ≤ 70368744177664) : PureOk Try.prog 68 [(cLL eB eB_sz).enc L] ((cI .u16).enc (inetF L.flatten)) := by
  have hF := foldN_le (totI L.flatten)
  refine pure_intro (wd := 1) (Q := mkQ LSm1) (by decide) tysOk (q_of LSm1_ok) mixed Try.func68 rfl _ (by show 1 ≤ _; decide) _ ?_
  repeat' (first | (apply And.intro <;> intro hc <;> (first | exact Bool.noConfusion hc | (simp only [decide_eq_true_eq, decide_eq_false_iff_not, Bool.not_eq_true', Bool.not_eq_false', beq_iff_eq, beq_eq_false_iff_ne, bne_iff_ne, bne_eq_false_iff_eq, Bool.true_eq_false, Bool.false_eq_true] at hc) | skip)) | (refine And.intro (by first | exact trivial | decide | omega | (dsimp only; omega) | exact fun _ _ => rfl) ?_) | (apply And.intro) | (intro s hs))
  refine loop_intro (mono_of LSm1_ok) (fun s : {k : Nat // k ≤ L.length} => (⟨[(0, one (.sl false L.length 1 (rowFF eB L))), (3, one (.os 40 0 (L.take s.1).flatten.length)), (4, one (.int .i64 (s.1 : Int)))], [(40, some (ents eB 5 (L.take s.1).flatten))], 41⟩ : Hd)) (fun s => L.length - s.1) (fun _ => rfl) ?_ ⟨0, by omega⟩ [(40, none)] ?_
  · rintro ⟨k, hk⟩
    dsimp only at hk ⊢
    have hle := flat_le L (k + 1)
    obtain ⟨Q, hQ⟩ : ∃ Q, Q = (L.take k).flatten := ⟨_, rfl⟩
    have hQl : Q.length ≤ 70368744177664 := by have := flat_le L k; rw [hQ]; omega
    have hnext : k < L.length → (L.take (k + 1)).flatten = Q ++ L.getD k [] := fun h => by rw [flat_take h, hQ]
    have hbd : k < L.length → Q.length + (L.getD k []).length ≤ 70368744177664 := fun h => by rw [hnext h, List.length_append] at hle; omega
    rw [← hQ]
    repeat' (first | (apply And.intro <;> intro hc <;> (first | exact Bool.noConfusion hc | (simp only [decide_eq_true_eq, decide_eq_false_iff_not, Bool.not_eq_true', Bool.not_eq_false', beq_iff_eq, beq_eq_false_iff_ne, bne_iff_ne, bne_eq_false_iff_eq, Bool.true_eq_false, Bool.false_eq_true] at hc) | skip)) | (refine And.intro (by first | exact trivial | decide | omega | (dsimp only; omega) | exact fun _ _ => rfl) ?_) | (apply And.intro) | (intro s hs))
    all_goals first
      | exact rfl
      | (have := hbd (by omega); rw [Int.natCast_one, Int.one_mul]; omega)
      | (have := hbd (by omega); rw [Int.toNat_natCast]; omega)
      | omega
      | skip
    · have hk' : k < L.length := by omega
      refine ⟨⟨k + 1, by omega⟩, [(40, some 50)], by dsimp only <;> omega, rfl, ?_, ?_⟩
      · repeat' (first | exact trivial | exact rfl | exact leF_ptr rfl | exact leF_int rfl | exact leF_bool rfl | exact leF_cl (cl_slB _ _) | exact leF_cl (cl_slR _ _) | exact leF_cl (cl_ll _ _) | exact leF_c (leC_os rfl rfl) | refine leF_int ?_ | refine leF_bool ?_ | exact leN_varA (fun _ _ => (Elem.flat _ _ _).le) | exact leN_varA (fun _ _ => leC_top) | apply And.intro)
        · refine leF_c (leC_os rfl ?_)
          show _ = (L.take (k + 1)).flatten.length
          rw [hnext hk', List.length_append]; rfl
        · first | (dsimp only; rw [IntWalk.i64_in _ (by omega)]; omega) | (dsimp only; rw [IntWalk.i64_in _ (by omega)]; done) | (dsimp only; exact IntWalk.i64_in _ (by omega)) | exact IntWalk.i64_in _ (by omega) | (rw [IntWalk.i64_in _ (by omega)]; omega)
      · repeat' (first | exact trivial | exact rfl | exact leF_ptr rfl | exact leF_int rfl | exact leF_bool rfl | exact leF_cl (cl_slB _ _) | exact leF_cl (cl_slR _ _) | exact leF_cl (cl_ll _ _) | exact leF_c (leC_os rfl rfl) | refine leF_int ?_ | refine leF_bool ?_ | exact leN_varA (fun _ _ => (Elem.flat _ _ _).le) | exact leN_varA (fun _ _ => leC_top) | apply And.intro)
        show LeN _ _ (ents eB _ (L.take (k + 1)).flatten)
        rw [hnext hk']
        refine leN_app (E := eB) rfl (fun i hi j hj => selC_in (Nat.ble_eq_true_of_le hi) (Elem.flat _ _ _).le) fun i hi j hj => ?_
        refine selC_out ?_ ?_
        · cases hb : Nat.blt (Q.length + i) Q.length with
          | false => rfl
          | true => have := Nat.le_of_ble_eq_true hb; omega
        · rw [show Q.length + i - Q.length = i by omega]
          exact leC_cell (E := eB) rfl
    · dsimp only
      rw [toL_b0, hQ, List.take_of_length_le (by omega)]
      exact hL.flat
    · dsimp only
      rw [toL_b0]
      exact hQl
    · have hs' : s = (foldN (totI L.flatten) : Int) := by
        refine hs.trans ?_
        dsimp only
        rw [toL_b0, hQ, List.take_of_length_le (by omega)]
      subst hs'
      exact Done.mk (leF_int (IntWalk.u16_in _ (by omega)))
  · refine ⟨rfl, ?_, ?_⟩
    · repeat' (first | exact trivial | exact rfl | exact leF_ptr rfl | exact leF_int rfl | exact leF_bool rfl | exact leF_cl (cl_slB _ _) | exact leF_cl (cl_slR _ _) | exact leF_cl (cl_ll _ _) | exact leF_c (leC_os rfl rfl) | refine leF_int ?_ | refine leF_bool ?_ | exact leN_varA (fun _ _ => (Elem.flat _ _ _).le) | exact leN_varA (fun _ _ => leC_top) | apply And.intro)
      exact leF_c (leC_nils_os rfl)
    · repeat' (first | exact trivial | exact rfl | exact leF_ptr rfl | exact leF_int rfl | exact leF_bool rfl | exact leF_cl (cl_slB _ _) | exact leF_cl (cl_slR _ _) | exact leF_cl (cl_ll _ _) | exact leF_c (leC_os rfl rfl) | refine leF_int ?_ | refine leF_bool ?_ | exact leN_varA (fun _ _ => (Elem.flat _ _ _).le) | exact leN_varA (fun _ _ => leC_top) | apply And.intro)
      exact eB_sz
abbrev inetE : Entry := pureE (AC.cons (cLL eB eB_sz) AC.nil) (fun a => BLL a.1 ∧ a.1.length ≤ 16 ∧ a.1.flatten.length ≤ 70368744177664) (fun a => inetF a.1.flatten) (cI .u16).enc
def LSm : CsL := (108, some inetE) :: (68, some inetE) :: (106, some oappE) :: (107, some oappE) :: (74, some uintE) :: (146, some uintE) :: (27, some sameE) :: []
theorem LSm_ok : AllOk Try.prog LSm := ⟨pureE_ok ⟨_, Try.func108, rfl, by kernel_rfl⟩ fun a h => inet_ok a.1 h.1 h.2.1 h.2.2, pureE_ok ⟨_, Try.func68, rfl, by kernel_rfl⟩ fun a h => rinet_ok a.1 h.1 h.2.1 h.2.2, oappE_ok, rappE_ok, ouintE_ok, ruintE_ok, sameE_ok, trivial⟩
end Go.Proofs.Ytjknkfjhcapocaa.AX
