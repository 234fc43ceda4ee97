/- Texts of one's own in one file: Fp, Pw, MobilityTunnelsW. -/
import Derived.Test.YtjknkfjhcapocaaJMobilityTunnelsd
import Derived.SizedLaws
import Derived.ChangeSlices
import Derived.Test.YtjknkfjhcapocaaJMobilityTunnelsc
/- Arguments of laws: structs of numbers that end in a slice of numbers. -/
namespace Go.Proofs.Ytjknkfjhcapocaa
open Go.ChangeShapes Go.WideShapes Go.RowKit AX
set_option linter.unusedVariables false
/-- What is known of such an argument: its flat cells, its slice. -/
def TailArg (w : World) (ks : List (Option IntKind)) (k : IntKind) (b : Nat) (cs : Array Value) : Prop :=
  ∃ a len cap zs, Mt ks (cs.toList.take ks.length) ∧ cs.toList.drop ks.length = [.slice a len cap] ∧ IsRow k w a len cap zs ∧ cap * b ≤ reachBytes
section
variable {H : Type} {enc : TypeId × Value → H} {P : Program} {w : World} {base : Nat}
theorem flatFs_in {g : TypeId → Option (List (Option IntKind))} : ∀ (fs : List Field) (off : Nat) (ks : List (Option IntKind)), flatFs P g fs off = some ks → ∀ fd ∈ fs, ∀ l, g fd.type = some l → fd.offset + P.cellsOf fd.type ≤ off + ks.length := by
  intro fs
  induction fs with
  | nil => intro off ks _ fd h; cases h
  | cons f0 rest ih =>
    intro off ks h fd hm l hl
    simp only [flatFs] at h
    split at h
    · rename_i l0 hg
      cases hb : (Nat.beq f0.offset off && Nat.beq (P.cellsOf f0.type) l0.length) with
      | false => rw [hb] at h; cases h
      | true =>
        rw [hb, cond_true] at h
        simp only [Bool.and_eq_true] at hb
        have h1 := Nat.eq_of_beq_eq_true hb.1
        have h2 := Nat.eq_of_beq_eq_true hb.2
        cases hr : flatFs P g rest (off + l0.length) with
        | none => rw [hr] at h; cases h
        | some l' =>
          rw [hr] at h
          simp only [Option.map_some, Option.some.injEq] at h
          subst h
          rw [List.length_append]
          rcases List.mem_cons.1 hm with rfl | hm
          · omega
          · have := ih _ _ hr fd hm l hl
            omega
    · cases h
theorem flatFs_all {g : TypeId → Option (List (Option IntKind))} : ∀ (fs : List Field) (off : Nat) (ks : List (Option IntKind)), flatFs P g fs off = some ks → ∀ fd ∈ fs, ∃ l, g fd.type = some l := by
  intro fs
  induction fs with
  | nil => intro off ks _ fd h; cases h
  | cons f0 rest ih =>
    intro off ks h fd hm
    simp only [flatFs] at h
    split at h
    · rename_i l0 hg
      cases hb : (Nat.beq f0.offset off && Nat.beq (P.cellsOf f0.type) l0.length) with
      | false => rw [hb] at h; cases h
      | true =>
        rw [hb, cond_true] at h
        cases hr : flatFs P g rest (off + l0.length) with
        | none => rw [hr] at h; cases h
        | some l' =>
          rcases List.mem_cons.1 hm with rfl | hm
          · exact ⟨_, hg⟩
          · exact ih _ _ hr fd hm
    · cases h
theorem open_tail {r : Reach} {b0 f m b : Nat} {t e : TypeId} {v : Value} {d : DataW H} {ps : List MemPlace} {ks : List (Option IntKind)} {k : IntKind} {fs : Array Field} {fd : Field} (ht : P.underlying t = some (.struct fs)) (hf : flatFs P (flat P f) (fs.toList.take m) 0 = some ks)
    (hl : fs[m]? = some fd) (hn : fs.size = m + 1) (ho : fd.offset = ks.length) (hs : P.underlying fd.type = some (.slice e)) (he : P.underlying e = some (.int k)) (hc : P.cellsOf e = 1) (hc2 : P.cellsOf fd.type = 1) (hct : P.cellsOf t = ks.length + 1) (hby : P.bytesOf e = b)
    (hval : Value.okWide P w r b0 t v) (hd : DataW.Trod enc P w base (fun _ => true) true t v d ps) (hw : ∀ n ∈ d.weights P t, n ≤ reachBytes) :
    ∃ cs : Array Value, v = .agg cs ∧ TailArg w ks k b cs := by
  have hv : ∃ cs, v = .agg cs := by
    unfold Value.okWide at hval
    rw [ht] at hval; obtain ⟨cs, rfl, _⟩ := hval; exact ⟨cs, rfl⟩
  obtain ⟨cs, rfl⟩ := hv
  obtain ⟨fuel, hd⟩ := hd
  obtain ⟨ys, n, _, hx, hlen, hyl, hfl⟩ := DataW.trod_struct ht hd
  injection hx with hx _
  have hcl : cs.toList.length = ks.length + 1 := hlen.trans hct
  refine ⟨cs, rfl, ?_⟩
  have hm8 := hfl m fd hl
  have hy8 : ys[m]? = some ys[m] := List.getElem?_eq_getElem (by omega)
  rw [hy8, ho, hc2] at hm8
  have hdr : (cs.toList.drop ks.length).take 1 = cs.toList.drop ks.length := List.take_of_length_le (by rw [List.length_drop]; omega)
  have hm8' : DataW.trod enc P w base (fun _ => true) true n fd.type (cs.toList.drop ks.length) = some ys[m] := by
    rw [← hdr]; exact hm8
  have hmt : Mt ks (cs.toList.take ks.length) := by
    have h1 := flatFs_mt (P := P) (cs := cs.toList.take ks.length) (fs.toList.take m) 0 ks hf (fun fd hfd l hg => ?_) (by rw [List.length_take]; omega)
    · simpa using h1
    · have hin := flatFs_in _ _ _ hf fd hfd l hg
      obtain ⟨i, hi, hfi⟩ := List.getElem_of_mem hfd
      have hi2 : i < m := by rw [List.length_take] at hi; omega
      have e1 : fs[i]? = some fd := by
        rw [List.getElem_take] at hfi
        rw [Array.getElem?_eq_getElem (by omega)]
        simpa using hfi
      have h2 := hfl i fd e1
      have hy : ys[i]? = some ys[i] := List.getElem?_eq_getElem (by omega)
      rw [hy] at h2
      have h3 := flat_mt _ _ _ _ _ _ hg h2
      rw [List.drop_take, List.take_take, Nat.min_eq_left (by omega)]
      exact h3
  rcases open_ints hs he hc hm8' with ⟨hcs, _⟩ | ⟨x, len, cap, zs, hcs, _, h1, h2, h3, h4, h5, h6⟩
  · exact ⟨none, 0, 0, [], hmt, hcs, .inl ⟨rfl, rfl, rfl, rfl⟩, by simp⟩
  · simp only [if_true] at h3
    refine ⟨some x, len, cap, zs, hmt, hcs, .inr ⟨x, rfl, h1, h2, h3, h5, h6⟩, ?_⟩
    have hd8 : ((ys.map (·.1))[m]?) = some (.slice (lits k (zs.take len)) (lits k (zs.drop len))) := by
      rw [List.getElem?_map, hy8, Option.map_some, h4]
    have ht8 : (fs.toList.map (·.type))[m]? = some fd.type := by
      rw [List.getElem?_map, Array.getElem?_toList, hl]; rfl
    have hwt : DataW.weights P t d = DataW.weightsEach P (fs.toList.map (·.type)) (ys.map (·.1)) := by
      rw [hx, DataW.weights, ht]
    have := hw (((lits (H := H) k (zs.take len)).length + (lits (H := H) k (zs.drop len)).length) * P.bytesOf e) (by
      rw [hwt]
      exact DataW.weights_mem_each ht8 hd8 _ (by simp [DataW.weights, hs]))
    simp only [lits, List.length_map, List.length_take, List.length_drop] at this
    rw [hby] at this
    have e9 : min len zs.length + (zs.length - len) = cap := by omega
    rw [e9] at this
    exact this
end
/-- Such an argument in the abstract. -/
theorem tail_rel {ks : List (Option IntKind)} {b : Nat} {cs : Array Value} {w : World} (h : TailArg w ks .u8 b cs) {α : Type} {E : Elem α} (hsz : E.sz = ks.length) (hok : ∀ g, MtC ks g → E.ok g = true) :
    ∃ (a : α) (l : List Int), (∃ g, MtC ks g ∧ a = E.rd g) ∧ BL l ∧ l.length * b ≤ reachBytes ∧ (FV.e (.agg (E.sz + 1) (tailC E a (.sl true l.length eB.sz (rowF eB l))))).rel (fun _ => none) (fun _ => False) (fun _ => False) w (.agg cs) := by
  obtain ⟨a, len, cap, zs, hm, hlast, hrow, hb⟩ := h
  obtain ⟨h1, h2⟩ := hm.g
  obtain ⟨l, hl, hlen, hrel⟩ := rowB_cut hrow
  have hle := (rowB_all hrow).2.2
  have hn : cs.size = E.sz + 1 := by
    have e1 := congrArg List.length hlast
    rw [List.length_drop] at e1
    have e2 := hm.len
    rw [List.length_take] at e2
    have e3 : cs.toList.length = cs.size := by simp
    simp only [List.length_cons, List.length_nil] at e1
    omega
  refine ⟨E.rd (gOf (cs.toList.take ks.length)), l, ⟨_, h1, rfl⟩, hl, Nat.le_trans (Nat.mul_le_mul_right _ (by omega)) hb, cs, rfl, hn, fun i u hu => ?_⟩
  have hi : i < cs.size := (Array.getElem?_eq_some_iff.1 hu).1
  have hu' : cs.toList[i]? = some u := by simpa using hu
  by_cases he : i = E.sz
  · subst he
    rw [tailC_end]
    have e1 : (cs.toList.drop ks.length)[0]? = some u := by
      rw [List.getElem?_drop, Nat.add_zero, ← hsz]; exact hu'
    rw [hlast] at e1
    injection e1 with e1
    rw [← e1]
    exact hrel
  · rw [tailC_lt (by omega), ← E.ok_eq _ (hok _ h1) i (by omega)]
    refine h2 _ _ _ _ i u ?_
    rw [List.getElem?_take, if_pos (by omega)]
    exact hu'
end Go.Proofs.Ytjknkfjhcapocaa
/- Packets and addresses as arguments of laws. -/
namespace Go.Proofs.Ytjknkfjhcapocaa
open Go.RowKit AX
set_option linter.unusedVariables false
abbrev ksPk : List (Option IntKind) := [some .u8, some .u32, some .u8, some .u8, some .u8, some .u8, some .u8, some .u8, some .u8, some .u8, some .u8, some .u8, some .u8, some .u8, some .u8, some .u8, some .u8, some .u8, some .u8, some .u8, some .u8, some .u8, some .u8, some .u8, some .u8, some .u8, some .u8, some .u8, some .u8, some .u8, some .u8, some .u8, some .u8, some .u8, some .u8, some .u8, some .u16, some .u16]
theorem ksPk_8 {i : Nat} (h : i < 32) : ksPk[4 + i]? = some (some .u8) := by
  iterate 32 (rcases i with _ | i; rfl)
  omega
theorem ok_pk (g : Nat → CV) (h : MtC ksPk g) : eHd.ok g = true := by
  have a1 : okA .u8 g 4 16 = true := okA_of fun i hi => h.k (j := 4 + i) (ksPk_8 (by omega))
  have a2 : okA .u8 g 20 16 = true := okA_of fun i hi => h.k (j := 20 + i) (by have := ksPk_8 (i := 16 + i) (by omega); rw [show 4 + (16 + i) = 20 + i by omega] at this; exact this)
  show (isK .u8 (g 0) && isK .u32 (g 1) && isK .u8 (g 2) && isK .u8 (g 3) && okA .u8 g 4 16 && okA .u8 g 20 16 && isK .u16 (g 36) && isK .u16 (g 37)) = true
  rw [h.k (j := 0) rfl, h.k (j := 1) rfl, h.k (j := 2) rfl, h.k (j := 3) rfl, h.k (j := 36) rfl, h.k (j := 37) rfl, a1, a2]; rfl
theorem wf_u16p {n : Int} (h : (Lit.int .u16 n).wf = true) : 0 ≤ n ∧ n < 65536 := by
  simp [Lit.wf, IntKind.min, IntKind.max, IntKind.bits, IntKind.signed] at h
  omega
/-- The numbers of a packet that came in are in their ranges. -/
theorem pk_wf {g : Nat → CV} (h : MtC ksPk g) {l : List Int} (hl : BL l) : PkW (eHd.rd g, l) := by
  have v8 : ∀ o i, i < 16 → (o = 4 ∨ o = 20) → 0 ≤ valI (g (o + i)) ∧ valI (g (o + i)) < 256 := fun o i hi ho => by
    rcases ho with rfl | rfl
    · exact wf_u8 (h.wf (j := 4 + i) (ksPk_8 (by omega)))
    · exact wf_u8 (h.wf (j := 20 + i) (by have := ksPk_8 (i := 16 + i) (by omega); rw [show 4 + (16 + i) = 20 + i by omega] at this; exact this))
  refine ⟨wf_u8 (h.wf (j := 0) rfl), wf_u32p (h.wf (j := 1) rfl), wf_u8 (h.wf (j := 2) rfl), wf_u8 (h.wf (j := 3) rfl), fun i => ?_, fun i => ?_, wf_u16p (h.wf (j := 36) rfl), wf_u16p (h.wf (j := 37) rfl), hl⟩
  · unfold vget
    split
    · exact v8 4 i (by assumption) (.inl rfl)
    · omega
  · unfold vget
    split
    · exact v8 20 i (by assumption) (.inr rfl)
    · omega
abbrev ksIp : List (Option IntKind) := [some .u8, some .u8, some .u8, some .u8, some .u8, some .u8, some .u8, some .u8, some .u8, some .u8, some .u8, some .u8, some .u8, some .u8, some .u8, some .u8]
theorem ksIp_8 : ∀ i, i < 16 → ksIp[0 + i]? = some (some .u8) := by decide
theorem ok_ip (g : Nat → CV) (h : MtC ksIp g) : (eA .u8 16).ok g = true := okA_of fun i hi => h.k (ksIp_8 i hi)
theorem ip_wf {c : Fin 16 → Int} (h : ∃ g, MtC ksIp g ∧ c = (eA .u8 16).rd g) : byteOk c := by
  obtain ⟨g, hg, rfl⟩ := h
  exact ⟨fun q => by have := wf_u8 (hg.wf (ksIp_8 q.1 q.2)); rw [Nat.zero_add] at this; exact this⟩
end Go.Proofs.Ytjknkfjhcapocaa
/- MobilityTunnels: the walk. -/
namespace Go.Proofs.Ytjknkfjhcapocaa
open Go.RowKit AX
set_option linter.unusedVariables false
theorem walkMobilityTunnels (x0 : Array Value) (a1 : Option Addr) (len1 cap1 : Nat) (z1 : List Int) (x2 : Array Value) (x3 : Array Value) (w : World) (w0 : TailArg w ksPk .u8 1 x0) (w1 : IsRow .i64 w a1 len1 cap1 z1) (rr1 : cap1 * 8 ≤ 140737488351232) (w2 : Mt ksIp x2.toList) (w3 : Mt ksIp x3.toList) :
    Calls Try.prog 13 #[.agg x0, .slice a1 len1 cap1, .agg x2, .agg x3] w fun e w' => e = .returned (.bool true) ∧ Below w.heap.size w w' := by
  obtain ⟨h, l, ⟨g, hg, hh⟩, hl, hlen, hrel⟩ := tail_rel w0 (E := eHd) rfl ok_pk
  obtain ⟨a, ha, h2⟩ := flat_rel w2 (E := eA .u8 16) (w := w) rfl ok_ip
  obtain ⟨b, hb, h3⟩ := flat_rel w3 (E := eA .u8 16) (w := w) rfl ok_ip
  have hbb := reachBytes_lt
  exact walk_of (tunnels_ok (h, l) (by rw [hh]; exact pk_wf hg hl) (by show l.length ≤ _; omega) len1 z1 (rng_of w1) a b (ip_wf ha) (ip_wf hb)) (relL_cons hrel (relL_cons (row_rel w1) (relL_cons h2 (relL1 h3))))
end Go.Proofs.Ytjknkfjhcapocaa
