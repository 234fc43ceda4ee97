/- Texts of one's own in one file: Dr, BJ, Re4, Re5h, Re5g, Re5f, Re5e, Re5d, Re5c, Re5b, Re5a, Re5, PkT2, PkT3, PkT4, PkT5, PkN, PkU, Ib, Dd, Jc, Tp5, IhW, IphcShortA, IphcDecodesA, Fp, Wt, IphcDecodesW. -/
import Derived.Test.YtjknkfjhcapocaaJIphcDecodese
import Derived.Test.YtjknkfjhcapocaaJIphcDecodesb
import Derived.Test.YtjknkfjhcapocaaJIphcDecodesd
import Derived.Test.YtjknkfjhcapocaaJIphcDecodesc
import Derived.SizedLaws
import Derived.ChangeSlices
set_option linter.unusedVariables false
set_option linter.unusedSimpArgs false
set_option maxHeartbeats 16000000
set_option maxRecDepth 20000
namespace Go.Proofs.Ytjknkfjhcapocaa.AX
open Go.RowKit
theorem failS_ne {e c : Int} {bad : Bool} (h : e ≠ 0) : failS e bad c = e := if_neg (fun x => h x.2)
theorem failS_t {c : Int} : failS 0 true c = c := if_pos ⟨rfl, rfl⟩
theorem failS_f {c : Int} : failS 0 false c = 0 := if_neg (fun x => Bool.noConfusion x.1)
theorem takeS_ne {b : List Int} {q e n : Int} (h : e ≠ 0) : (takeS b q e n).2 = (q, e) := by
 unfold takeS
 rw [failS_ne h, if_neg h]
theorem uintS_ne {b : List Int} {q e n : Int} (h : e ≠ 0) : uintS b q e n = (0, q, e) := if_neg h
theorem uintS_0 {b : List Int} {q n : Int} : uintS b q 0 n = ((numF b q n).1.1, (numF b q n).2, (numF b q n).1.2) := if_pos rfl
theorem adrV_ne {b : List Int} {q E m first own : Int} (h : E ≠ 0) : (adrV b q E m first own).2 = (q, E) := by
 unfold adrV
 split
 . exact takeS_ne h
 . split
   . rw [uintS_ne h]
   . split
     . rw [uintS_ne h]
     . rfl
theorem take_0 {b : List Int} {q : Int} (hr : RdOk b q) (n : Nat) (hn : n <= 16) : (q + n <= b.length /\ takeS b q 0 n = ((b.drop q.toNat).take n, q + n, 0)) \/ (¬ q + n <= b.length /\ takeS b q 0 n = (List.replicate n 0, q, 4)) := by
 have h1 := hr.lo
 have h2 := hr.hi
 have h3 := hr.len
 have w0 : IntKind.i64.wrap ((b.length : Int) - q) = b.length - q := IntWalk.i64_in _ (by omega)
 unfold takeS
 rw [w0, Int.toNat_natCast]
 by_cases h : (b.length : Int) - q < n
 . rw [decide_eq_true h, failS_t, if_neg (by decide)]
   exact .inr ⟨by omega, rfl⟩
 . rw [decide_eq_false h, failS_f, if_pos rfl]
   exact .inl ⟨by omega, rfl⟩
theorem ip_take {b : List Int} {q : Int} (h : q + 16 <= b.length) (h0 : 0 <= q) : ipOfL ((b.drop q.toNat).take 16) = ipAt b q := by
 funext i
 have := i.2
 exact getD_dt b q.toNat 16 i.1 (by omega) (by omega)
theorem adrV_0 {b : List Int} {q m first : Int} {k : Adr} {P : Pfx} (hr : RdOk b q) (hm : 0 <= m /\ m <= 3) (hf : ∀ y, ofF first y = jn P.ip y) : (adrV b q 0 m first (iidF k).1).2 = ((uniV b m k P q).2, (uniV b m k P q).1.2) /\ ((uniV b m k P q).1.2 = 0 -> (adrV b q 0 m first (iidF k).1).1 = (uniV b m k P q).1.1) := by
 have h1 := hr.lo
 unfold adrV uniV
 by_cases c0 : m = 0
 . rw [if_pos c0, if_pos c0]
   have ht := take_0 hr 16 (by decide)
   rcases ht with ⟨g1, g2⟩ | ⟨g1, g2⟩
   . have g2' : takeS b q 0 16 = ((b.drop q.toNat).take 16, q + 16, 0) := g2
     have e1 : ipRF b q = ((ipAt b q, 0), q + 16) := if_neg (by omega)
     rw [g2', e1]
     exact ⟨rfl, fun _ => ip_take g1 h1⟩
   . have g2' : takeS b q 0 16 = (List.replicate 16 0, q, 4) := g2
     have e1 : ipRF b q = ((zeroA, 4), q) := if_pos (by omega)
     rw [g2', e1]
     exact ⟨rfl, fun h => absurd (show (4 : Int) = 0 from h) (by decide)⟩
 . rw [if_neg c0, if_neg c0]
   by_cases c1 : m = 1
   . rw [if_pos c1, if_pos c1, uintS_0]
     unfold thenD
     by_cases h : (numF b q 8).1.2 = 0
     . rw [if_pos h, h]
       exact ⟨rfl, fun _ => hf _⟩
     . rw [if_neg h]
       exact ⟨rfl, fun g => absurd g h⟩
   . rw [if_neg c1, if_neg c1]
     by_cases c2 : m = 2
     . rw [if_pos c2, if_pos c2, uintS_0]
       unfold thenD
       by_cases h : (numF b q 2).1.2 = 0
       . rw [if_pos h, h]
         exact ⟨rfl, fun _ => (hf _).trans (congrArg (jn P.ip) (Int.add_comm _ _))⟩
       . rw [if_neg h]
         exact ⟨rfl, fun g => absurd g h⟩
     . rw [if_neg c2, if_neg c2]
       exact ⟨rfl, fun _ => hf _⟩
section
variable {R : RD Hdr} {b : List Int} {e q : Int}
theorem J_uniV {m first : Int} {k : Adr} {P : Pfx} {K : (Fin 16 -> Int) -> Int -> RD Hdr} (hr : RdOk b q) (hm : 0 <= m /\ m <= 3) (hf : ∀ y, ofF first y = jn P.ip y) (h : R = thenD (thenD (uniV b m k P q) zeroA fun a q => if mcast a = true then ((zeroA, 5), q) else ((a, 0), q)) zeroH K) :
 J R (failS (adrV b q 0 m first (iidF k).1).2.2 (mcast (adrV b q 0 m first (iidF k).1).1) 5) (K (adrV b q 0 m first (iidF k).1).1 (adrV b q 0 m first (iidF k).1).2.1) := by
 obtain ⟨h1, h2⟩ := adrV_0 (k := k) hr hm hf
 obtain ⟨U, eU⟩ : ∃ x, uniV b m k P q = x := ⟨_, rfl⟩
 obtain ⟨V, eV⟩ : ∃ x, adrV b q 0 m first (iidF k).1 = x := ⟨_, rfl⟩
 rw [eU, eV] at h1 h2
 rw [eU] at h
 rw [eV]
 have e1 : V.2.1 = U.2 := congrArg Prod.fst h1
 have e2 : V.2.2 = U.1.2 := congrArg Prod.snd h1
 rw [thenD_assoc] at h
 unfold thenD at h
 by_cases hu : U.1.2 = 0
 . rw [if_pos hu] at h
   dsimp only at h
   rw [e1, e2, h2 hu, hu]
   cases hc : mcast U.1.1 with
   | true =>
     rw [hc, if_pos rfl, if_neg (show ¬ (5 : Int) = 0 by decide)] at h
     rw [failS_t]
     exact ⟨fun g => absurd g (by decide), fun _ => by rw [h]⟩
   | false =>
     rw [hc] at h
     rw [failS_f]
     exact ⟨fun _ => h, fun g => absurd rfl g⟩
 . rw [if_neg hu] at h
   rw [e2, failS_ne hu]
   exact ⟨fun g => absurd g hu, fun _ => by rw [h]⟩
theorem J_adr {ctx : Bool} {m : Int} {k : Adr} {C : Ctx × Bool} {K : (Fin 16 -> Int) -> Int -> RD Hdr} (hr : RdOk b q) (hm : 0 <= m /\ m <= 3) (hb : byteOk C.1.ip) (h : J R e (thenD (uniD b ctx m k C q) zeroH K)) :
 J R (failS (adrS b q e ctx m k C).2.2 (mcast (adrS b q e ctx m k C).1) 5) (K (adrS b q e ctx m k C).1 (adrS b q e ctx m k C).2.1) := by
 unfold adrS
 by_cases he : e = 0
 . subst he
   have h1 := h.ok rfl
   unfold uniD at h1
   have eE : ∀ x, ((m == 3) && !(iidF k).2) = x -> adrE 0 ctx m k C = if ctx = true /\ failS 0 x 5 = 0 then failS (failS (failS 0 x 5) (!C.2) 9) (decide (64 < C.1.bits)) 5 else failS 0 x 5 := fun x hx => by unfold adrE; rw [hx]
   have eF : ∀ x, ((m == 3) && !(iidF k).2) = x -> adrF 0 ctx m k C = if ctx = true /\ failS 0 x 5 = 0 then hiF C.1.ip else 18338657682652659712 := fun x hx => by unfold adrF; rw [hx]
   have stop : ∀ c : Int, c ≠ 0 -> adrE 0 ctx m k C = c -> R = thenD ((zeroA, c), q) zeroH K -> J R (failS (adrV b q (adrE 0 ctx m k C) m (adrF 0 ctx m k C) (iidF k).1).2.2 (mcast (adrV b q (adrE 0 ctx m k C) m (adrF 0 ctx m k C) (iidF k).1).1) 5) (K (adrV b q (adrE 0 ctx m k C) m (adrF 0 ctx m k C) (iidF k).1).1 (adrV b q (adrE 0 ctx m k C) m (adrF 0 ctx m k C) (iidF k).1).2.1) := fun c hc hE hR => by
    rw [hE]
    have := adrV_ne (b := b) (q := q) (m := m) (first := adrF 0 ctx m k C) (own := (iidF k).1) hc
    rw [this, failS_ne hc]
    rw [thenD_err hc] at hR
    exact ⟨fun g => absurd g hc, fun _ => by rw [hR]⟩
   by_cases c1 : m = 3 /\ (iidF k).2 = false
   . rw [if_pos c1] at h1
     have hx : ((m == 3) && !(iidF k).2) = true := by rw [c1.1, c1.2]; rfl
     refine stop 5 (by decide) ?_ h1
     rw [eE _ hx, failS_t, if_neg (fun x => absurd x.2 (by decide))]
   . rw [if_neg c1] at h1
     have hx : ((m == 3) && !(iidF k).2) = false := by
      cases hi : (iidF k).2 with
      | true => simp
      | false =>
        have : ¬ m = 3 := fun h => c1 ⟨h, hi⟩
        rw [show (m == 3) = false from beq_eq_false_iff_ne.2 this]; rfl
     have eE := eE _ hx
     have eF := eF _ hx
     rw [failS_f] at eE eF
     cases hctx : ctx with
     | true =>
       rw [hctx] at eE eF h1 stop
       rw [if_pos ⟨rfl, rfl⟩] at eE eF
       by_cases c2 : C.2 = false
       . rw [if_pos ⟨rfl, c2⟩] at h1
         refine stop 9 (by decide) ?_ h1
         rw [eE, c2]
         show failS (failS 0 true 9) _ 5 = 9
         rw [failS_t, failS_ne (show (9 : Int) ≠ 0 by decide)]
       . have c2' : C.2 = true := by simpa using c2
         rw [if_neg (fun x => c2 x.2)] at h1
         rw [c2'] at eE
         by_cases c3 : 64 < C.1.bits
         . rw [if_pos ⟨rfl, c3⟩] at h1
           refine stop 5 (by decide) ?_ h1
           rw [eE, decide_eq_true c3]
           rfl
         . rw [if_neg (fun x => c3 x.2)] at h1
           have eE' : adrE 0 true m k C = 0 := by rw [eE, decide_eq_false c3]; rfl
           rw [eE', eF]
           exact J_uniV (P := pfxOf C.1) hr hm (fun y => of_hi hb y) h1
     | false =>
       rw [hctx] at eE eF h1
       rw [if_neg (fun x => Bool.noConfusion x.1)] at eE eF
       rw [if_neg (fun x => Bool.noConfusion x.1), if_neg (fun x => Bool.noConfusion x.1)] at h1
       rw [eE, eF]
       exact J_uniV (P := llP) hr hm llP_of h1
 . have eE : adrE e ctx m k C = e := by
    unfold adrE
    rw [failS_ne he, if_neg (fun x => he x.2)]
   rw [eE]
   have := adrV_ne (b := b) (q := q) (m := m) (first := adrF e ctx m k C) (own := (iidF k).1) he
   rw [this, failS_ne he]
   exact ⟨fun g => absurd g he, fun _ => h.err he⟩
theorem grpS_ne {m : Int} (h : e ≠ 0) : (grpS b q e m).2 = (q, e) := by
 unfold grpS
 split
 . exact takeS_ne h
 . split
   . exact takeS_ne h
   . split
     . exact takeS_ne h
     . exact takeS_ne h
theorem mc_grp (n : Nat) (w : List Int) : mcast (grpV n w) = true := rfl
theorem J_take {n : Nat} {K : (Fin 16 -> Int) -> Int -> RD Hdr} (hr : RdOk b q) (hn : 1 <= n /\ n <= 8) (h : R = thenD (thenD (numF b q n) zeroA fun v q' => ((grpV n ((b.drop q.toNat).take n), 0), q')) zeroH K) :
 J R (failS (takeS b q 0 n).2.2 (mcast (grpV n (takeS b q 0 n).1) != true) 5) (K (grpV n (takeS b q 0 n).1) (takeS b q 0 n).2.1) := by
 rw [mc_grp]
 have h0 := hr.lo
 rcases take_0 hr n (by omega) with ⟨g1, g2⟩ | ⟨g1, g2⟩
 . have e1 : (numF b q n).1.2 = 0 /\ (numF b q n).2 = q + n := by
    unfold numF uintF
    rw [if_pos (show 1 <= (n : Int) /\ (n : Int) <= 8 /\ 0 <= q /\ q <= b.length - n by omega)]
    exact ⟨rfl, rfl⟩
   rw [g2]
   unfold thenD at h
   rw [if_pos e1.1, e1.2, if_pos rfl] at h
   exact ⟨fun _ => h, fun g => absurd failS_f g⟩
 . have e1 : numF b q n = ((0, 4), q) := by
    unfold numF
    rw [if_neg]
    intro hc
    have := uint_true hc
    omega
   rw [g2]
   rw [e1, thenD_err (show (4 : Int) ≠ 0 by decide), thenD_err (show (4 : Int) ≠ 0 by decide)] at h
   exact ⟨fun g => absurd ((failS_ne (show (4 : Int) ≠ 0 by decide)).symm.trans g) (show ¬ (4 : Int) = 0 by decide), fun _ => by rw [h]; exact (failS_ne (show (4 : Int) ≠ 0 by decide)).symm⟩
theorem J_grp {m : Int} {K : (Fin 16 -> Int) -> Int -> RD Hdr} (hr : RdOk b q) (hm : 0 <= m /\ m <= 3) (h : J R e (thenD (grpD b m q) zeroH K)) :
 J R (failS (grpS b q e m).2.2 (mcast (grpS b q e m).1 != true) 5) (K (grpS b q e m).1 (grpS b q e m).2.1) := by
 by_cases he : e = 0
 . subst he
   have h1 := h.ok rfl
   unfold grpD at h1
   unfold grpS
   by_cases c0 : m = 0
   . rw [if_pos c0] at h1 ⊢
     rw [thenD_assoc] at h1
     rcases take_0 hr 16 (by decide) with ⟨g1, g2⟩ | ⟨g1, g2⟩
     . have g2' : takeS b q 0 16 = ((b.drop q.toNat).take 16, q + 16, 0) := g2
       have e1 : ipRF b q = ((ipAt b q, 0), q + 16) := if_neg (by omega)
       rw [e1, thenD_ok] at h1
       rw [g2']
       dsimp only
       rw [ip_take g1 hr.lo]
       cases hc : mcast (ipAt b q) with
       | true =>
         rw [hc, if_pos rfl, thenD_ok] at h1
         exact ⟨fun _ => h1, fun g => absurd failS_f g⟩
       | false =>
         rw [hc, if_neg (by decide), thenD_5] at h1
         exact ⟨fun g => absurd (failS_t.symm.trans g) (show ¬ (5 : Int) = 0 by decide), fun _ => by rw [h1]; rfl⟩
     . have g2' : takeS b q 0 16 = (List.replicate 16 0, q, 4) := g2
       have e1 : ipRF b q = ((zeroA, 4), q) := if_pos (by omega)
       rw [e1, thenD_err (show (4 : Int) ≠ 0 by decide)] at h1
       rw [g2']
       exact ⟨fun g => absurd ((failS_ne (show (4 : Int) ≠ 0 by decide)).symm.trans g) (show ¬ (4 : Int) = 0 by decide), fun _ => by rw [h1]; exact (failS_ne (show (4 : Int) ≠ 0 by decide)).symm⟩
   . rw [if_neg c0] at h1 ⊢
     by_cases c1 : m = 1
     . subst c1
       rw [if_pos rfl]
       exact J_take (n := 6) hr (by decide) h1
     . rw [if_neg c1]
       by_cases c2 : m = 2
       . subst c2
         rw [if_pos rfl]
         exact J_take (n := 4) hr (by decide) h1
       . rw [if_neg c2]
         have c3 : m = 3 := by omega
         subst c3
         exact J_take (n := 1) hr (by decide) h1
 . rw [grpS_ne he, failS_ne he]
   exact ⟨fun g => absurd g he, fun _ => h.err he⟩
end
structure Sem (P : Program) (nt np : Nat) (c : Code) (fr : Fr) (H : Hp) (nx : Nat) (K : Kt) : Prop where
 run : ∀ (cx : Cx) (fx : Ren), (∀ k b, cx.pin k = some b -> k < np) -> ∀ a w, Is cx nt np fx fr H nx a w -> c.wp P (lift cx nt np fx K) a w
section
variable {P : Program} {T : Tys} {Q : Qs} {wd nt np : Nat}
theorem sem_exec (hwd : 0 < wd) (hT : TysOk P T) (hQ : QsOk P Q) (hm : P.follows .mixedOrders = true) {c : Code} {fr : Fr} {H : Hp} {nx : Nat} {K : Kt} (h : exec T Q wd nt np c fr H nx K) : Sem P nt np c fr H nx K :=
 ⟨fun cx fx hpin => exec_ok hwd hT hQ hm hpin c fr H nx K h⟩
theorem sem_seq {a b : Code} {fr : Fr} {H : Hp} {nx : Nat} {K : Kt} (h : Sem P nt np a fr H nx (seqK (fun fr H nx => Sem P nt np b fr H nx K) K)) : Sem P nt np (.seq a b) fr H nx K := by
 refine ⟨fun cx fx hpin a' w hs => ?_⟩
 refine wp_seq (wp_mono (h.run cx fx hpin a' w hs) fun e a2 w2 hq => ?_)
 obtain ⟨fr', H', nx', hk, hs'⟩ := hq
 cases e <;> first | exact ⟨fr', H', nx', hk, hs'⟩ | exact hk.run cx fx hpin a2 w2 hs'
theorem sem_to {σ : Type} (S : σ -> Hd) (s : σ) (rho : List (Nat × Option Nat)) {c : Code} {fr : Fr} {H : Hp} {nx : Nat} {K : Kt} (hnp : Nat.ble np (S s).nx = true) (h0 : To S np fr H s rho) (h : Sem P nt np c (S s).fr (S s).H (S s).nx K) : Sem P nt np c fr H nx K := by
 refine ⟨fun cx fx hpin a w hs => ?_⟩
 obtain ⟨r, st, hf, hnm, hts, hdf, hnp', hfx⟩ := hs
 obtain ⟨g1, g2, g3, g4⟩ := weaken (c := ⟨H, (S s).H, rho, (S s).nx, false⟩) st hf hpin hnp h0.1 rfl h0.2.1 h0.2.2
 exact h.run cx fx hpin a w ⟨_, g1, g2, g3, hts, hdf, Nat.le_of_ble_eq_true hnp, fun k hk => (g4 k hk).trans (hfx k hk)⟩
theorem sem_cut (hwd : 0 < wd) (hT : TysOk P T) (hQ : QsOk P Q) (hM : QsMono Q) (hm : P.follows .mixedOrders = true) {a b : Code} {fr : Fr} {H : Hp} {nx : Nat} {K : Kt} {σ : Type} (S : σ -> Hd) (hnp : ∀ s, Nat.ble np (S s).nx = true)
 (h1 : exec T Q wd nt np a fr H nx (seqK (fun fr H _ => ∃ s rho, To S np fr H s rho) K)) (h2 : ∀ s, Sem P nt np b (S s).fr (S s).H (S s).nx K) : Sem P nt np (.seq a b) fr H nx K := by
 refine sem_seq (sem_exec hwd hT hQ hm (exec_mono hM a _ _ (seqK_mono (fun fr H nx h => ?_) (fun _ _ _ _ h => h)) _ _ _ h1))
 obtain ⟨s, rho, h⟩ := h
 exact sem_to S s rho (hnp s) h (h2 s)
theorem sem_step (hwd : 0 < wd) (hT : TysOk P T) (hQ : QsOk P Q) (hm : P.follows .mixedOrders = true) {a b : Code} {fr : Fr} {H : Hp} {nx : Nat} {K : Kt} (h : exec T Q wd nt np a fr H nx (seqK (fun fr H nx => Sem P nt np b fr H nx K) K)) : Sem P nt np (.seq a b) fr H nx K := sem_seq (sem_exec hwd hT hQ hm h)
theorem fn_runS {cx : Cx} {f : FuncId} (hT : TysOk P T) {fn : Func} {c : Code} (hf : P.funcs[f]? = some fn) (hb : fn.body = some c) {args : List FV} (hn : args.length <= fn.ntmps) {H0 : Hp} {post : FV -> Hp -> Nat -> Prop}
 (h : Sem P fn.ntmps np c (argFr args 0) H0 np (endH T fn.results.toList post)) (hpin : ∀ k b, cx.pin k = some b -> k < np) {r : Ren} {w : World} {vals : Array Value} (st : St cx r H0 w) (hrel : RelL r cx.X (wr r H0) w args vals) (hnm : ∀ k, np <= k -> r k = none /\ hget H0 k = none) :
 Calls P f vals w fun e w' => ∃ v r' x Hf nf, e = .returned v /\ post x Hf nf /\ St cx r' Hf w' /\ (∀ k, nf <= k -> r' k = none /\ hget Hf k = none) /\ x.rel r' cx.X (wr r' Hf) w' v /\ ∀ k, k < np -> r' k = r k := by
 refine calls_of_wp hf hb ?_
 have hsz : vals.size = args.length := hrel.1
 have fr0 : FrOk cx r H0 w (argFr args 0) (vals ++ Array.replicate (fn.ntmps - vals.size) undef) := by
  intro t
  rw [argFr_get, if_pos (Nat.zero_le _), Nat.sub_zero]
  cases hx : args[t]? with
  | none => trivial
  | some x =>
    have hlt : t < vals.size := by rw [hsz]; exact (List.getElem?_eq_some_iff.1 hx).1
    have hv : vals[t]? = some vals[t] := Array.getElem?_eq_getElem hlt
    have e1 : (vals ++ Array.replicate (fn.ntmps - vals.size) undef).getD t undef = vals[t] := by
     rw [Array.getD_eq_getD_getElem?, Array.getElem?_append_left hlt, hv]; rfl
    rw [e1]
    exact hrel.2 t x _ hx hv
 refine wp_mono (h.run cx r hpin _ w ⟨_, st, fr0, hnm, by simp; omega, rfl, Nat.le_refl _, fun _ _ => rfl⟩) fun e a' w' hq => ?_
 obtain ⟨fr, H, nx, hk, r', st', hfr, hnm', _, hdf, _, hfx'⟩ := hq
 have main : ∀ l, resL T fr H fn.results.toList = some l -> post (asF l) H nx -> a'.defers = [] /\ ∃ v, (results fn a'.tmps).run P w' = .ok v w' /\ ∃ u r' x Hf nf, Ending.returned v = .returned u /\ post x Hf nf /\ St cx r' Hf w' /\ (∀ k, nf <= k -> r' k = none /\ hget Hf k = none) /\ x.rel r' cx.X (wr r' Hf) w' u /\ ∀ k, k < np -> r' k = r k := by
  intro l hl hp
  obtain ⟨v, g1, g2⟩ := results_ok hT st' hfr hl
  exact ⟨hdf, v, g1, v, r', _, H, nx, rfl, hp, st', hnm', g2, hfx'⟩
 cases e with
 | ret =>
   simp only [endH] at hk
   split at hk
   . rename_i l hl; exact main l hl hk
   . exact hk.elim
 | normal =>
   simp only [endH] at hk
   split at hk
   . rename_i l hl; exact main l hl hk
   . exact hk.elim
 | exit => exact hk.elim
 | goto => exact hk.elim
 | panic => exact hk.elim
 | outgrown => exact hk.elim
theorem pure_introS (hT : TysOk P T) {f : FuncId} {fn : Func} {c : Code} (hf : P.funcs[f]? = some fn) (hb : fn.body = some c) (args : List FV) (hn : args.length <= fn.ntmps) (spec : FV)
 (h : Sem P fn.ntmps 0 c (argFr args 0) [] 0 (endH T fn.results.toList fun x H _ => Done H x spec)) : PureOk P f args spec := by
 intro X w vals hrel hX
 have hrel' : RelL (fun _ => none) X (wr (fun _ => none) []) w args vals := by rw [wr_nil]; exact hrel
 refine (fn_runS hT hf hb hn h (fun _ _ h => by cases h) (st_start hX) hrel' (fun _ _ => ⟨rfl, rfl⟩)).mono fun e w' he => ?_
 obtain ⟨v, r', x, Hf, nf, rfl, hfin, st, _, hx, _⟩ := he
 refine ⟨v, rfl, ⟨st.os, st.tape, st.output, st.size, fun b hb => st.kept b hb id⟩, ?_⟩
 have h1 := hfin.le (fun k e' h => by cases h) _ r' w' v st hx
 rw [ren_nil] at h1
 refine FV.rel_w (fun b hb => ?_) _ _ h1
 exact .inr ⟨rfl, hb⟩
end
theorem rfN_le0 {c : Wc} {b : List Int} {q q' e e' : Int} (hf : c.fin = false) (h : q = q') (h2 : e = e') : LeN c (rfN false b q e) (rfN false b q' e') :=
 leN_var ⟨⟨⟨trivial, (cl_slB eB b) c hf⟩, leC_int h⟩, leC_int h2⟩
theorem uintS_r {b : List Int} {q e n : Int} (h : RdOk b q) : RdOk b (uintS b q e n).2.1 := by
 unfold uintS
 split
 . exact num_ok h
 . exact h
theorem uintS_1 {b : List Int} {q e : Int} (hb : BL b) : 0 <= (uintS b q e 1).1 /\ (uintS b q e 1).1 < 256 := by
 unfold uintS
 split
 . exact num1_v hb
 . exact ⟨(by decide : (0 : Int) <= 0), (by decide : (0 : Int) < 256)⟩
theorem uintS_3 {b : List Int} {q e : Int} (hb : BL b) : 0 <= (uintS b q e 3).1 /\ (uintS b q e 3).1 < 16777216 := by
 unfold uintS
 split
 . exact num3_v hb
 . exact ⟨(by decide : (0 : Int) <= 0), (by decide : (0 : Int) < 16777216)⟩
theorem takeS_r {b : List Int} {q e : Int} (h : RdOk b q) (n : Nat) (hn : n <= 16) : RdOk b (takeS b q e n).2.1 := by
 by_cases he : e = 0
 . subst he
   have h0 := h.lo
   rcases take_0 h n hn with ⟨g1, g2⟩ | ⟨g1, g2⟩
   . rw [g2]
     exact ⟨h.bl, h.len, by dsimp only; omega, g1⟩
   . rw [g2]
     exact h
 . rw [takeS_ne he]
   exact h
theorem grpS_r {b : List Int} {q e m : Int} (h : RdOk b q) : RdOk b (grpS b q e m).2.1 := by
 have h16 := takeS_r (e := e) h 16 (by decide)
 have h6 := takeS_r (e := e) h 6 (by decide)
 have h4 := takeS_r (e := e) h 4 (by decide)
 have h1 := takeS_r (e := e) h 1 (by decide)
 unfold grpS
 split
 . exact h16
 . split
   . exact h6
   . split
     . exact h4
     . exact h1
theorem adrS_r {b : List Int} {q e m : Int} {ctx : Bool} {k : Adr} {C : Ctx × Bool} (h : RdOk b q) : RdOk b (adrS b q e ctx m k C).2.1 := by
 unfold adrS
 obtain ⟨E, eE⟩ : ∃ x, adrE e ctx m k C = x := ⟨_, rfl⟩
 rw [eE]
 have h16 := takeS_r (e := E) h 16 (by decide)
 unfold adrV
 split
 . exact h16
 . split
   . exact uintS_r h
   . split
     . exact uintS_r h
     . exact h
theorem raw_dm {y : Int} (h : 0 <= y /\ y < 256) (k n : Int) (hk : 0 < k) (hn : 0 < n) : (IntKind.i64.wrap (y.tdiv k)).tmod n = y / k % n := by
 have h1 : 0 <= y / k := Int.ediv_nonneg h.1 (Int.le_of_lt hk)
 have h2 : y / k <= y := Int.ediv_le_self k h.1
 rw [Int.tdiv_eq_ediv_of_nonneg h.1, IntWalk.i64_in _ (by omega), Int.tmod_eq_emod_of_nonneg h1]
theorem raw_d {y : Int} (h : 0 <= y /\ y < 256) (k : Int) (hk : 0 < k) : IntKind.i64.wrap (y.tdiv k) = y / k := by
 have h1 : 0 <= y / k := Int.ediv_nonneg h.1 (Int.le_of_lt hk)
 have h2 : y / k <= y := Int.ediv_le_self k h.1
 rw [Int.tdiv_eq_ediv_of_nonneg h.1, IntWalk.i64_in _ (by omega)]
abbrev md (a c : Int) : Int := a % c
def adrB (a : Adr) : Ent := ⟨59, 1, 3, true, fun _ => eAdr.cell a⟩
def pkB (h : Hdr) : Ent := ⟨28, 1, 39, true, fun _ => tailC eHd h .nils⟩
section
variable (b : List Int) (f t : Adr) (l : List Ctx) (now : Int)
structure RS1 where
 x : Int
 q : Int
 e : Int
 hr : RdOk b q
 hx : 0 <= x /\ x < 256
 j : J (readD b f t l now) e (thenD (numF b q 1) zeroH fun y q => if badY y = true then ((zeroH, 5), q) else KI b f t l now x y q)
def HS1 (s : RS1 b f t l now) : Hd := ⟨[(3, one (.sl false l.length eCtx.sz (rowF eCtx l))), (4, one (.int .i64 now)), (6, one (.ptr 0 0 0 false)), (7, one (.ptr 1 0 0 false)), (10, one (.ptr 2 0 0 false)), (14, one (.ptr 15 0 0 false)), (15, one (.int .i64 s.x))],
 [(0, some (adrB f)), (1, some (adrB t)), (2, some ⟨28, 1, 39, true, fun _ _ => .top⟩), (15, some (rfN false b s.q s.e))], 50⟩
structure RS2 where
 x : Int
 y : Int
 q : Int
 e : Int
 hr : RdOk b q
 hx : 0 <= x /\ x < 256
 hy : 0 <= y /\ y < 256
 j : J (readD b f t l now) e (KI b f t l now x y q)
def HS2 (s : RS2 b f t l now) : Hd := ⟨[(3, one (.sl false l.length eCtx.sz (rowF eCtx l))), (4, one (.int .i64 now)), (6, one (.ptr 0 0 0 false)), (7, one (.ptr 1 0 0 false)), (10, one (.ptr 2 0 0 false)), (14, one (.ptr 15 0 0 false)), (15, one (.int .i64 s.x)), (16, one (.int .i64 s.y)), (17, one (.bool (bitAt s.y 8))), (18, one (.bool (bitAt s.y 4))), (19, one (.int .i64 (s.y % 4)))],
 [(0, some (adrB f)), (1, some (adrB t)), (2, some ⟨28, 1, 39, true, fun _ _ => .top⟩), (15, some (rfN false b s.q s.e))], 80⟩
structure RS3 where
 x : Int
 y : Int
 ids : Int
 q : Int
 e : Int
 hr : RdOk b q
 hx : 0 <= x /\ x < 256
 hy : 0 <= y /\ y < 256
 hi : 0 <= ids /\ ids < 256
 j : J (readD b f t l now) e (K0 b f t l now x y ids q)
def HS3 (s : RS3 b f t l now) : Hd := ⟨[(3, one (.sl false l.length eCtx.sz (rowF eCtx l))), (4, one (.int .i64 now)), (6, one (.ptr 0 0 0 false)), (7, one (.ptr 1 0 0 false)), (10, one (.ptr 2 0 0 false)), (14, one (.ptr 15 0 0 false)), (15, one (.int .i64 s.x)), (16, one (.int .i64 s.y)), (17, one (.bool (bitAt s.y 8))), (18, one (.bool (bitAt s.y 4))), (19, one (.int .i64 (s.y % 4))), (20, one (.int .i64 s.ids))],
 [(0, some (adrB f)), (1, some (adrB t)), (2, some ⟨28, 1, 39, true, fun _ _ => .top⟩), (15, some (rfN false b s.q s.e))], 100⟩
structure RS4 where
 x : Int
 y : Int
 ids : Int
 c : Int
 fl : Int
 q : Int
 e : Int
 hr : RdOk b q
 hx : 0 <= x /\ x < 256
 hy : 0 <= y /\ y < 256
 hi : 0 <= ids /\ ids < 256
 hf : 0 <= fl /\ fl < 16777216
 j : J (readD b f t l now) e (KL b f t l now x y ids c fl q)
def HS4 (s : RS4 b f t l now) : Hd := ⟨[(3, one (.sl false l.length eCtx.sz (rowF eCtx l))), (4, one (.int .i64 now)), (6, one (.ptr 0 0 0 false)), (7, one (.ptr 1 0 0 false)), (10, one (.ptr 2 0 0 false)), (14, one (.ptr 15 0 0 false)), (15, one (.int .i64 s.x)), (16, one (.int .i64 s.y)), (17, one (.bool (bitAt s.y 8))), (18, one (.bool (bitAt s.y 4))), (19, one (.int .i64 (s.y % 4))), (20, one (.int .i64 s.ids)), (21, one (.ptr 106 0 0 false))],
 [(0, some (adrB f)), (1, some (adrB t)), (2, some ⟨28, 1, 39, true, fun _ _ => .top⟩), (15, some (rfN false b s.q s.e)), (106, some (pkB ⟨s.c, s.fl, 17, hopV (s.x % 4), zeroA, zeroA, 0, 0⟩))], 200⟩
structure RS5 where
 x : Int
 y : Int
 ids : Int
 c : Int
 fl : Int
 nx : Int
 q : Int
 e : Int
 hr : RdOk b q
 hx : 0 <= x /\ x < 256
 hy : 0 <= y /\ y < 256
 hi : 0 <= ids /\ ids < 256
 j : J (readD b f t l now) e (KH b f t l now x y ids c fl nx q)
def HS5 (s : RS5 b f t l now) : Hd := ⟨[(3, one (.sl false l.length eCtx.sz (rowF eCtx l))), (4, one (.int .i64 now)), (6, one (.ptr 0 0 0 false)), (7, one (.ptr 1 0 0 false)), (10, one (.ptr 2 0 0 false)), (14, one (.ptr 15 0 0 false)), (15, one (.int .i64 s.x)), (16, one (.int .i64 s.y)), (17, one (.bool (bitAt s.y 8))), (18, one (.bool (bitAt s.y 4))), (19, one (.int .i64 (s.y % 4))), (20, one (.int .i64 s.ids)), (21, one (.ptr 106 0 0 false))],
 [(0, some (adrB f)), (1, some (adrB t)), (2, some ⟨28, 1, 39, true, fun _ _ => .top⟩), (15, some (rfN false b s.q s.e)), (106, some (pkB ⟨s.c, s.fl, s.nx, hopV (s.x % 4), zeroA, zeroA, 0, 0⟩))], 300⟩
structure RS6 where
 y : Int
 ids : Int
 h : Hdr
 q : Int
 e : Int
 hr : RdOk b q
 hy : 0 <= y /\ y < 256
 hi : 0 <= ids /\ ids < 256
 hs : h.src = zeroA
 hd : h.dst = zeroA
 j : J (readD b f t l now) e (K1 b f t l now y ids h q)
def HS6 (s : RS6 b f t l now) : Hd := ⟨[(3, one (.sl false l.length eCtx.sz (rowF eCtx l))), (4, one (.int .i64 now)), (6, one (.ptr 0 0 0 false)), (7, one (.ptr 1 0 0 false)), (10, one (.ptr 2 0 0 false)), (14, one (.ptr 15 0 0 false)), (16, one (.int .i64 s.y)), (17, one (.bool (bitAt s.y 8))), (18, one (.bool (bitAt s.y 4))), (19, one (.int .i64 (s.y % 4))), (20, one (.int .i64 s.ids)), (21, one (.ptr 106 0 0 false))],
 [(0, some (adrB f)), (1, some (adrB t)), (2, some ⟨28, 1, 39, true, fun _ _ => .top⟩), (15, some (rfN false b s.q s.e)), (106, some (pkB s.h))], 400⟩
structure RS7 where
 y : Int
 ids : Int
 h : Hdr
 q : Int
 e : Int
 hr : RdOk b q
 hy : 0 <= y /\ y < 256
 hi : 0 <= ids /\ ids < 256
 hd : h.dst = zeroA
 j : J (readD b f t l now) e (K2 b t l now y ids h q)
def HS7 (s : RS7 b f t l now) : Hd := ⟨[(3, one (.sl false l.length eCtx.sz (rowF eCtx l))), (4, one (.int .i64 now)), (6, one (.ptr 0 0 0 false)), (7, one (.ptr 1 0 0 false)), (10, one (.ptr 2 0 0 false)), (14, one (.ptr 15 0 0 false)), (16, one (.int .i64 s.y)), (17, one (.bool (bitAt s.y 8))), (18, one (.bool (bitAt s.y 4))), (19, one (.int .i64 (s.y % 4))), (20, one (.int .i64 s.ids)), (21, one (.ptr 106 0 0 false))],
 [(0, some (adrB f)), (1, some (adrB t)), (2, some ⟨28, 1, 39, true, fun _ _ => .top⟩), (15, some (rfN false b s.q s.e)), (106, some (pkB s.h))], 500⟩
structure RS8 where
 y : Int
 h : Hdr
 q : Int
 e : Int
 hr : RdOk b q
 hy : 0 <= y /\ y < 256
 j : J (readD b f t l now) (failS e (mcast h.dst != bitAt y 8) 5) ((h, 0), q)
def HS8 (s : RS8 b f t l now) : Hd := ⟨[(10, one (.ptr 2 0 0 false)), (14, one (.ptr 15 0 0 false)), (17, one (.bool (bitAt s.y 8))), (21, one (.ptr 106 0 0 false))],
 [(2, some ⟨28, 1, 39, true, fun _ _ => .top⟩), (15, some (rfN false b s.q s.e)), (106, some (pkB s.h))], 600⟩
end
def dropC : Nat -> Code -> Code
 | n + 1, .seq _ b => dropC n b
 | _, c => c
section
variable (b : List Int) (f t : Adr) (l : List Ctx) (now : Int)
theorem rd8 (hC : checkF f t l now = 0) (hb : BL b) (hbl : b.length <= 140737488355328) (hl : bytesL l) (s : RS8 b f t l now) : Sem Try.prog Try.f97.ntmps 0 (dropC 17 (Try.f97.body.getD Code.ret)) (HS8 b f t l now s).fr (HS8 b f t l now s).H (HS8 b f t l now s).nx (endH T Try.f97.results.toList fun x H _ => Done H x (encDec (decI b f t l now))) := by
 obtain ⟨y, h, q, e, hr, hy, j⟩ := s
 unfold HS8
 dsimp only
 obtain ⟨E, eE⟩ : ∃ x, failS e (mcast h.dst != bitAt y 8) 5 = x := ⟨_, rfl⟩
 obtain ⟨Mc, eM⟩ : ∃ x, mcast h.dst = x := ⟨_, rfl⟩
 rw [eE] at j
 rw [eM] at eE
 have d1 : ¬ E = 0 -> decI b f t l now = (((zeroH, []), 0), E) := fun g => decI_e hC rfl (j.err g) g
 have d2 : E = 0 -> decI b f t l now = (((h, []), q), 0) := fun g => decI_v hC (j.ok g)
 obtain ⟨W, hW⟩ : ∃ x, decI b f t l now = x := ⟨_, rfl⟩
 rw [hW] at d1 d2 ⊢
 clear j hW
 have g1 : True := trivial
 refine sem_step (wd := 1) (Q := mkQ LRe4) (by decide) tysOk (q_of LRe4_ok) mixed ?_
 repeat' (first | (apply And.intro <;> intro hc <;> (first | exact Bool.noConfusion hc | exact zn2 hc | (simp only [zb0, ne_eq, not_true_eq_false] at hc <;> first | exact absurd rfl hc | exact zn2 hc | skip) | skip)) | (refine And.intro zp1 ?_) | (apply And.intro) | (refine Exists.intro b (And.intro ⟨rfl, rfl, by first | exact trivial⟩ ?_)) | (intro s hs; (first | (clear g1; have q : Mc = s := (by (dsimp only at hs; refine (hs.trans ((congrArg mcast (ip_is (a := h.dst) (fun j hj => ?_))).trans eM)).symm; (iterate 16 (rcases j with _ | j; exact rfl)); exact absurd hj (by omega))); clear hs; subst q) | (have q : s = ((), q, E) := hs.trans (congrArg (fun x => ((), q, x)) eE); clear hs; subst q) | skip)))
 all_goals try (first | exact rfl)
 refine sem_step (wd := 1) (Q := mkQ LRe4) (by decide) tysOk (q_of LRe4_ok) mixed ?_
 repeat' (first | (apply And.intro <;> intro hc <;> (first | exact Bool.noConfusion hc | exact zn2 hc | (simp only [zb0, ne_eq, not_true_eq_false] at hc <;> first | exact absurd rfl hc | exact zn2 hc | skip) | skip)) | (refine And.intro zp1 ?_) | (apply And.intro) | (refine Exists.intro b (And.intro ⟨rfl, rfl, by first | exact trivial⟩ ?_)) | (intro s hs; skip))
 . rw [d1 (by assumption)]
   refine Done.mk (leF_tup ⟨leE_tail rfl (fun j hj => ?_) (leC_nils_sl rfl), leC_int rfl, leC_int rfl, trivial⟩)
   iterate 38 (rcases j with _ | j; exact leC_int rfl)
   exact absurd hj (by show ¬ _ < 38; omega)
 refine sem_exec (wd := 1) (Q := mkQ LRe4) (by decide) tysOk (q_of LRe4_ok) mixed ?_
 repeat' (first | (apply And.intro <;> intro hc <;> (first | exact Bool.noConfusion hc | exact zn2 hc | (simp only [zb0, ne_eq, not_true_eq_false] at hc <;> first | exact absurd rfl hc | exact zn2 hc | skip) | skip)) | (refine And.intro zp1 ?_) | (apply And.intro) | (refine Exists.intro b (And.intro ⟨rfl, rfl, by first | exact trivial⟩ ?_)) | (intro s hs; skip))
 rw [d2 (by assumption)]
 refine Done.mk (leF_tup ⟨leE_tail rfl (fun j hj => ?_) (leC_nils_sl rfl), leC_int rfl, leC_int rfl, trivial⟩)
 iterate 38 (rcases j with _ | j; exact leC_int rfl)
 exact absurd hj (by show ¬ _ < 38; omega)
end
section
variable (b : List Int) (f t : Adr) (l : List Ctx) (now : Int)
theorem rd7 (hC : checkF f t l now = 0) (hb : BL b) (hbl : b.length <= 140737488355328) (hl : bytesL l) (s : RS7 b f t l now) : Sem Try.prog Try.f97.ntmps 0 (dropC 16 (Try.f97.body.getD Code.ret)) (HS7 b f t l now s).fr (HS7 b f t l now s).H (HS7 b f t l now s).nx (endH T Try.f97.results.toList fun x H _ => Done H x (encDec (decI b f t l now))) := by
 obtain ⟨y, ids, h, q, e, hr, hy, hi, hd, j⟩ := s
 unfold HS7
 dsimp only
 have hym : 0 <= y % 4 /\ y % 4 <= 3 := by omega
 have wi : ids.tmod 16 = ids % 16 := Int.tmod_eq_emod_of_nonneg hi.1
 unfold K2 dstD at j
 rw [thenD_if] at j
 obtain ⟨jg, ja⟩ := J_if j
 have jg := fun h8 => J_grp (m := y % 4) hr (by omega) (jg h8)
 have ja := fun h8 => J_adr (m := y % 4) hr (by omega) (dec_b hl) (ja h8)
 have rg := grpS_r (e := e) (m := y % 4) hr
 have ra := adrS_r (e := e) (m := y % 4) (ctx := bitAt y 4) (k := t) (C := forDec l (ids % 16) now) hr
 obtain ⟨G, eG⟩ : ∃ x, grpS b q e (y % 4) = x := ⟨_, rfl⟩
 obtain ⟨A, eA'⟩ : ∃ x, adrS b q e (bitAt y 4) (y % 4) t (forDec l (ids % 16) now) = x := ⟨_, rfl⟩
 rw [eG] at jg rg
 rw [eA'] at ja ra
 have eA2 : adrS b q e (bitAt y 4) (y % 4) t (forDec l (ids.tmod 16) now) = A := by rw [wi]; exact eA'
 clear j
 have g1 : True := trivial
 refine sem_cut (wd := 1) (Q := mkQ LRe4) (by decide) tysOk (q_of LRe4_ok) (mono_of LRe4_ok) mixed (HS8 b f t l now) (fun _ => rfl) ?_ (rd8 b f t l now hC hb hbl hl)
 repeat' (first | (apply And.intro <;> intro hc <;> (first | exact Bool.noConfusion hc | exact zn2 hc | (simp only [zb0, ne_eq, not_true_eq_false] at hc <;> first | exact absurd rfl hc | exact zn2 hc | skip) | skip)) | (refine And.intro zp1 ?_) | (apply And.intro) | (refine Exists.intro b (And.intro ⟨rfl, rfl, by first | exact trivial | exact ⟨hr, by omega, by omega⟩ | exact ⟨hr, Eq.mp (congrArg bytesL (toL_ctx l).symm) hl, hym.1, hym.2⟩⟩ ?_)) | (intro s hs; (first | (clear g1; have q : G = s := (hs.trans eG).symm; clear hs; subst q) | (have q : A = s := (hs.trans ((congr (congrArg (fun k l => adrS b q e (bitAt y 4) (md y 4) k (forDec l (ids.tmod 16) now)) (rd_adr t)) (toL_ctx l)).trans eA2)).symm; clear hs; subst q) | skip)))
 all_goals try (first | exact rfl | exact fun _ => rfl)
 all_goals first
  | (refine ⟨⟨y, { h with dst := G.1 }, G.2.1, G.2.2, rg, hy, ?_⟩, [], rfl, ?_, ?_⟩
     . show J _ (failS G.2.2 (mcast G.1 != bitAt y 8) 5) _
       rw [show bitAt y 8 = true by assumption]
       exact jg (by assumption)
     . repeat' (first | exact zw0 | refine leF_int ?_ | refine leF_bool ?_ | exact zw1 | apply And.intro)
     . repeat' (first | exact zw0 | refine leF_int ?_ | refine leF_bool ?_ | exact zw1 | apply And.intro)
       all_goals first
        | exact rfN_le0 rfl rfl rfl
        | (refine leN_var ?_; repeat' (first | exact trivial | exact rfl | exact leC_int rfl | exact leC_bool rfl | exact leC_nils | apply And.intro))
        | skip)
  | (refine ⟨⟨y, { h with dst := A.1 }, A.2.1, A.2.2, ra, hy, ?_⟩, [], rfl, ?_, ?_⟩
     . have h8 : bitAt y 8 = false := by assumption
       show J _ (failS A.2.2 (mcast A.1 != bitAt y 8) 5) _
       rw [h8, show (mcast A.1 != false) = mcast A.1 by cases mcast A.1 <;> rfl]
       exact ja (by rw [h8]; decide)
     . repeat' (first | exact zw0 | refine leF_int ?_ | refine leF_bool ?_ | exact zw1 | apply And.intro)
     . repeat' (first | exact zw0 | refine leF_int ?_ | refine leF_bool ?_ | exact zw1 | apply And.intro)
       all_goals first
        | exact rfN_le0 rfl rfl rfl
        | (refine leN_var ?_; repeat' (first | exact trivial | exact rfl | exact leC_int rfl | exact leC_bool rfl | exact leC_nils | apply And.intro))
        | skip)
  | skip
end
section
variable (b : List Int) (f t : Adr) (l : List Ctx) (now : Int)
theorem rd6 (hC : checkF f t l now = 0) (hb : BL b) (hbl : b.length <= 140737488355328) (hl : bytesL l) (s : RS6 b f t l now) : Sem Try.prog Try.f97.ntmps 0 (dropC 15 (Try.f97.body.getD Code.ret)) (HS6 b f t l now s).fr (HS6 b f t l now s).H (HS6 b f t l now s).nx (endH T Try.f97.results.toList fun x H _ => Done H x (encDec (decI b f t l now))) := by
 obtain ⟨y, ids, h, q, e, hr, hy, hi, hs0, hd, j⟩ := s
 unfold HS6
 dsimp only
 have hym : 0 <= y / 16 % 4 /\ y / 16 % 4 <= 3 := by omega
 have w64 := raw_dm hy 64 2 (by decide) (by decide)
 have w16 := raw_dm hy 16 4 (by decide) (by decide)
 have wi := raw_d hi 16 (by decide)
 have hym' : 0 <= (IntKind.i64.wrap (y.tdiv 16)).tmod 4 /\ (IntKind.i64.wrap (y.tdiv 16)).tmod 4 <= 3 := by rw [w16]; exact hym
 have c64 : ((IntKind.i64.wrap (y.tdiv 64)).tmod 2 == 1) = bitAt y 64 := by rw [w64]; rfl
 unfold K1 srcD at j
 rw [thenD_if] at j
 obtain ⟨ja, js⟩ := J_if j
 have ja := fun hh => J_adr (m := y / 16 % 4) hr hym (dec_b hl) (ja hh)
 have ra := adrS_r (e := e) (m := y / 16 % 4) (ctx := bitAt y 64) (k := f) (C := forDec l (ids / 16) now) hr
 obtain ⟨A, eA'⟩ : ∃ x, adrS b q e (bitAt y 64) (y / 16 % 4) f (forDec l (ids / 16) now) = x := ⟨_, rfl⟩
 rw [eA'] at ja ra
 obtain ⟨Mc, eM⟩ : ∃ x, mcast A.1 = x := ⟨_, rfl⟩
 rw [eM] at ja
 obtain ⟨E, eE⟩ : ∃ x, failS A.2.2 Mc 5 = x := ⟨_, rfl⟩
 rw [eE] at ja
 have eA2 : adrS b q e ((IntKind.i64.wrap (y.tdiv 64)).tmod 2 == 1) ((IntKind.i64.wrap (y.tdiv 16)).tmod 4) f (forDec l (IntKind.i64.wrap (ids.tdiv 16)) now) = A := by rw [c64, w16, wi]; exact eA'
 have t1 : ¬ (IntKind.i64.wrap (y.tdiv 64)).tmod 2 = 1 -> bitAt y 64 = false \/ y / 16 % 4 ≠ 0 := fun hh => .inl (by rw [<- c64]; exact beq_eq_false_iff_ne.2 hh)
 have t2 : ¬ (IntKind.i64.wrap (y.tdiv 16)).tmod 4 = 0 -> bitAt y 64 = false \/ y / 16 % 4 ≠ 0 := fun hh => .inr (by rw [<- w16]; exact hh)
 have t3 : (IntKind.i64.wrap (y.tdiv 64)).tmod 2 = 1 -> (IntKind.i64.wrap (y.tdiv 16)).tmod 4 = 0 -> ¬ (bitAt y 64 = false \/ y / 16 % 4 ≠ 0) := fun h1 h2 hh => hh.elim (fun x => by rw [<- c64, h1] at x; cases x) (fun x => x (by rw [<- w16]; exact h2))
 have hsz : ({ h with src := zeroA } : Hdr) = h := by rw [<- hs0]
 clear j
 have g1 : True := trivial
 have g2 : True := trivial
 refine sem_cut (wd := 1) (Q := mkQ LRe4) (by decide) tysOk (q_of LRe4_ok) (mono_of LRe4_ok) mixed (HS7 b f t l now) (fun _ => rfl) ?_ (rd7 b f t l now hC hb hbl hl)
 repeat' (first | (apply And.intro <;> intro hc <;> (first | exact Bool.noConfusion hc | exact zn2 hc | (simp only [zb0, ne_eq, not_true_eq_false] at hc <;> first | exact absurd rfl hc | exact zn2 hc | skip) | skip)) | (refine And.intro zp1 ?_) | (apply And.intro) | (refine Exists.intro b (And.intro ⟨rfl, rfl, by first | exact trivial | exact ⟨hr, Eq.mp (congrArg bytesL (toL_ctx l).symm) hl, hym'.1, hym'.2⟩⟩ ?_)) | (intro s hs; (first | (clear g1; have q : A = s := (hs.trans ((congr (congrArg (fun k l => adrS b q e ((IntKind.i64.wrap (y.tdiv 64)).tmod 2 == 1) ((IntKind.i64.wrap (y.tdiv 16)).tmod 4) k (forDec l (IntKind.i64.wrap (ids.tdiv 16)) now)) (rd_adr f)) (toL_ctx l)).trans eA2)).symm; clear hs; subst q) | (clear g2; have q : Mc = s := (by (dsimp only at hs; refine (hs.trans ((congrArg mcast (ip_is (a := A.1) (fun j hj => ?_))).trans eM)).symm; (iterate 16 (rcases j with _ | j; exact rfl)); exact absurd hj (by omega))); clear hs; subst q) | (have q : s = ((), A.2.1, E) := hs.trans (congrArg (fun x => ((), A.2.1, x)) eE); clear hs; subst q) | skip)))
 all_goals try (first | exact rfl | exact fun _ => rfl)
 all_goals first
  | (refine ⟨⟨y, ids, { h with src := A.1 }, A.2.1, E, ra, hy, hi, hd, ja (t1 (by assumption))⟩, [], rfl, ?_, ?_⟩
     . repeat' (first | exact zw0 | refine leF_int ?_ | refine leF_bool ?_ | exact zw1 | apply And.intro)
     . repeat' (first | exact zw0 | refine leF_int ?_ | refine leF_bool ?_ | exact zw1 | apply And.intro)
       all_goals first
        | exact rfN_le0 rfl rfl rfl
        | (refine leN_var ?_; repeat' (first | exact trivial | exact rfl | exact leC_int rfl | exact leC_bool rfl | exact leC_nils | apply And.intro))
        | skip)
  | (refine ⟨⟨y, ids, { h with src := A.1 }, A.2.1, E, ra, hy, hi, hd, ja (t2 (by assumption))⟩, [], rfl, ?_, ?_⟩
     . repeat' (first | exact zw0 | refine leF_int ?_ | refine leF_bool ?_ | exact zw1 | apply And.intro)
     . repeat' (first | exact zw0 | refine leF_int ?_ | refine leF_bool ?_ | exact zw1 | apply And.intro)
       all_goals first
        | exact rfN_le0 rfl rfl rfl
        | (refine leN_var ?_; repeat' (first | exact trivial | exact rfl | exact leC_int rfl | exact leC_bool rfl | exact leC_nils | apply And.intro))
        | skip)
  | (refine ⟨⟨y, ids, h, q, e, hr, hy, hi, hd, ?_⟩, [], rfl, ?_, ?_⟩
     . have j3 := js (t3 (by assumption) (by assumption))
       rw [thenD_ok, hsz] at j3
       exact j3
     . repeat' (first | exact zw0 | refine leF_int ?_ | refine leF_bool ?_ | exact zw1 | apply And.intro)
     . repeat' (first | exact zw0 | refine leF_int ?_ | refine leF_bool ?_ | exact zw1 | apply And.intro)
       all_goals first
        | exact rfN_le0 rfl rfl rfl
        | (refine leN_var ?_; repeat' (first | exact trivial | exact rfl | exact leC_int rfl | exact leC_bool rfl | exact leC_nils | apply And.intro))
        | skip)
  | skip
end
section
variable (b : List Int) (f t : Adr) (l : List Ctx) (now : Int)
theorem rd5 (hC : checkF f t l now = 0) (hb : BL b) (hbl : b.length <= 140737488355328) (hl : bytesL l) (s : RS5 b f t l now) : Sem Try.prog Try.f97.ntmps 0 (dropC 14 (Try.f97.body.getD Code.ret)) (HS5 b f t l now s).fr (HS5 b f t l now s).H (HS5 b f t l now s).nx (endH T Try.f97.results.toList fun x H _ => Done H x (encDec (decI b f t l now))) := by
 obtain ⟨x, y, ids, c, fl, nx, q, e, hr, hx, hy, hi, j⟩ := s
 unfold HS5
 dsimp only
 have wx : x.tmod 4 = x % 4 := Int.tmod_eq_emod_of_nonneg hx.1
 unfold KH at j
 rw [thenD_if] at j
 obtain ⟨ja, js⟩ := J_if j
 have ja := fun hh => J_num (ja hh)
 have rU := uintS_r (e := e) (n := 1) hr
 have vU := uintS_1 (q := q) (e := e) hb
 obtain ⟨U, eU⟩ : ∃ x, uintS b q e 1 = x := ⟨_, rfl⟩
 rw [eU] at ja rU vU
 have wu : IntKind.u8.wrap U.1 = U.1 := IntWalk.u8_in _ (by omega)
 have t1 : x.tmod 4 = 0 -> x % 4 = 0 := fun hh => by rw [<- wx]; exact hh
 have t2 : ¬ x.tmod 4 = 0 -> ¬ x % 4 = 0 := fun hh h2 => hh (by rw [wx]; exact h2)
 clear j
 have g1 : True := trivial
 refine sem_cut (wd := 1) (Q := mkQ LRe4) (by decide) tysOk (q_of LRe4_ok) (mono_of LRe4_ok) mixed (HS6 b f t l now) (fun _ => rfl) ?_ (rd6 b f t l now hC hb hbl hl)
 repeat' (first | (apply And.intro <;> intro hc <;> (first | exact Bool.noConfusion hc | exact zn2 hc | (simp only [zb0, ne_eq, not_true_eq_false] at hc <;> first | exact absurd rfl hc | exact zn2 hc | skip) | skip)) | (refine And.intro zp1 ?_) | (apply And.intro) | (refine Exists.intro b (And.intro ⟨rfl, rfl, by first | exact trivial | exact ⟨hr, by decide, by decide⟩⟩ ?_)) | (intro s hs; (first | (clear g1; have q : U = s := (hs.trans eU).symm; clear hs; subst q) | skip)))
 all_goals try (first | exact rfl | exact fun _ => rfl)
 all_goals first
  | (refine ⟨⟨y, ids, ⟨c, fl, nx, U.1, zeroA, zeroA, 0, 0⟩, U.2.1, U.2.2, rU, hy, hi, rfl, rfl, ja (t1 (by assumption))⟩, [], rfl, ?_, ?_⟩
     . repeat' (first | exact zw0 | refine leF_int ?_ | refine leF_bool ?_ | exact zw1 | apply And.intro)
     . repeat' (first | exact zw0 | refine leF_int ?_ | refine leF_bool ?_ | exact zw1 | apply And.intro)
       all_goals first
        | exact rfN_le0 rfl rfl rfl
        | (refine leN_var ?_; repeat' (first | exact trivial | exact rfl | exact leC_int rfl | exact leC_bool rfl | exact leC_nils | exact leC_int wu | apply And.intro))
        | skip)
  | (refine ⟨⟨y, ids, ⟨c, fl, nx, hopV (x % 4), zeroA, zeroA, 0, 0⟩, q, e, hr, hy, hi, rfl, rfl, ?_⟩, [], rfl, ?_, ?_⟩
     . have j3 := js (t2 (by assumption))
       rw [thenD_ok] at j3
       exact j3
     . repeat' (first | exact zw0 | refine leF_int ?_ | refine leF_bool ?_ | exact zw1 | apply And.intro)
     . repeat' (first | exact zw0 | refine leF_int ?_ | refine leF_bool ?_ | exact zw1 | apply And.intro)
       all_goals first
        | exact rfN_le0 rfl rfl rfl
        | (refine leN_var ?_; repeat' (first | exact trivial | exact rfl | exact leC_int rfl | exact leC_bool rfl | exact leC_nils | apply And.intro))
        | skip)
  | skip
end
section
variable (b : List Int) (f t : Adr) (l : List Ctx) (now : Int)
theorem rd4 (hC : checkF f t l now = 0) (hb : BL b) (hbl : b.length <= 140737488355328) (hl : bytesL l) (s : RS4 b f t l now) : Sem Try.prog Try.f97.ntmps 0 (dropC 12 (Try.f97.body.getD Code.ret)) (HS4 b f t l now s).fr (HS4 b f t l now s).H (HS4 b f t l now s).nx (endH T Try.f97.results.toList fun x H _ => Done H x (encDec (decI b f t l now))) := by
 obtain ⟨x, y, ids, c, fl, q, e, hr, hx, hy, hi, hf, j⟩ := s
 unfold HS4
 dsimp only
 have w4 := raw_dm hx 4 2 (by decide) (by decide)
 unfold KL at j
 have j1 : J (readD b f t l now) e (if decide (1048576 <= fl) = true then ((zeroH, 5), q) else KN b f t l now x y ids c fl q) := by
  refine Eq.mp (congrArg (J _ _) ?_) j
  by_cases hh : 1048575 < fl
  . rw [if_pos hh, if_pos (decide_eq_true (show 1048576 <= fl by omega))]
  . rw [if_neg hh, if_neg (fun x => hh (by have := of_decide_eq_true x; omega))]
 have j2 := J_fail (by decide) j1
 obtain ⟨E, eE⟩ : ∃ x, failS e (decide (1048576 <= fl)) 5 = x := ⟨_, rfl⟩
 rw [eE] at j2
 unfold KN at j2
 rw [thenD_if] at j2
 obtain ⟨ja, js⟩ := J_if j2
 have ja := fun hh => J_num (ja hh)
 have rU := uintS_r (e := E) (n := 1) hr
 have vU := uintS_1 (q := q) (e := E) hb
 obtain ⟨U, eU⟩ : ∃ x, uintS b q E 1 = x := ⟨_, rfl⟩
 rw [eU] at ja rU vU
 have wu : IntKind.u8.wrap U.1 = U.1 := IntWalk.u8_in _ (by omega)
 obtain ⟨E2, eE2⟩ : ∃ x, failS U.2.2 (IntKind.u8.wrap U.1 == 17) 5 = x := ⟨_, rfl⟩
 have jb : x / 4 % 2 = 0 -> J (readD b f t l now) E2 (KH b f t l now x y ids c fl U.1 U.2.1) := fun hh => by
  rw [<- eE2]
  refine J_fail (z := zeroH) (q := U.2.1) (by decide) ?_
  refine Eq.mp (congrArg (J _ _) ?_) (ja hh)
  rw [wu]
  by_cases h17 : U.1 = 17
  . rw [if_pos ⟨hh, h17⟩, h17]; rfl
  . rw [if_neg (fun x => h17 x.2), if_neg (fun x => h17 (by simpa using x))]
 have t1 : (IntKind.i64.wrap (x.tdiv 4)).tmod 2 = 0 -> x / 4 % 2 = 0 := fun hh => by rw [<- w4]; exact hh
 have t2 : ¬ (IntKind.i64.wrap (x.tdiv 4)).tmod 2 = 0 -> ¬ x / 4 % 2 = 0 := fun hh h2 => hh (by rw [w4]; exact h2)
 clear j j1 j2
 have g1 : True := trivial
 have g2 : True := trivial
 refine sem_step (wd := 1) (Q := mkQ LRe4) (by decide) tysOk (q_of LRe4_ok) mixed ?_
 repeat' (first | (apply And.intro <;> intro hc <;> (first | exact Bool.noConfusion hc | exact zn2 hc | (simp only [zb0, ne_eq, not_true_eq_false] at hc <;> first | exact absurd rfl hc | exact zn2 hc | skip) | skip)) | (refine And.intro zp1 ?_) | (apply And.intro) | (refine Exists.intro b (And.intro ⟨rfl, rfl, by first | exact trivial⟩ ?_)) | (intro s hs; (first | (clear g1; have q : s = ((), q, E) := hs.trans (congrArg (fun x => ((), q, x)) eE); clear hs; subst q) | skip)))
 all_goals try (first | exact rfl | exact fun _ => rfl)
 refine sem_cut (wd := 1) (Q := mkQ LRe4) (by decide) tysOk (q_of LRe4_ok) (mono_of LRe4_ok) mixed (HS5 b f t l now) (fun _ => rfl) ?_ (rd5 b f t l now hC hb hbl hl)
 repeat' (first | (apply And.intro <;> intro hc <;> (first | exact Bool.noConfusion hc | exact zn2 hc | (simp only [zb0, ne_eq, not_true_eq_false] at hc <;> first | exact absurd rfl hc | exact zn2 hc | skip) | skip)) | (refine And.intro zp1 ?_) | (apply And.intro) | (refine Exists.intro b (And.intro ⟨rfl, rfl, by first | exact trivial | exact ⟨hr, by decide, by decide⟩⟩ ?_)) | (intro s hs; (first | (clear g2; have q : U = s := (hs.trans eU).symm; clear hs; subst q) | (have q : s = ((), U.2.1, E2) := hs.trans (congrArg (fun x => ((), U.2.1, x)) eE2); clear hs; subst q) | skip)))
 all_goals try (first | exact rfl | exact fun _ => rfl)
 all_goals first
  | (refine ⟨⟨x, y, ids, c, fl, U.1, U.2.1, E2, rU, hx, hy, hi, jb (t1 (by assumption))⟩, [], rfl, ?_, ?_⟩
     . repeat' (first | exact zw0 | refine leF_int ?_ | refine leF_bool ?_ | exact zw1 | apply And.intro)
     . repeat' (first | exact zw0 | refine leF_int ?_ | refine leF_bool ?_ | exact zw1 | apply And.intro)
       all_goals first
        | exact rfN_le0 rfl rfl rfl
        | (refine leN_var ?_; repeat' (first | exact trivial | exact rfl | exact leC_int rfl | exact leC_bool rfl | exact leC_nils | exact leC_int wu | apply And.intro))
        | skip)
  | (refine ⟨⟨x, y, ids, c, fl, 17, q, E, hr, hx, hy, hi, ?_⟩, [], rfl, ?_, ?_⟩
     . have h4 := t2 (by assumption)
       have j3 := js h4
       rw [thenD_ok, if_neg (fun x => h4 x.1)] at j3
       exact j3
     . repeat' (first | exact zw0 | refine leF_int ?_ | refine leF_bool ?_ | exact zw1 | apply And.intro)
     . repeat' (first | exact zw0 | refine leF_int ?_ | refine leF_bool ?_ | exact zw1 | apply And.intro)
       all_goals first
        | exact rfN_le0 rfl rfl rfl
        | (refine leN_var ?_; repeat' (first | exact trivial | exact rfl | exact leC_int rfl | exact leC_bool rfl | exact leC_nils | apply And.intro))
        | skip)
  | skip
end
section
variable (b : List Int) (f t : Adr) (l : List Ctx) (now : Int)
theorem rd3 (hC : checkF f t l now = 0) (hb : BL b) (hbl : b.length <= 140737488355328) (hl : bytesL l) (s : RS3 b f t l now) : Sem Try.prog Try.f97.ntmps 0 (dropC 10 (Try.f97.body.getD Code.ret)) (HS3 b f t l now s).fr (HS3 b f t l now s).H (HS3 b f t l now s).nx (endH T Try.f97.results.toList fun x H _ => Done H x (encDec (decI b f t l now))) := by
 obtain ⟨x, y, ids, q, e, hr, hx, hy, hi, j⟩ := s
 unfold HS3
 dsimp only
 have w8 := raw_dm hx 8 4 (by decide) (by decide)
 have wx : x.tmod 4 = x % 4 := Int.tmod_eq_emod_of_nonneg hx.1
 have hx4 : x % 4 = 0 \/ x % 4 = 1 \/ x % 4 = 2 \/ x % 4 = 3 := by omega
 unfold K0 at j
 rw [thenD_if] at j
 obtain ⟨jA, jB⟩ := J_if j
 have b0 : x / 8 % 4 = 0 -> J (readD b f t l now) (uintS b (uintS b q e 1).2.1 (uintS b q e 1).2.2 3).2.2 (KL b f t l now x y ids (uintS b q e 1).1 (uintS b (uintS b q e 1).2.1 (uintS b q e 1).2.2 3).1 (uintS b (uintS b q e 1).2.1 (uintS b q e 1).2.2 3).2.1) := fun h0 => by
  have a1 := J_num (jA (.inl h0))
  rw [thenD_if, if_pos (.inl h0)] at a1
  exact J_num a1
 have b2 : x / 8 % 4 = 2 -> J (readD b f t l now) (uintS b q e 1).2.2 (KL b f t l now x y ids (uintS b q e 1).1 0 (uintS b q e 1).2.1) := fun h0 => by
  have a1 := J_num (jA (.inr h0))
  rw [thenD_if, if_neg (by omega), thenD_ok] at a1
  exact a1
 have b1 : x / 8 % 4 = 1 -> J (readD b f t l now) (uintS b q e 3).2.2 (KL b f t l now x y ids 0 (uintS b q e 3).1 (uintS b q e 3).2.1) := fun h0 => by
  have a1 := jB (by omega)
  rw [thenD_ok, thenD_if, if_pos (.inr h0)] at a1
  exact J_num a1
 have b3 : ¬ x / 8 % 4 = 0 -> ¬ x / 8 % 4 = 1 -> ¬ x / 8 % 4 = 2 -> J (readD b f t l now) e (KL b f t l now x y ids 0 0 q) := fun h0 h1 h2 => by
  have a1 := jB (by omega)
  rw [thenD_ok, thenD_if, if_neg (by omega), thenD_ok] at a1
  exact a1
 have rC := uintS_r (e := e) (n := 1) hr
 have rF := uintS_r (e := (uintS b q e 1).2.2) (n := 3) rC
 have rG := uintS_r (e := e) (n := 3) hr
 have vC := uintS_1 (q := q) (e := e) hb
 have vF := uintS_3 (q := (uintS b q e 1).2.1) (e := (uintS b q e 1).2.2) hb
 have vG := uintS_3 (q := q) (e := e) hb
 obtain ⟨C, eC⟩ : ∃ x, uintS b q e 1 = x := ⟨_, rfl⟩
 rw [eC] at b0 b2 rC rF vC vF
 obtain ⟨F, eF⟩ : ∃ x, uintS b C.2.1 C.2.2 3 = x := ⟨_, rfl⟩
 rw [eF] at b0 rF vF
 obtain ⟨G, eG⟩ : ∃ x, uintS b q e 3 = x := ⟨_, rfl⟩
 rw [eG] at b1 rG vG
 have wc : IntKind.u8.wrap C.1 = C.1 := IntWalk.u8_in _ (by omega)
 have wf : IntKind.u32.wrap F.1 = F.1 := IntWalk.u32_in _ (by omega)
 have wf1 : IntKind.u32.wrap G.1 = G.1 := IntWalk.u32_in _ (by omega)
 rw [<- w8] at b0 b1 b2 b3
 clear j jA jB
 have g1 : True := trivial
 have g2 : True := trivial
 have g3 : True := trivial
 refine sem_step (wd := 1) (Q := mkQ LRe4) (by decide) tysOk (q_of LRe4_ok) mixed ?_
 repeat' (first | (apply And.intro <;> intro hc <;> (first | exact Bool.noConfusion hc | exact zn2 hc | (simp only [zb0, ne_eq, not_true_eq_false] at hc <;> first | exact absurd rfl hc | exact zn2 hc | skip) | skip)) | (refine And.intro zp1 ?_) | (apply And.intro) | (refine Exists.intro b (And.intro ⟨rfl, rfl, by first | exact trivial⟩ ?_)) | (intro s hs; skip))
 all_goals try (first | exact rfl | exact fun _ => rfl | omega)
 refine sem_cut (wd := 1) (Q := mkQ LRe4) (by decide) tysOk (q_of LRe4_ok) (mono_of LRe4_ok) mixed (HS4 b f t l now) (fun _ => rfl) ?_ (rd4 b f t l now hC hb hbl hl)
 repeat' (first | (apply And.intro <;> intro hc <;> (first | exact Bool.noConfusion hc | exact zn2 hc | (simp only [zb0, ne_eq, not_true_eq_false] at hc <;> first | exact absurd rfl hc | exact zn2 hc | skip) | skip)) | (refine And.intro zp1 ?_) | (apply And.intro) | (refine Exists.intro b (And.intro ⟨rfl, rfl, by first | exact trivial | exact ⟨hr, by decide, by decide⟩ | exact ⟨rC, by decide, by decide⟩⟩ ?_)) | (intro s hs; (first | (clear g1; (first | have h0 : (IntKind.i64.wrap (x.tdiv 8)).tmod 4 = 0 := (by assumption) | have h0 : (IntKind.i64.wrap (x.tdiv 8)).tmod 4 = 2 := (by assumption)); have q : C = s := (hs.trans eC).symm; clear hs; subst q) | (clear g2; have h0 : (IntKind.i64.wrap (x.tdiv 8)).tmod 4 = 0 := (by assumption); have q : F = s := (hs.trans eF).symm; clear hs; subst q) | (clear g3; have h0 : (IntKind.i64.wrap (x.tdiv 8)).tmod 4 = 1 := (by assumption); have q : G = s := (hs.trans eG).symm; clear hs; subst q) | skip)))
 all_goals try (first | exact rfl | exact fun _ => rfl)
 all_goals first
  | (refine ⟨⟨x, y, ids, C.1, F.1, F.2.1, F.2.2, rF, hx, hy, hi, vF, b0 (by assumption)⟩, [], rfl, ?_, ?_⟩
     . repeat' (first | exact zw0 | refine leF_int ?_ | refine leF_bool ?_ | exact zw1 | apply And.intro)
     . repeat' (first | exact zw0 | refine leF_int ?_ | refine leF_bool ?_ | exact zw1 | apply And.intro)
       all_goals first
        | exact rfN_le0 rfl rfl rfl
        | (refine leN_var ?_; repeat' (first | exact trivial | exact rfl | exact leC_int rfl | exact leC_bool rfl | exact leC_nils | (refine leC_int ?_; first | exact wc | exact wf | exact wf1 | (rw [wx]; rcases hx4 with h4 | h4 | h4 | h4 <;> rw [h4] <;> rfl)) | apply And.intro))
        | skip)
  | (refine ⟨⟨x, y, ids, 0, G.1, G.2.1, G.2.2, rG, hx, hy, hi, vG, b1 (by assumption)⟩, [], rfl, ?_, ?_⟩
     . repeat' (first | exact zw0 | refine leF_int ?_ | refine leF_bool ?_ | exact zw1 | apply And.intro)
     . repeat' (first | exact zw0 | refine leF_int ?_ | refine leF_bool ?_ | exact zw1 | apply And.intro)
       all_goals first
        | exact rfN_le0 rfl rfl rfl
        | (refine leN_var ?_; repeat' (first | exact trivial | exact rfl | exact leC_int rfl | exact leC_bool rfl | exact leC_nils | (refine leC_int ?_; first | exact wc | exact wf | exact wf1 | (rw [wx]; rcases hx4 with h4 | h4 | h4 | h4 <;> rw [h4] <;> rfl)) | apply And.intro))
        | skip)
  | (refine ⟨⟨x, y, ids, C.1, 0, C.2.1, C.2.2, rC, hx, hy, hi, ⟨by decide, by decide⟩, b2 (by assumption)⟩, [], rfl, ?_, ?_⟩
     . repeat' (first | exact zw0 | refine leF_int ?_ | refine leF_bool ?_ | exact zw1 | apply And.intro)
     . repeat' (first | exact zw0 | refine leF_int ?_ | refine leF_bool ?_ | exact zw1 | apply And.intro)
       all_goals first
        | exact rfN_le0 rfl rfl rfl
        | (refine leN_var ?_; repeat' (first | exact trivial | exact rfl | exact leC_int rfl | exact leC_bool rfl | exact leC_nils | (refine leC_int ?_; first | exact wc | exact wf | exact wf1 | (rw [wx]; rcases hx4 with h4 | h4 | h4 | h4 <;> rw [h4] <;> rfl)) | apply And.intro))
        | skip)
  | (refine ⟨⟨x, y, ids, 0, 0, q, e, hr, hx, hy, hi, ⟨by decide, by decide⟩, b3 (by assumption) (by assumption) (by assumption)⟩, [], rfl, ?_, ?_⟩
     . repeat' (first | exact zw0 | refine leF_int ?_ | refine leF_bool ?_ | exact zw1 | apply And.intro)
     . repeat' (first | exact zw0 | refine leF_int ?_ | refine leF_bool ?_ | exact zw1 | apply And.intro)
       all_goals first
        | exact rfN_le0 rfl rfl rfl
        | (refine leN_var ?_; repeat' (first | exact trivial | exact rfl | exact leC_int rfl | exact leC_bool rfl | exact leC_nils | (refine leC_int ?_; first | exact wc | exact wf | exact wf1 | (rw [wx]; rcases hx4 with h4 | h4 | h4 | h4 <;> rw [h4] <;> rfl)) | apply And.intro))
        | skip)
  | skip
end
section
variable (b : List Int) (f t : Adr) (l : List Ctx) (now : Int)
theorem rd2 (hC : checkF f t l now = 0) (hb : BL b) (hbl : b.length <= 140737488355328) (hl : bytesL l) (s : RS2 b f t l now) : Sem Try.prog Try.f97.ntmps 0 (dropC 8 (Try.f97.body.getD Code.ret)) (HS2 b f t l now s).fr (HS2 b f t l now s).H (HS2 b f t l now s).nx (endH T Try.f97.results.toList fun x H _ => Done H x (encDec (decI b f t l now))) := by
 obtain ⟨x, y, q, e, hr, hx, hy, j⟩ := s
 unfold HS2
 dsimp only
 unfold KI at j
 obtain ⟨ja, js⟩ := J_if j
 have ja := fun hh => J_num (ja hh)
 have rU := uintS_r (e := e) (n := 1) hr
 have vU := uintS_1 (q := q) (e := e) hb
 obtain ⟨U, eU⟩ : ∃ x, uintS b q e 1 = x := ⟨_, rfl⟩
 rw [eU] at ja rU vU
 have wu : IntKind.i64.wrap U.1 = U.1 := IntWalk.i64_in _ (by omega)
 clear j
 have g1 : True := trivial
 refine sem_step (wd := 1) (Q := mkQ LRe4) (by decide) tysOk (q_of LRe4_ok) mixed ?_
 repeat' (first | (apply And.intro <;> intro hc <;> (first | exact Bool.noConfusion hc | exact zn2 hc | (simp only [zb0, ne_eq, not_true_eq_false] at hc <;> first | exact absurd rfl hc | exact zn2 hc | skip) | skip)) | (refine And.intro zp1 ?_) | (apply And.intro) | (refine Exists.intro b (And.intro ⟨rfl, rfl, by first | exact trivial⟩ ?_)) | (intro s hs; skip))
 all_goals try (first | exact rfl | exact fun _ => rfl)
 refine sem_cut (wd := 1) (Q := mkQ LRe4) (by decide) tysOk (q_of LRe4_ok) (mono_of LRe4_ok) mixed (HS3 b f t l now) (fun _ => rfl) ?_ (rd3 b f t l now hC hb hbl hl)
 repeat' (first | (apply And.intro <;> intro hc <;> (first | exact Bool.noConfusion hc | exact zn2 hc | (simp only [zb0, ne_eq, not_true_eq_false] at hc <;> first | exact absurd rfl hc | exact zn2 hc | skip) | skip)) | (refine And.intro zp1 ?_) | (apply And.intro) | (refine Exists.intro b (And.intro ⟨rfl, rfl, by first | exact trivial | exact ⟨hr, by decide, by decide⟩⟩ ?_)) | (intro s hs; (first | (clear g1; have q : U = s := (hs.trans eU).symm; clear hs; subst q) | skip)))
 all_goals try (first | exact rfl | exact fun _ => rfl)
 all_goals first
  | (refine ⟨⟨x, y, U.1, U.2.1, U.2.2, rU, hx, hy, vU, ja (by assumption)⟩, [], rfl, ?_, ?_⟩
     . repeat' (first | exact zw0 | refine leF_int ?_ | refine leF_bool ?_ | exact zw1 | apply And.intro)
       all_goals exact wu
     . repeat' (first | exact zw0 | refine leF_int ?_ | refine leF_bool ?_ | exact zw1 | apply And.intro)
       all_goals first
        | exact rfN_le0 rfl rfl rfl
        | (refine leN_var ?_; repeat' (first | exact trivial | exact rfl | exact leC_int rfl | exact leC_bool rfl | exact leC_nils | apply And.intro))
        | skip)
  | (refine ⟨⟨x, y, 0, q, e, hr, hx, hy, ⟨by decide, by decide⟩, js (by first | assumption | omega)⟩, [], rfl, ?_, ?_⟩
     . repeat' (first | exact zw0 | refine leF_int ?_ | refine leF_bool ?_ | exact zw1 | apply And.intro)
     . repeat' (first | exact zw0 | refine leF_int ?_ | refine leF_bool ?_ | exact zw1 | apply And.intro)
       all_goals first
        | exact rfN_le0 rfl rfl rfl
        | (refine leN_var ?_; repeat' (first | exact trivial | exact rfl | exact leC_int rfl | exact leC_bool rfl | exact leC_nils | apply And.intro))
        | skip)
  | skip
end
section
variable (b : List Int) (f t : Adr) (l : List Ctx) (now : Int)
theorem rd1 (hC : checkF f t l now = 0) (hb : BL b) (hbl : b.length <= 140737488355328) (hl : bytesL l) (s : RS1 b f t l now) : Sem Try.prog Try.f97.ntmps 0 (dropC 5 (Try.f97.body.getD Code.ret)) (HS1 b f t l now s).fr (HS1 b f t l now s).H (HS1 b f t l now s).nx (endH T Try.f97.results.toList fun x H _ => Done H x (encDec (decI b f t l now))) := by
 obtain ⟨x, q, e, hr, hx, j⟩ := s
 unfold HS1
 dsimp only
 have ja := J_num j
 have rU := uintS_r (e := e) (n := 1) hr
 have vU := uintS_1 (q := q) (e := e) hb
 obtain ⟨U, eU⟩ : ∃ x, uintS b q e 1 = x := ⟨_, rfl⟩
 rw [eU] at ja rU vU
 have wu : IntKind.i64.wrap U.1 = U.1 := IntWalk.i64_in _ (by omega)
 have jb := J_fail (z := zeroH) (q := U.2.1) (by decide) ja
 obtain ⟨E, eE⟩ : ∃ x, failS U.2.2 (badY U.1) 5 = x := ⟨_, rfl⟩
 rw [eE] at jb
 have m8 : (IntKind.i64.wrap ((IntKind.i64.wrap U.1).tdiv 8)).tmod 2 = U.1 / 8 % 2 := by rw [wu]; exact raw_dm vU 8 2 (by decide) (by decide)
 have m4 : (IntKind.i64.wrap ((IntKind.i64.wrap U.1).tdiv 4)).tmod 2 = U.1 / 4 % 2 := by rw [wu]; exact raw_dm vU 4 2 (by decide) (by decide)
 have mm : (IntKind.i64.wrap U.1).tmod 4 = U.1 % 4 := by rw [wu]; exact Int.tmod_eq_emod_of_nonneg vU.1
 have bB : badY U.1 = (decide ((IntKind.i64.wrap ((IntKind.i64.wrap U.1).tdiv 4)).tmod 2 = 1) && (decide ((IntKind.i64.wrap ((IntKind.i64.wrap U.1).tdiv 8)).tmod 2 = 1) || decide ((IntKind.i64.wrap U.1).tmod 4 = 0))) := by rw [m8, m4, mm]; rfl
 have bT : (IntKind.i64.wrap ((IntKind.i64.wrap U.1).tdiv 8)).tmod 2 = 1 -> (IntKind.i64.wrap ((IntKind.i64.wrap U.1).tdiv 4)).tmod 2 = 1 -> true = badY U.1 := fun h1 h2 => by rw [bB, decide_eq_true h1, decide_eq_true h2]; rfl
 have bF : ¬ (IntKind.i64.wrap ((IntKind.i64.wrap U.1).tdiv 4)).tmod 2 = 1 -> false = badY U.1 := fun h2 => by rw [bB, decide_eq_false h2]; rfl
 have bX : ¬ (IntKind.i64.wrap ((IntKind.i64.wrap U.1).tdiv 8)).tmod 2 = 1 -> (IntKind.i64.wrap ((IntKind.i64.wrap U.1).tdiv 4)).tmod 2 = 1 -> ((IntKind.i64.wrap U.1).tmod 4 == 0) = badY U.1 := fun h1 h2 => by rw [bB, decide_eq_false h1, decide_eq_true h2]; rfl
 clear j ja
 have g1 : True := trivial
 refine sem_step (wd := 1) (Q := mkQ LRe4) (by decide) tysOk (q_of LRe4_ok) mixed ?_
 repeat' (first | (apply And.intro <;> intro hc <;> (first | exact Bool.noConfusion hc | exact zn2 hc | (simp only [zb0, ne_eq, not_true_eq_false] at hc <;> first | exact absurd rfl hc | exact zn2 hc | skip) | skip)) | (refine And.intro zp1 ?_) | (apply And.intro) | (refine Exists.intro b (And.intro ⟨rfl, rfl, by first | exact trivial | exact ⟨hr, by decide, by decide⟩⟩ ?_)) | (intro s hs; (first | (clear g1; have q : U = s := (hs.trans eU).symm; clear hs; subst q) | skip)))
 all_goals try (first | exact rfl | exact fun _ => rfl)
 refine sem_step (wd := 1) (Q := mkQ LRe4) (by decide) tysOk (q_of LRe4_ok) mixed ?_
 repeat' (first | (apply And.intro <;> intro hc <;> (first | exact Bool.noConfusion hc | exact zn2 hc | (simp only [zb0, ne_eq, not_true_eq_false] at hc <;> first | exact absurd rfl hc | exact zn2 hc | skip) | skip)) | (refine And.intro zp1 ?_) | (apply And.intro) | (refine Exists.intro b (And.intro ⟨rfl, rfl, by first | exact trivial⟩ ?_)) | (intro s hs; skip))
 refine sem_cut (wd := 1) (Q := mkQ LRe4) (by decide) tysOk (q_of LRe4_ok) (mono_of LRe4_ok) mixed (HS2 b f t l now) (fun _ => rfl) ?_ (rd2 b f t l now hC hb hbl hl)
 repeat' (first | (apply And.intro <;> intro hc <;> (first | exact Bool.noConfusion hc | exact zn2 hc | (simp only [zb0, ne_eq, not_true_eq_false] at hc <;> first | exact absurd rfl hc | exact zn2 hc | skip) | skip)) | (refine And.intro zp1 ?_) | (apply And.intro) | (refine Exists.intro b (And.intro ⟨rfl, rfl, by first | exact trivial | exact ⟨hr, by decide, by decide⟩⟩ ?_)) | (intro s hs; (first | (have hb5 := bT (by assumption) (by assumption); have q : s = ((), U.2.1, E) := hs.trans ((congrArg (fun x => ((), U.2.1, failS U.2.2 x 5)) hb5).trans (congrArg (fun x => ((), U.2.1, x)) eE)); clear hs; subst q) | (have hb5 := bX (by assumption) (by assumption); have q : s = ((), U.2.1, E) := hs.trans ((congrArg (fun x => ((), U.2.1, failS U.2.2 x 5)) hb5).trans (congrArg (fun x => ((), U.2.1, x)) eE)); clear hs; subst q) | (have hb5 := bF (by assumption); have q : s = ((), U.2.1, E) := hs.trans ((congrArg (fun x => ((), U.2.1, failS U.2.2 x 5)) hb5).trans (congrArg (fun x => ((), U.2.1, x)) eE)); clear hs; subst q) | skip)))
 all_goals try (first | exact rfl | exact fun _ => rfl)
 all_goals first
  | (refine ⟨⟨x, U.1, U.2.1, E, rU, hx, vU, jb⟩, [], rfl, ?_, ?_⟩
     . repeat' (first | exact zw0 | refine leF_int ?_ | refine leF_bool ?_ | exact zw1 | apply And.intro)
       all_goals first | exact wu | exact mm | (show ((IntKind.i64.wrap ((IntKind.i64.wrap U.1).tdiv 8)).tmod 2 == 1) = _; rw [m8]; rfl) | (show ((IntKind.i64.wrap ((IntKind.i64.wrap U.1).tdiv 4)).tmod 2 == 1) = _; rw [m4]; rfl)
     . repeat' (first | exact zw0 | refine leF_int ?_ | refine leF_bool ?_ | exact zw1 | apply And.intro)
       all_goals first
        | exact rfN_le0 rfl rfl rfl
        | (refine leN_var ?_; repeat' (first | exact trivial | exact rfl | exact leC_int rfl | exact leC_bool rfl | exact leC_nils | apply And.intro))
        | skip)
  | skip
end
section
variable (b : List Int) (f t : Adr) (l : List Ctx) (now : Int)
theorem rdecI_ok (hb : BL b) (hbl : b.length <= 140737488355328) (hl : bytesL l) : PureOk Try.prog 97 [(cSl eB eB_sz).enc b, (cE eAdr).enc f, (cE eAdr).enc t, (cSl eCtx eCtx_sz).enc l, (cI .i64).enc now] (encDec (decI b f t l now)) := by
 have r0 : RdOk b 0 := ⟨hb, hbl, Int.le_refl 0, Int.natCast_nonneg _⟩
 obtain ⟨Ck, eC⟩ : ∃ x, checkF f t l now = x := ⟨_, rfl⟩
 have e0 : ¬ Ck = 0 -> decI b f t l now = (((zeroH, []), 0), Ck) := fun h => decI_0 eC h
 refine pure_introS tysOk Try.func97 rfl _ (by show 5 <= _; decide) _ ?_
 refine sem_step (wd := 1) (Q := mkQ LRe4) (by decide) tysOk (q_of LRe4_ok) mixed ?_
 repeat' (first | (apply And.intro <;> intro hc <;> (first | exact Bool.noConfusion hc | exact zn2 hc | (simp only [zb0, ne_eq, not_true_eq_false] at hc <;> first | exact absurd rfl hc | exact zn2 hc | skip) | skip)) | (refine And.intro zp1 ?_) | (apply And.intro) | (refine Exists.intro b (And.intro ⟨rfl, rfl, by first | exact trivial⟩ ?_)) | (intro s hs; skip))
 refine sem_step (wd := 1) (Q := mkQ LRe4) (by decide) tysOk (q_of LRe4_ok) mixed ?_
 repeat' (first | (apply And.intro <;> intro hc <;> (first | exact Bool.noConfusion hc | exact zn2 hc | (simp only [zb0, ne_eq, not_true_eq_false] at hc <;> first | exact absurd rfl hc | exact zn2 hc | skip) | skip)) | (refine And.intro zp1 ?_) | (apply And.intro) | (refine Exists.intro b (And.intro ⟨rfl, rfl, by first | exact trivial⟩ ?_)) | (intro s hs; (first | (have q : Ck = s := (hs.trans ((congr (congr (congrArg (fun a b c => checkF a b c now) (rd_adr f)) (rd_adr t)) (toL_ctx l)).trans eC)).symm; clear hs; subst q) | skip)))
 . exact Eq.mp (congrArg bytesL (toL_ctx l).symm) hl
 . rw [e0 (by assumption)]
   refine Done.mk (leF_tup ⟨leE_tail rfl (fun j hj => ?_) (leC_nils_sl rfl), leC_int rfl, leC_int rfl, trivial⟩)
   iterate 38 (rcases j with _ | j; exact leC_int rfl)
   exact absurd hj (by show ¬ _ < 38; omega)
 have hC : checkF f t l now = 0 := eC.trans (by assumption)
 have j0 : J (readD b f t l now) 0 (thenD (numF b 0 1) zeroH fun x q => if x < 96 \/ 127 < x then ((zeroH, 5), q) else thenD (numF b q 1) zeroH fun y q => if badY y = true then ((zeroH, 5), q) else KI b f t l now x y q) := ⟨fun _ => read_K b f t l now, fun h => absurd rfl h⟩
 have j1 := J_num j0
 have v1 := uintS_1 (q := 0) (e := 0) hb
 have r1 := uintS_r (e := 0) (n := 1) r0
 obtain ⟨U, eU⟩ : ∃ x, uintS b 0 0 1 = x := ⟨_, rfl⟩
 rw [eU] at j1 v1 r1
 have w1 : IntKind.i64.wrap U.1 = U.1 := IntWalk.i64_in _ (by omega)
 have j2 : J (readD b f t l now) U.2.2 (if (decide (U.1 < 96) || decide (127 < U.1)) = true then ((zeroH, 5), U.2.1) else thenD (numF b U.2.1 1) zeroH fun y q => if badY y = true then ((zeroH, 5), q) else KI b f t l now U.1 y q) := by
  refine Eq.mp (congrArg (J _ _) ?_) j1
  by_cases hh : U.1 < 96 \/ 127 < U.1
  . rw [if_pos hh, if_pos (by rw [Bool.or_eq_true, decide_eq_true_eq, decide_eq_true_eq]; exact hh)]
  . rw [if_neg hh, if_neg (by rw [Bool.or_eq_true, decide_eq_true_eq, decide_eq_true_eq]; exact hh)]
 have j3 := J_fail (by decide) j2
 obtain ⟨E, eE⟩ : ∃ x, failS U.2.2 (decide (U.1 < 96) || decide (127 < U.1)) 5 = x := ⟨_, rfl⟩
 rw [eE] at j3
 have bT : IntKind.i64.wrap U.1 < 96 -> true = (decide (U.1 < 96) || decide (127 < U.1)) := fun h => by rw [decide_eq_true (show U.1 < 96 by omega)]; rfl
 have bF : ¬ IntKind.i64.wrap U.1 < 96 -> decide (127 < IntKind.i64.wrap U.1) = (decide (U.1 < 96) || decide (127 < U.1)) := fun h => by rw [decide_eq_false (show ¬ U.1 < 96 by omega), w1]; rfl
 clear j1 j2 j0
 have g1 : True := trivial
 refine sem_step (wd := 1) (Q := mkQ LRe4) (by decide) tysOk (q_of LRe4_ok) mixed ?_
 repeat' (first | (apply And.intro <;> intro hc <;> (first | exact Bool.noConfusion hc | exact zn2 hc | (simp only [zb0, ne_eq, not_true_eq_false] at hc <;> first | exact absurd rfl hc | exact zn2 hc | skip) | skip)) | (refine And.intro zp1 ?_) | (apply And.intro) | (refine Exists.intro b (And.intro ⟨rfl, rfl, by first | exact trivial⟩ ?_)) | (intro s hs; skip))
 refine sem_step (wd := 1) (Q := mkQ LRe4) (by decide) tysOk (q_of LRe4_ok) mixed ?_
 repeat' (first | (apply And.intro <;> intro hc <;> (first | exact Bool.noConfusion hc | exact zn2 hc | (simp only [zb0, ne_eq, not_true_eq_false] at hc <;> first | exact absurd rfl hc | exact zn2 hc | skip) | skip)) | (refine And.intro zp1 ?_) | (apply And.intro) | (refine Exists.intro b (And.intro ⟨rfl, rfl, by first | exact ⟨r0, by decide, by decide⟩ | exact trivial⟩ ?_)) | (intro s hs; (first | (clear g1; have q : U = s := (hs.trans eU).symm; clear hs; subst q) | skip)))
 refine sem_cut (wd := 1) (Q := mkQ LRe4) (by decide) tysOk (q_of LRe4_ok) (mono_of LRe4_ok) mixed (HS1 b f t l now) (fun _ => rfl) ?_ (rd1 b f t l now hC hb hbl hl)
 repeat' (first | (apply And.intro <;> intro hc <;> (first | exact Bool.noConfusion hc | exact zn2 hc | (simp only [zb0, ne_eq, not_true_eq_false] at hc <;> first | exact absurd rfl hc | exact zn2 hc | skip) | skip)) | (refine And.intro zp1 ?_) | (apply And.intro) | (refine Exists.intro b (And.intro ⟨rfl, rfl, by first | exact trivial⟩ ?_)) | (intro s hs; (first | (have hb5 := bT (by assumption); have q : s = ((), U.2.1, E) := hs.trans ((congrArg (fun x => ((), U.2.1, failS U.2.2 x 5)) hb5).trans (congrArg (fun x => ((), U.2.1, x)) eE)); clear hs; subst q) | (have hb5 := bF (by assumption); have q : s = ((), U.2.1, E) := hs.trans ((congrArg (fun x => ((), U.2.1, failS U.2.2 x 5)) hb5).trans (congrArg (fun x => ((), U.2.1, x)) eE)); clear hs; subst q) | skip)))
 all_goals try (first | exact rfl | exact fun _ => rfl)
 all_goals first
  | (refine ⟨⟨U.1, U.2.1, E, r1, v1, j3⟩, [], rfl, ?_, ?_⟩
     . repeat' (first | exact zw0 | refine leF_int ?_ | refine leF_bool ?_ | exact zw1 | apply And.intro)
       all_goals exact w1
     . repeat' (first | exact zw0 | refine leF_int ?_ | refine leF_bool ?_ | exact zw1 | apply And.intro)
       all_goals first
        | exact rfN_le0 rfl rfl rfl
        | (refine leN_var ?_; repeat' (first | exact trivial | exact rfl | exact leC_int rfl | exact leC_bool rfl | exact leC_nils | apply And.intro))
        | skip)
  | skip
end
theorem encB_up (p : Pkt) (s : Int) : encB p s = ((((beB (1610612736 + p.1.cls * 1048576 + p.1.flow) 4 ++ beB (sizeP p - 40) 2) ++ [p.1.nxt, p.1.hops]) ++ ipL p.1.src) ++ ipL p.1.dst) ++ upB p s := by
 unfold encB upB encU
 rw [List.append_assoc _ _ p.2]
theorem rencode_ok (p : Pkt) (s0 : Int) (hp : PkW p) (hl : p.2.length <= 70368744170000) (hs0 : 0 <= s0 /\ s0 < 65536) : NewOk Try.prog 64 [cPk.enc p, (cI .u16).enc s0] (some (encB p s0).length) none (ents eB 5 (encB p s0)) := by
 obtain ⟨w, eW⟩ : ∃ w, encB p s0 = w := ⟨_, rfl⟩
 rw [eW]
 have c1 := hp.cls
 have c2 := hp.flow
 have w1 : IntKind.u64.wrap p.1.cls = p.1.cls := IntWalk.u64_in _ (by omega)
 have w2 : shlI .u64 (IntKind.u64.wrap p.1.cls) 20 = p.1.cls * 1048576 := by
  rw [w1]
  unfold shlI
  rw [show min (20 : Int).toNat (IntKind.bits .u64) = 20 from rfl]
  exact IntWalk.u64_in _ (by omega)
 have w3 : IntKind.u64.wrap (IntKind.u64.wrap (1610612736 + shlI .u64 (IntKind.u64.wrap p.1.cls) 20) + IntKind.u64.wrap p.1.flow) = 1610612736 + p.1.cls * 1048576 + p.1.flow := by
  rw [w2, IntWalk.u64_in p.1.flow (by omega), IntWalk.u64_in (1610612736 + p.1.cls * 1048576) (by omega)]
  exact IntWalk.u64_in _ (by omega)
 have w4 := wlen (p := p) (by omega)
 refine new_intro (wd := 1) (Q := mkQ LRp2) (by decide) tysOk (q_of LRp2_ok) mixed Try.func64 rfl _ (by show 2 <= _; decide) (fun i _ j _ => row_nf eB _ i j) ?_
 repeat' (first | (apply And.intro <;> intro hc <;> (first | exact Bool.noConfusion hc | (simp only [zb0, ne_eq, not_true_eq_false] at hc <;> first | exact absurd rfl hc | skip) | skip)) | (refine And.intro zp1 ?_) | (apply And.intro) | (intro s hs; (first | (have q : s = sizeP p := hs.trans (congrArg sizeP (pk_eq p _)); clear hs; subst q) | (have hq2 : s = upB p s0 := hs.trans (congrArg (fun x => upB x s0) (pk_eq p _)); clear hs; have hun := upB_len p s0; rw [<- hq2] at hun) | (dsimp only at hs; (first | rw [toL_b0] at hs | rw [toL_nil] at hs); have hln := app_le hs; try rw [List.length_nil] at hln) | skip)))
 all_goals first
  | (dsimp only; rw [toL_b]; omega)
  | (dsimp only; rw [toL_b0]; omega)
  | (dsimp only; rw [toL_nil]; decide)
  | (dsimp only; rw [pk_eq]; exact hp)
  | exact rfl
  | (dsimp only; omega)
  | omega
  | skip
 . rename_i z1 hz1 l1 s2
   have hz2 := hs
   clear hs
   have e : w = (((s2 ++ [p.1.nxt, p.1.hops]) ++ ipL p.1.src) ++ ipL p.1.dst) ++ s := by
    rw [<- eW, encB_up, hz2, hz1, hq2, w3, w4]; rfl
   rw [e]
   clear e hz1 hz2 hq2 hun
   refine ⟨⟨some _, leF_c (leC_os rfl ?_), leN_is ?_ (isRow_sel ?_ (isRow_sel ?_ (isRow_sel ?_ (isRow_sel rfl (isRow_row _) fun k hk => ?_) fun k hk => ?_) fun k hk => ?_) fun k hk => ?_)⟩⟩
   . simp only [List.length_append, ipL_len, List.length_cons, List.length_nil]
   . simp only [List.length_append, ipL_len, List.length_cons, List.length_nil]
   . simp only [List.length_append, ipL_len, List.length_cons, List.length_nil]
   . simp only [List.length_append, ipL_len, List.length_cons, List.length_nil]
   . simp only [List.length_append, ipL_len, List.length_cons, List.length_nil]
   . rw [show s2.length + k - s2.length = k by omega]
     rcases k with _ | _ | k
     . rfl
     . rfl
     . exact absurd hk (by show ¬ _ < 2; omega)
   . have h16 : k < 16 := by rw [ipL_len] at hk; exact hk
     exact (tailC_src (k := k) (by omega) h16).trans (ip_at rfl hk)
   . have h16 : k < 16 := by rw [ipL_len] at hk; exact hk
     exact (tailC_dst (k := k) (by omega) h16).trans (ip_at rfl hk)
   . show CV.int .u8 (s.getD (0 + (s2.length + 2 + (16 - 0) + (16 - 0) + k - (s2.length + 2 + (16 - 0) + (16 - 0)))) default) = _
     rw [show 0 + (s2.length + 2 + (16 - 0) + (16 - 0) + k - (s2.length + 2 + (16 - 0) + (16 - 0))) = k by omega]
abbrev rencE0 : Entry := newE (AC.cons cPk (AC.cons (cI .u16) AC.nil)) (fun a => PkW a.1 /\ a.1.2.length <= 70368744170000 /\ 0 <= a.2.1 /\ a.2.1 < 65536) (fun a => encB a.1 a.2.1) (fun L => some L.length) (fun _ => none) (fun L => ents eB 5 L)
def LRp3 : CsL := (64, some rencE0) :: LRp2
theorem LRp3_ok : AllOk Try.prog LRp3 := ⟨newE_ok ⟨_, Try.func64, rfl, by kernel_rfl⟩ (fun s l h => by cases h) fun a h => rencode_ok a.1 a.2.1 h.1 h.2.1 h.2.2, LRp2_ok⟩
theorem rEncode_ok (p : Pkt) (hp : PkW p) (hl : p.2.length <= 140737488355328) : NewOk Try.prog 20 [cPk.enc p] (some ((encR p).getD []).length) (some [i64V (ecR (encR p))]) (ents eB 5 ((encR p).getD [])) := by
 refine new_intro (wd := 1) (Q := mkQ LRp3) (by decide) tysOk (q_of LRp3_ok) mixed Try.func20 rfl _ (by show 1 <= _; decide) (fun i _ j _ => row_nf eB _ i j) ?_
 repeat' (first | (apply And.intro <;> intro hc <;> (first | exact Bool.noConfusion hc | (simp only [zb0, ne_eq, not_true_eq_false] at hc <;> first | exact absurd rfl hc | skip) | skip)) | (refine And.intro zp1 ?_) | (apply And.intro) | (intro s hs; (first | (have hs' : s = validP p := hs.trans (congrArg validP (pk_eq p _)); clear hs; subst hs') | (have hs' : s = sumP p := hs.trans (congrArg sumP (pk_eq p _)); clear hs; subst hs') | (have hq : s = encB p (sumP p) := hs.trans (congrArg (fun x => encB x (sumP p)) (pk_eq p _)); clear hs) | skip)))
 all_goals
  try (have hvv : validP p = true := by assumption)
  try (have hvl := valid_len hvv)
 all_goals first
  | (dsimp only; rw [pk_eq]; exact hp)
  | (dsimp only; rw [toL_b]; omega)
  | exact (sumP_r p).1
  | exact (sumP_r p).2
  | skip
 . have e : encR p = none := if_neg (fun h => by simp_all)
   rw [e]
   exact ⟨⟨none, leF_tup ⟨leC_nils_os rfl, leC_int rfl, trivial⟩, rfl, rfl, by decide⟩⟩
 . have hv : validP p = true := by simp_all
   have e : encR p = some s := by unfold encR; rw [if_pos hv, hq]
   rw [e]
   exact ⟨⟨some _, leF_tup ⟨leC_os rfl rfl, leC_int rfl, trivial⟩, leN_ents⟩⟩
abbrev rencE : Entry := newE PA (fun a => PkW a.1 /\ a.1.2.length <= 140737488355328) (fun a => encR a.1) (fun s => some (s.getD []).length) (fun s => some [i64V (ecR s)]) (fun s => ents eB 5 (s.getD []))
def LRp4 : CsL := (20, some rencE) :: LRp3
theorem LRp4_ok : AllOk Try.prog LRp4 := ⟨newE_ok ⟨_, Try.func20, rfl, by kernel_rfl⟩ (fun s l h x hx => by injection h with h; subst h; obtain rfl := List.mem_singleton.1 hx; exact nfE_c nf_int) fun a h => rEncode_ok a.1 h.1 h.2, LRp3_ok⟩
def upTo (b : List Int) (o i : Nat) : Fin 16 -> Int := fun q => if q.1 < i then b.getD (o + q.1) default else 0
def hdI (b : List Int) (v : Int) (i : Nat) : Hdr := ⟨IntKind.u8.wrap (shrI .u64 v 20), IntKind.u32.wrap (v.tmod 1048576), b.getD 6 default, b.getD 7 default, upTo b 8 i, upTo b 24 i, 0, 0⟩
theorem upTo_step (b : List Int) (o i q : Nat) (hq : q < 16) : vget (upTo b o (i + 1)) q = if q = i then b.getD (o + i) default else vget (upTo b o i) q := by
 rw [vget_lt _ hq, vget_lt _ hq]
 unfold upTo
 dsimp only
 by_cases h : q = i
 . subst h; rw [if_pos (by omega), if_pos rfl]
 . rw [if_neg h]
   by_cases h2 : q < i
   . rw [if_pos (by omega), if_pos h2]
   . rw [if_neg (by omega), if_neg h2]
theorem hd_step {c : Wc} {b : List Int} {v : Int} {i : Nat} (hi : i < 16) {o1 o2 : Nat} (h1 : o1 = 4 + i) (h2 : o2 = 20 + i) {x1 x2 : Int} (e1 : x1 = b.getD (8 + i) default) (e2 : x2 = b.getD (24 + i) default) (j : Nat) (hj : j < 39) :
 LeC c (ovs (ovs (tailC eHd (hdI b v i) .nils) o1 1 fun _ => .int .u8 x1) o2 1 (fun _ => .int .u8 x2) j) (tailC eHd (hdI b v (i + 1)) .nils j) := by
 subst h1 h2 e1 e2
 rw [ovs_eq, ovs_eq]
 rcases Nat.lt_or_ge j 38 with hj2 | hj2
 . by_cases c2 : j = 20 + i
   . subst c2
     rw [ovrI (by omega), tailC_dst (k := i) rfl hi, show (hdI b v (i + 1)).dst = upTo b 24 (i + 1) from rfl, upTo_step _ _ _ _ hi, if_pos rfl]
     exact leC_int rfl
   . rw [ovrO (by omega)]
     by_cases c1 : j = 4 + i
     . subst c1
       rw [ovrI (by omega), tailC_src (k := i) rfl hi, show (hdI b v (i + 1)).src = upTo b 8 (i + 1) from rfl, upTo_step _ _ _ _ hi, if_pos rfl]
       exact leC_int rfl
     . rw [ovrO (by omega)]
       rcases Nat.lt_or_ge j 4 with g | g
       . rcases j with _ | _ | _ | _ | j
         . exact leC_int rfl
         . exact leC_int rfl
         . exact leC_int rfl
         . exact leC_int rfl
         . omega
       . rcases Nat.lt_or_ge j 20 with g2 | g2
         . obtain ⟨q, rfl⟩ : ∃ q, j = 4 + q := ⟨j - 4, by omega⟩
           rw [tailC_src (k := q) rfl (by omega), tailC_src (k := q) rfl (by omega), show (hdI b v (i + 1)).src = upTo b 8 (i + 1) from rfl, upTo_step _ _ _ _ (by omega), if_neg (by omega)]
           exact leC_int rfl
         . rcases Nat.lt_or_ge j 36 with g3 | g3
           . obtain ⟨q, rfl⟩ : ∃ q, j = 20 + q := ⟨j - 20, by omega⟩
             rw [tailC_dst (k := q) rfl (by omega), tailC_dst (k := q) rfl (by omega), show (hdI b v (i + 1)).dst = upTo b 24 (i + 1) from rfl, upTo_step _ _ _ _ (by omega), if_neg (by omega)]
             exact leC_int rfl
           . rcases (show j = 36 \/ j = 37 by omega) with rfl | rfl
             . exact leC_int rfl
             . exact leC_int rfl
 . obtain rfl : j = 38 := by omega
   rw [ovrO (by omega), ovrO (by omega)]
   exact leC_nils
theorem isRow_b0 {b : List Int} {Z : Nat -> Nat -> CV} (a : Nat) : IsRow (fun q j => selC (Nat.blt (0 + q) 0) (Z (0 + q) j) (rowF eB b (a + (0 + q - 0)) j)) (b.drop a) := ⟨fun k hk => by
 rw [getD_dropI]
 show selC false _ (.int .u8 (b.getD (a + (0 + k - 0)) default)) = _
 rw [selC_false, show 0 + k - 0 = k by omega]⟩
theorem tail_le {c : Wc} {h : Hdr} {j : Nat} : LeC c (tailC eHd h .nils j) (tailC eHd h .nils j) := by
 unfold tailC
 cases Nat.blt j eHd.sz with
 | true => exact (eHd.flat _ _).le
 | false => exact leC_nils
theorem parse_ok (b : List Int) (hb : BL b) (hl : 40 <= b.length /\ b.length <= 1280) (h17 : b.getD 6 default = 17 -> 48 <= b.length) : PureOk Try.prog 110 [(cSl eB eB_sz).enc b] (.tup [tailR eHd eB (pkF b), .c (.int .u16 (rsumB b))]) := by
 obtain ⟨W, eW⟩ : ∃ W : Pkt × Int, (pkF b, rsumB b) = W := ⟨_, rfl⟩
 rw [show pkF b = W.1 from congrArg Prod.fst eW, show rsumB b = W.2 from congrArg Prod.snd eW]
 have hl2 : b.length <= 70368744177664 := by omega
 refine pure_intro (wd := 1) (Q := mkQ LRp4) (by decide) tysOk (q_of LRp4_ok) mixed Try.func110 rfl _ (by show 1 <= _; decide) _ ?_
 repeat' (first | (apply And.intro <;> intro hc <;> (first | exact Bool.noConfusion hc | (simp only [zb0, ne_eq, not_true_eq_false] at hc <;> first | exact absurd rfl hc | skip) | skip)) | (refine And.intro zp1 ?_) | (apply And.intro) | (intro s hs; skip))
 . dsimp only; rw [toL_b]; exact hb
 . dsimp only; rw [toL_b]; exact hl2
 have ev : s.1 = uI b 0 4 := congrArg Prod.fst (hs.trans (congrArg (fun x => uintF x 0 4) (toL_b b)))
 clear hs
 obtain ⟨v, vb⟩ := s
 have ev : v = uI b 0 4 := ev
 have hf : IntKind.u32.wrap (v.tmod 1048576) = IntKind.u32.wrap (bits .and .u64 (uI b 0 4) 1048575) := by
  have h0 := hb.get 0; have h1 := hb.get 1; have h2 := hb.get 2; have h3 := hb.get 3
  have e4 := uI_4 (b := b) (by omega)
  rw [ev, and20 (by omega), Int.tmod_eq_emod_of_nonneg (by omega)]
 refine loop_intro (mono_of LRp4_ok) (fun i : {i : Nat // i <= 16} => (⟨[(0, one (.sl false b.length eB.sz (rowF eB b))), (2, one (.ptr 0 0 0 false)), (3, one (.int .u16 0)), (6, one (.ptr 22 0 0 false)), (7, one (.int .i64 (i.1 : Int)))],
  [(0, some ⟨28, 1, 39, true, fun _ => tailC eHd pk0.1 .nils⟩), (22, some ⟨28, 1, 39, true, fun _ => tailC eHd (hdI b v i.1) .nils⟩)], 25⟩ : Hd)) (fun i => 16 - i.1) (fun _ => rfl) ?_ ⟨0, by omega⟩ [] ?_
 . rintro ⟨i, hi⟩
   dsimp only at hi ⊢
   have w8 : IntKind.i64.wrap (8 + (i : Int)) = 8 + i := IntWalk.i64_in _ (by omega)
   have w24 : IntKind.i64.wrap (24 + (i : Int)) = 24 + i := IntWalk.i64_in _ (by omega)
   repeat' (first | (apply And.intro <;> intro hc <;> (first | exact Bool.noConfusion hc | (simp only [zb0, ne_eq, not_true_eq_false] at hc <;> first | exact absurd rfl hc | skip) | skip)) | (refine And.intro zp1 ?_) | (apply And.intro) | (intro s hs; (dsimp only at hs; rw [toL_b] at hs)))
   all_goals first
    | (rw [w8]; omega)
    | (rw [w24]; omega)
    | (dsimp only; rw [toL_b]; exact hb)
    | (dsimp only; rw [toL_b]; exact hl2)
    | (show (0 : Int) <= _; omega)
    | skip
   . refine ⟨⟨i + 1, by omega⟩, [], by dsimp only; omega, rfl, ?_, ?_⟩
     . repeat' (first | exact zw0 | refine leF_int ?_ | refine leF_bool ?_ | exact zw1 | apply And.intro)
       refine (IntWalk.i64_in _ ?_).trans ?_
       . constructor <;> omega
       . dsimp only
         omega
     . repeat' (first | exact zw0 | refine leF_int ?_ | refine leF_bool ?_ | exact zw1 | apply And.intro)
       all_goals first
        | exact leN_varA fun j _ => tail_le
        | (refine leN_varA fun j hj => hd_step (by omega) ?_ ?_ ?_ ?_ j hj
           . omega
           . omega
           . exact congrArg (fun z => b.getD (Int.toNat z) default) w8
           . exact congrArg (fun z => b.getD (Int.toNat z) default) w24)
        | skip
   . have h48 := h17 (by assumption)
     omega
   . obtain rfl : i = 16 := by omega
     have h6 : b.getD 6 default = 17 := by assumption
     have h48 := h17 h6
     rename_i z1 hz1 z2 hz2 _
     have e : W = (pkU b, IntKind.u16.wrap (uI b 46 2)) := by rw [<- eW]; unfold pkF rsumB; rw [if_pos h6, if_pos h6]
     rw [e]
     have e1 : z1.1 = uI b 40 2 := congrArg Prod.fst hz1
     have e2 : z2.1 = uI b 42 2 := congrArg Prod.fst hz2
     have e3 : s.1 = uI b 46 2 := congrArg Prod.fst hs
     refine Done.mk (leF_tup ⟨leE_tail rfl (fun j hj => ?_) (leC_os_is (l := b.drop 48) rfl rfl rfl ?_ ?_ ?_), leC_int (by rw [e3]), trivial⟩)
     . rcases j with _ | _ | j
       . exact leC_int (by rw [ev]; rfl)
       . exact leC_int hf
       . iterate 34 (rcases j with _ | j; exact leC_int rfl)
         rcases j with _ | _ | j
         . exact leC_int (by rw [e1]; rfl)
         . exact leC_int (by rw [e2]; rfl)
         . exact absurd hj (by show ¬ _ < 38; omega)
     . rw [List.length_drop]; show 0 + (b.length - 48) = _; omega
     . exact Nat.le_refl _
     . exact isRow_b0 (Z := fun _ => nth [.int .u8 0]) 48
   . obtain rfl : i = 16 := by omega
     have h6 : b.getD 6 default ≠ 17 := by assumption
     have e : W = (pkN b, 0) := by rw [<- eW]; unfold pkF rsumB; rw [if_neg h6, if_neg h6]
     rw [e]
     refine Done.mk (leF_tup ⟨leE_tail rfl (fun j hj => ?_) (leC_os_is (l := b.drop 40) rfl rfl rfl ?_ ?_ ?_), leC_int rfl, trivial⟩)
     . rcases j with _ | _ | j
       . exact leC_int (by rw [ev]; rfl)
       . exact leC_int hf
       . iterate 36 (rcases j with _ | j; exact leC_int rfl)
         exact absurd hj (by show ¬ _ < 38; omega)
     . rw [List.length_drop]; show 0 + (b.length - 40) = _; omega
     . exact Nat.le_refl _
     . exact isRow_b0 (Z := fun _ => nth [.int .u8 0]) 40
 . refine ⟨rfl, ?_, ?_⟩
   . repeat' (first | exact zw0 | refine leF_int ?_ | refine leF_bool ?_ | exact zw1 | apply And.intro)
   . repeat' (first | exact zw0 | refine leF_int ?_ | refine leF_bool ?_ | exact zw1 | apply And.intro)
     all_goals
      refine leN_var ?_
      repeat' (first | exact trivial | exact leC_int rfl | exact leC_nils | apply And.intro)
def encPS (s : Pkt × Int) : FV := .tup [tailR eHd eB s.1, .c (.int .u16 s.2)]
abbrev parseE : Entry := pureE (AC.cons (cSl eB eB_sz) AC.nil) (fun a => BL a.1 /\ (40 <= a.1.length /\ a.1.length <= 1280) /\ (a.1.getD 6 default = 17 -> 48 <= a.1.length)) (fun a => (pkF a.1, rsumB a.1)) encPS
def LRp5 : CsL := (110, some parseE) :: LRp4
theorem LRp5_ok : AllOk Try.prog LRp5 := ⟨pureE_ok ⟨_, Try.func110, rfl, by kernel_rfl⟩ fun a h => parse_ok a.1 h.1 h.2.1 h.2.2, LRp4_ok⟩
theorem rdecode_ok (b : List Int) (hb : BL b) (hl : b.length <= 140737488355328) : PureOk Try.prog 71 [(cSl eB eB_sz).enc b] (encPE (rdecF b)) := by
 obtain ⟨P, eP⟩ : ∃ P, pkF b = P := ⟨_, rfl⟩
 obtain ⟨R, eR⟩ : ∃ R, rsumB b = R := ⟨_, rfl⟩
 have hR : 0 <= R /\ R < 65536 := by
  rw [<- eR]
  unfold rsumB
  split
  . exact u16r' _
  . omega
 obtain ⟨W, eW⟩ : ∃ W, rdecF b = W := ⟨_, rfl⟩
 rw [eW]
 have hP : 40 <= b.length -> b.length <= 1280 -> PkW P /\ P.2.length <= 1280 := fun h1 h2 => by
  rw [<- eP]
  refine ⟨pkF_w hb h1, ?_⟩
  rw [pkF_pay]
  split
  . rw [List.length_drop]; omega
  . rw [List.length_drop]; omega
 unfold rdecF at eW
 rw [eP, eR] at eW
 have hn : P.1.nxt = b.getD 6 default := by rw [<- eP]; exact pkF_nxt b
 refine pure_intro (wd := 1) (Q := mkQ LRp5) (by decide) tysOk (q_of LRp5_ok) mixed Try.func71 rfl _ (by show 1 <= _; decide) _ ?_
 repeat' (first | (apply And.intro <;> intro hc <;> (first | exact Bool.noConfusion hc | (simp only [zb0, ne_eq, not_true_eq_false] at hc <;> first | exact absurd rfl hc | skip) | skip)) | (refine And.intro zp1 ?_) | (apply And.intro) | (intro s hs; (first | (have q : s = (P, R) := (by (rw [hs]; dsimp only; rw [toL_b, eP, eR])); clear hs; subst q) | (have q : s = validP P := hs.trans (congrArg validP (pk_eq P _)); clear hs; subst q) | (have q : s = sumP P := hs.trans (congrArg sumP (pk_eq P _)); clear hs; subst q) | (have hE : s = encB P R := hs.trans (congrArg (fun x => encB x R) (pk_eq P _)); clear hs) | (have hS := hs; dsimp only at hS; rw [toL_b0, toL_b] at hS; clear hs) | skip)))
 all_goals
  try (have h6 : b.getD 6 default = 17 := by assumption)
  try (have h6 : ¬ b.getD 6 default = 17 := by assumption)
 all_goals first
  | (dsimp only; rw [toL_b]; exact hb)
  | (dsimp only; rw [toL_b]; omega)
  | exact rfl
  | exact Eq.mp (congrArg PkW (pk_eq P _).symm) (hP (by omega) (by omega)).1
  | (show (toL eB _ _).length <= _; rw [toL_len]; have := (hP (by omega) (by omega)).2; omega)
  | (have hq := encB_len P R; have hz := (hP (by omega) (by omega)).2; dsimp only; rw [toL_b0, hE]; unfold sizeP at hq; split at hq <;> omega)
  | exact hR.1
  | exact hR.2
  | (dsimp only; rw [toL_b]; intro h; omega)
  | (have e : W = (pk0, 3) := by rw [<- eW, if_pos (by omega)]
     rw [e]
     refine Done.mk (leF_tup ⟨leE_tail rfl (fun j hj => ?_) (leC_nils_sl rfl), leC_int rfl, trivial⟩)
     iterate 38 (rcases j with _ | j; exact leC_int rfl)
     exact absurd hj (by show ¬ _ < 38; omega))
  | (have e : W = (pk0, 4) := by rw [<- eW, if_neg (by omega), if_pos (by omega)]
     rw [e]
     refine Done.mk (leF_tup ⟨leE_tail rfl (fun j hj => ?_) (leC_nils_sl rfl), leC_int rfl, trivial⟩)
     iterate 38 (rcases j with _ | j; exact leC_int rfl)
     exact absurd hj (by show ¬ _ < 38; omega))
  | (have hv : validP P = false := by assumption
     have e : W = (pk0, 5) := by rw [<- eW, if_neg (by omega), if_neg (by omega), if_pos (.inl hv)]
     rw [e]
     refine Done.mk (leF_tup ⟨leE_tail rfl (fun j hj => ?_) (leC_nils_sl rfl), leC_int rfl, trivial⟩)
     iterate 38 (rcases j with _ | j; exact leC_int rfl)
     exact absurd hj (by show ¬ _ < 38; omega))
  | (have hv := of_decide_eq_false (hS.symm.trans (by assumption))
     rw [hE] at hv
     have e : W = (pk0, 5) := by rw [<- eW, if_neg (by omega), if_neg (by omega), if_pos (.inr hv)]
     rw [e]
     refine Done.mk (leF_tup ⟨leE_tail rfl (fun j hj => ?_) (leC_nils_sl rfl), leC_int rfl, trivial⟩)
     iterate 38 (rcases j with _ | j; exact leC_int rfl)
     exact absurd hj (by show ¬ _ < 38; omega))
  | (have hv := of_decide_eq_true (hS.symm.trans (by assumption))
     rw [hE] at hv
     have hvv : validP P = true := by assumption
     have n5 : ¬ (validP P = false \/ encB P R ≠ b) := fun h => h.elim (fun h => Bool.noConfusion (hvv.symm.trans h)) (fun h => h hv)
     first
      | (have e : W = (pk0, 6) := by rw [<- eW, if_neg (by omega), if_neg (by omega), if_neg n5, if_pos ⟨by omega, by assumption⟩]
         rw [e]
         refine Done.mk (leF_tup ⟨leE_tail rfl (fun j hj => ?_) (leC_nils_sl rfl), leC_int rfl, trivial⟩)
         iterate 38 (rcases j with _ | j; exact leC_int rfl)
         exact absurd hj (by show ¬ _ < 38; omega))
      | (have e : W = (P, 0) := by rw [<- eW, if_neg (by omega), if_neg (by omega), if_neg n5, if_neg (fun h => by first | exact h.2 (by assumption) | omega)]
         rw [e]
         refine Done.mk (leF_tup ⟨leE_tail rfl (fun j hj => ?_) (leC_sl (fun _ => rfl) rfl rfl fun i _ j _ => leC_int rfl), leC_int rfl, trivial⟩)
         iterate 38 (rcases j with _ | j; exact leC_int rfl)
         exact absurd hj (by show ¬ _ < 38; omega)))
  | skip
def LRp6 : CsL := (71, some decE) :: LRp5
theorem LRp6_ok : AllOk Try.prog LRp6 := ⟨pureE_ok ⟨_, Try.func71, rfl, by kernel_rfl⟩ fun a h => (rdec_eq h.1) ▸ rdecode_ok a.1 h.1 h.2, LRp5_ok⟩
theorem pkF_w' {b : List Int} (hb : BL b) (h : (decF b).2 = 0) : PkM (decF b).1 := by
 obtain ⟨e, hp, _⟩ := dec_enc hb h
 rw [e]; exact hp
theorem hops_eq {P : Pkt} {G : Nat -> CV} {h : Int} (h0 : ∀ j, j < 38 -> G j = eHd.cell (withHops P h).1 j) {F : Nat -> Nat -> CV} {n : Nat} (hF : toL eB n F = P.2) : ((eHd.rd G, toL eB n F) : Pkt) = withHops P h := by
 rw [hF, hd_congr G (eHd.cell (withHops P h).1) h0, eHd_rd]; rfl
theorem rforward_ok (b : List Int) (hb : BL b) (hl : b.length <= 140737488355328) : NewOk Try.prog 72 [(cSl eB eB_sz).enc b] (some (rfwdF b).1.length) (some [i64V (rfwdF b).2]) (ents eB 5 (rfwdF b).1) := by
 obtain ⟨d, eD⟩ : ∃ d, decF b = d := ⟨_, rfl⟩
 obtain ⟨w, eW⟩ : ∃ w, rfwdF b = w := ⟨_, rfl⟩
 rw [eW]
 unfold rfwdF at eW
 have hm := pkF_w' hb
 rw [eD] at eW hm
 have w8 : ∀ x, IntKind.u8.wrap x = IntKind.u8.wrap x := fun x => rfl
 refine new_intro (wd := 1) (Q := mkQ LRp6) (by decide) tysOk (q_of LRp6_ok) mixed Try.func72 rfl _ (by show 1 <= _; decide) (fun i _ j _ => row_nf eB _ i j) ?_
 repeat' (first | (apply And.intro <;> intro hc <;> (first | exact Bool.noConfusion hc | (simp only [zb0, ne_eq, not_true_eq_false] at hc <;> first | exact absurd rfl hc | skip) | skip)) | (refine And.intro zp1 ?_) | (apply And.intro) | (intro s hs; (first | (have q : d = s := (by (rw [hs]; dsimp only; rw [toL_b, eD])); clear hs; subst q) | skip)))
 all_goals first
  | (dsimp only; rw [toL_b]; exact hb)
  | (dsimp only; rw [toL_b]; exact hl)
  | (have e : w = ([], d.2) := by rw [<- eW, if_pos hc]
     rw [e]
     exact ⟨⟨none, leF_tup ⟨leC_nils_os rfl, leC_int rfl, trivial⟩, rfl, rfl, (by show 0 < 1; omega)⟩⟩)
  | (have e : w = ([], 2) := by rw [<- eW, if_neg (fun h => h (by assumption)), if_pos hc]
     rw [e]
     exact ⟨⟨none, leF_tup ⟨leC_nils_os rfl, leC_int rfl, trivial⟩, rfl, rfl, (by show 0 < 1; omega)⟩⟩)
  | skip
 . have hw := withHops_m (hm (by assumption)) (u8r (d.1.1.hops - 1))
   refine Eq.mp (congrArg PkW (hops_eq (P := d.1) (h := IntKind.u8.wrap (d.1.1.hops - 1)) (fun j hj => ?_) (toL_b d.1.2)).symm) hw.w
   iterate 38 (rcases j with _ | j; exact rfl)
   exact absurd hj (by omega)
 . have hw := valid_len (hm (by assumption)).v
   show (toL eB _ _).length <= _
   rw [toL_len]
   omega
 . have q : s = encR (withHops d.1 (IntKind.u8.wrap (d.1.1.hops - 1))) := by
    refine hs.trans (congrArg encR (hops_eq (P := d.1) (h := IntKind.u8.wrap (d.1.1.hops - 1)) (fun j hj => ?_) (toL_b d.1.2)))
    iterate 38 (rcases j with _ | j; exact rfl)
    exact absurd hj (by omega)
   clear hs
   have e : w = (s.getD [], ecR s) := by rw [<- eW, if_neg (fun h => h (by assumption)), if_neg hc, <- q]
   rw [e]
   exact ⟨⟨some _, leF_tup ⟨leC_os rfl rfl, leC_int rfl, trivial⟩, leN_ents⟩⟩
def LRp7 : CsL := (72, some fwdE) :: LRp6
theorem LRp7_ok : AllOk Try.prog LRp7 := ⟨newE_ok ⟨_, Try.func72, rfl, by kernel_rfl⟩ (fun s l h x hx => by injection h with h; subst h; obtain rfl := List.mem_singleton.1 hx; exact nfE_c nf_int) fun a h => (rfwd_eq h.1) ▸ rforward_ok a.1 h.1 h.2, LRp6_ok⟩
theorem eqFrom_self {f : Nat -> CV} : ∀ (n off : Nat), (∀ i, i < n -> eqCell (f (off + i)) (f (off + i)) = true) -> eqFrom f f n off = true := fun n off h => eqFrom_iff.2 h
theorem ip_self (a : Fin 16 -> Int) (g : Nat -> CV) (h : ∀ j, j < 16 -> g j = .int .u8 (vget a j)) : eqFrom g g 16 0 = true := eqFrom_self 16 0 fun i hi => by
 rw [Nat.zero_add, h i hi]
 show (vget a i == vget a i) = true
 exact beq_self_eq_true _
theorem rsame_ok (p : Pkt) (hl : p.2.length <= 140737488355328) : PureOk Try.prog 31 [cPk.enc p, cPk.enc p] (cB.enc true) := by
 refine pure_intro (wd := 1) (Q := mkQ LRp7) (by decide) tysOk (q_of LRp7_ok) mixed Try.func31 rfl _ (by show 2 <= _; decide) _ ?_
 repeat' (first | (apply And.intro <;> intro hc <;> (first | exact Bool.noConfusion hc | (exfalso; first | exact absurd rfl hc | exact absurd (beq_self_eq_true _) (by rw [hc]; decide) | exact Bool.noConfusion ((ip_self p.1.src _ fun j hj => tailC_src (by omega) hj).symm.trans hc) | exact Bool.noConfusion ((ip_self p.1.dst _ fun j hj => tailC_dst (by omega) hj).symm.trans hc)) | (simp only [zb0, ne_eq, not_true_eq_false] at hc <;> first | exact absurd rfl hc | (exfalso; first | exact absurd rfl hc | exact absurd (beq_self_eq_true _) (by rw [hc]; decide) | exact Bool.noConfusion ((ip_self p.1.src _ fun j hj => tailC_src (by omega) hj).symm.trans hc) | exact Bool.noConfusion ((ip_self p.1.dst _ fun j hj => tailC_dst (by omega) hj).symm.trans hc)) | skip) | skip)) | (refine And.intro zp1 ?_) | (apply And.intro) | (intro s hs; skip))
 . exact fun _ => rfl
 . exact fun _ => rfl
 . dsimp only; rw [toL_b]; omega
 . have q : s = true := by
    rw [hs]
    dsimp only
    exact decide_eq_true rfl
   exact Done.mk (leF_bool q)
abbrev rsameE : Entry := pureE (AC.cons cPk (AC.cons cPk AC.nil)) (fun a => a.1 = a.2.1 /\ a.1.2.length <= 140737488355328) (fun a => true) cB.enc
def LRp : CsL := (31, some rsameE) :: LRp7
theorem LRp_ok : AllOk Try.prog LRp := ⟨pureE_ok ⟨_, Try.func31, rfl, by kernel_rfl⟩ fun a h => by
 obtain ⟨p, q, u⟩ := a
 obtain ⟨h1, h2⟩ := h
 have h1 : p = q := h1
 subst h1
 exact rsame_ok p h2, LRp7_ok⟩
theorem fin_mk {n : Nat} {l : List Int} {H : Hp} {g : Nat -> CV} {m : Nat} (cls flow nxt hops : Int) (src dst : Fin 16 -> Int) (sp dp : Int) (pay : List Int) (q : Int) (hm : m = 39)
 (hc : ∀ j, j < 38 -> LeC ⟨H, [(0, some (tapeN n (rI l) q))], [], 1, true⟩ (g j) (eHd.cell ⟨cls, flow, nxt, hops, src, dst, sp, dp⟩ j))
 (hl : LeC ⟨H, [(0, some (tapeN n (rI l) q))], [], 1, true⟩ (g 38) (slR eB pay))
 (hE : WkE ⟨H, [(0, some (tapeN n (rI l) q))], [], 1, true⟩ (tapeN n (rI l) q) (some 0)) (hT : TapeOk n (rI l) q) (hP : PkM (⟨cls, flow, nxt, hops, src, dst, sp, dp⟩, pay)) :
 ∃ r : Pkt × Int, (PkM r.1 /\ TapeOk n (rI l) r.2) /\ FinM (.e (tailR eHd eB r.1)) (tapeN n (rI l) r.2) (.e (.agg m g)) H :=
 ⟨((⟨cls, flow, nxt, hops, src, dst, sp, dp⟩, pay), q), ⟨hP, hT⟩, ⟨leF_e (leE_tail hm hc hl), hE⟩⟩
theorem sz_r (p : Pkt) (h : p.2.length = 0) : sizeP p = 40 \/ sizeP p = 48 := by
 unfold sizeP
 split <;> omega
theorem sz_eq (p : Pkt) (h : p.2.length = 0) : sizeP p = if p.1.nxt = 17 then 48 else 40 := by
 unfold sizeP
 rw [h]
 exact Int.add_zero _
theorem flow_r {s : Int} (h : 0 <= s /\ s < 1048576) : 0 <= IntKind.u32.wrap s /\ IntKind.u32.wrap s < 1048576 := by
 rw [IntWalk.u32_in s (by omega)]; exact h
theorem nff_tail {p : Pkt} : NFF (.e (tailR eHd eB p)) := nfE_tail
theorem fill_sz {nxt : Int} {zl : List Int} {z1 z0 : Int} {p : Pkt} (hz1 : z1 = sizeP p) (hp : p.2.length = 0) (hn : p.1.nxt = nxt) (h0 : 0 <= z0 /\ z0 < 2) (h : BL zl /\ (zl.length : Int) = IntKind.i64.wrap (IntKind.i64.wrap (1280 - z1) - z0)) : (if nxt = 17 then (48 : Int) else 40) + zl.length <= 1280 := by
 rw [sz_eq p hp, hn] at hz1
 have e1 : z1 = 40 \/ z1 = 48 := by rw [hz1]; split <;> omega
 have w1 : IntKind.i64.wrap (1280 - z1) = 1280 - z1 := IntWalk.i64_in _ (by omega)
 have w2 : IntKind.i64.wrap (1280 - z1 - z0) = 1280 - z1 - z0 := IntWalk.i64_in _ (by omega)
 have h2 := h.2
 rw [w1, w2] at h2
 rw [<- hz1]; omega
theorem byte_sz {nxt : Int} {zl : List Int} (h : BL zl /\ (zl.length : Int) <= 12) : (if nxt = 17 then (48 : Int) else 40) + zl.length <= 1280 := by
 have := h.2
 split <;> omega
theorem mc_no {a' : Fin 16 -> Int} {s : Bool} (hs : s = mcast a') (hc : s = false) : vget a' 0 ≠ 255 := by
 rw [hs] at hc
 unfold mcast at hc
 exact of_decide_eq_false hc
theorem zz256 : (0 : Int) <= 0 /\ (0 : Int) < 256 := by decide
theorem zzf : (0 : Int) <= 0 /\ (0 : Int) < 1048576 := by decide
theorem zz16 : (0 : Int) <= 0 /\ (0 : Int) < 65536 := by decide
theorem packet_ok (n : Nat) (l : List Int) (q : Int) (a1 a2 : Adr) (ht : TapeOk n (rI l) q) :
 ∃ (r : Pkt) (q' : Int), PkM r /\ TapeOk n (rI l) q' /\ MethOk Try.prog 36 [(cE eAdr).enc a1, (cE eAdr).enc a2] (tapeN n (rI l) q) (.e (tailR eHd eB r)) (tapeN n (rI l) q') := by
 refine tape_intro (S := PkM) (enc := fun r => .e (tailR eHd eB r)) (wd := 1) (Q := mkQ LM) (by decide) tysOk (q_of LM_ok) mixed Try.func36 rfl _ (by show 2 + 1 <= _; decide) (fun _ => nff_tail) ?_
 repeat' (first | (apply And.intro <;> intro hc <;> (first | exact Bool.noConfusion hc | (simp only [zb0] at hc) | skip)) | (refine And.intro zp1 ?_) | (apply And.intro) | (intro s hs))
 all_goals first
  | exact Nat.le_trans (Nat.le_of_eq (toL_len _ _ _)) (Nat.zero_le _)
  | (rename_i s1 hs1 s0 hs0
     have e1 : s1 = 40 \/ s1 = 48 := by rw [hs1]; exact sz_r _ rfl
     have e0 : 0 <= s0 /\ s0 < 2 := hs0
     have w1 : IntKind.i64.wrap (1280 - s1) = 1280 - s1 := IntWalk.i64_in _ (by omega)
     have w2 : IntKind.i64.wrap (1280 - s1 - s0) = 1280 - s1 - s0 := IntWalk.i64_in _ (by omega)
     first
      | (show 0 <= IntKind.i64.wrap (IntKind.i64.wrap (1280 - s1) - s0); rw [w1, w2]; omega)
      | (show IntKind.i64.wrap (IntKind.i64.wrap (1280 - s1) - s0) <= 2000; rw [w1, w2]; omega))
  | skip
 all_goals first
  | (apply fin_mk (src := setV _ 0 32)
     . rfl
     . intro j hj
       iterate 38 (rcases j with _ | j; exact leC_int rfl)
       exact absurd hj (by omega)
     . exact leC_sl (fun _ => rfl) rfl rfl fun i _ j _ => leC_int rfl
     . exact tapeN_le
     . assumption
     . apply pkM_mk
       . first | exact u8r _ | exact zz256
       . first | exact flow_r (by assumption) | exact zzf
       . exact pick5 0 _ _ _ _ _ (by omega) _
       . exact pick5 0 _ _ _ _ _ (by omega) _
       . exact setV_ok (by assumption) (by omega)
       . assumption
       . first | assumption | exact zz16
       . first | assumption | exact zz16
       . exact (show BL _ /\ _ from by assumption).1
       . show (32 : Int) ≠ 255; decide
       . first
          | exact byte_sz (by assumption)
          | (refine fill_sz (by assumption) ?_ ?_ (by assumption) (by assumption)
             . exact toL_len _ _ _
             . rfl)
       . first | exact .inl (by assumption) | exact .inr ⟨rfl, rfl⟩)
  | (apply fin_mk
     . rfl
     . intro j hj
       iterate 38 (rcases j with _ | j; exact leC_int rfl)
       exact absurd hj (by omega)
     . exact leC_sl (fun _ => rfl) rfl rfl fun i _ j _ => leC_int rfl
     . exact tapeN_le
     . assumption
     . apply pkM_mk
       . first | exact u8r _ | exact zz256
       . first | exact flow_r (by assumption) | exact zzf
       . exact pick5 0 _ _ _ _ _ (by omega) _
       . exact pick5 0 _ _ _ _ _ (by omega) _
       . assumption
       . assumption
       . first | assumption | exact zz16
       . first | assumption | exact zz16
       . exact (show BL _ /\ _ from by assumption).1
       . (have hmc := mc_no (by assumption) (by assumption); exact hmc)
       . first
          | exact byte_sz (by assumption)
          | (refine fill_sz (by assumption) ?_ ?_ (by assumption) (by assumption)
             . exact toL_len _ _ _
             . rfl)
       . first | exact .inl (by assumption) | exact .inr ⟨rfl, rfl⟩)
  | skip
abbrev packE : Entry := tapeE (AC.cons (cE eAdr) (AC.cons (cE eAdr) AC.nil)) (fun _ => True) (fun a (r : Pkt) => PkM r) (fun r => .e (tailR eHd eB r))
def LMp : CsL := (36, some packE) :: LM0
theorem LMp_ok : AllOk Try.prog LMp := ⟨tapeE_ok ⟨_, Try.func36, rfl, by kernel_rfl⟩ fun n l q a ht hp => packet_ok n l q a.1 a.2.1 ht, LM0_ok⟩
structure IsB (F : Nat -> Nat -> CV) (n : Nat) : Prop where
 at_ : ∀ k, k < n -> ∃ x, F k 0 = .int .u8 x /\ 0 <= x /\ x < 256
theorem isB_row {L : List Int} (h : BL L) (n : Nat) : IsB (rowF eB L) n := ⟨fun k _ => ⟨_, rfl, h.get k⟩⟩
theorem isB_0 {F : Nat -> Nat -> CV} {n : Nat} (h : IsB F n) : IsB (fun k j => F (0 + k) j) n := ⟨fun k hk => by show ∃ x, F (0 + k) 0 = _ /\ _; rw [Nat.zero_add]; exact h.at_ k hk⟩
theorem isB_set {G : Nat -> Nat -> CV} {n i : Nat} {x : Int} {g : Nat -> CV} (h : IsB G n) (hg : g 0 = .int .u8 x) (hx : 0 <= x /\ x < 256) : IsB (updE false G i g) n := ⟨fun k hk => by
 show ∃ y, selC (Nat.beq k i) (g 0) (G k 0) = _ /\ _
 obtain ⟨z, hz, hzr⟩ := h.at_ k hk
 rw [selC_eq, hg, hz]
 cases Nat.beq k i with
 | true => exact ⟨x, rfl, hx⟩
 | false => exact ⟨z, rfl, hzr⟩⟩
theorem isB_app {A C : Nat -> Nat -> CV} {n m : Nat} (h1 : IsB A n) (h2 : IsB C m) : IsB (fun k j => selC (Nat.blt k n) (A k j) (C (k - n) j)) (n + m) := ⟨fun k hk => by
 show ∃ y, selC (Nat.blt k n) (A k 0) (C (k - n) 0) = _ /\ _
 rcases Nat.lt_or_ge k n with h | h
 . obtain ⟨z, hz, hzr⟩ := h1.at_ k h
   rw [blt_lt h, selC_true]
   exact ⟨z, hz, hzr⟩
 . obtain ⟨z, hz, hzr⟩ := h2.at_ (k - n) (by omega)
   rw [blt_no h, selC_false]
   exact ⟨z, hz, hzr⟩⟩
theorem isB_none {F : Nat -> Nat -> CV} : IsB F 0 := ⟨fun k hk => absurd hk (Nat.not_lt_zero _)⟩
theorem bl_isB {F : Nat -> Nat -> CV} {n : Nat} (h : IsB F n) : BL (toL eB n F) := ⟨fun x hx => by
 simp only [toL, List.mem_map, List.mem_range] at hx
 obtain ⟨k, hk, rfl⟩ := hx
 obtain ⟨z, hz, hzr⟩ := h.at_ k hk
 show 0 <= valI (F k 0) /\ valI (F k 0) < 256
 rw [hz]; exact hzr⟩
theorem pk_eq' (p : Pkt) (last : CV) : ((eHd.rd (tailC eHd p.1 last), toL eB p.2.length (rowF eB p.2)) : Pkt) = p := pk_is (h := p.1) (l := p.2) (fun j hj => tailC_lt hj) (toL_b p.2)
theorem bl_app {a c : List Int} (h1 : BL a) (h2 : BL c) : BL (a ++ c) := ⟨fun x hx => (List.mem_append.1 hx).elim (h1.m x) (h2.m x)⟩
theorem bl_1 {x : Int} (h : 0 <= x /\ x < 256) : BL [x] := ⟨fun y hy => by rw [List.mem_singleton.1 hy]; exact h⟩
theorem bl_if {c : Prop} [Decidable c] {a d : List Int} (h1 : BL a) (h2 : BL d) : BL (if c then a else d) := by
 split
 . exact h1
 . exact h2
theorem beB_bl (v n : Int) : BL (beB v n) := by
 unfold beB
 split
 . exact beN_BL _ _
 . exact BL.nil
theorem iids_bl (y : Int) (k : Adr) : BL (iidsF y k).2 := by
 unfold iidsF
 split
 . exact BL.nil
 . split
   . exact beB_bl y 2
   . exact beB_bl y 8
theorem uni_bl {a : Fin 16 -> Int} (ha : byteOk a) (k : Adr) (s : Bool) (l : List Ctx) (now : Int) : BL (uniF a k s l now).2 := by
 unfold uniF
 split
 . exact BL.nil
 . split
   . exact iids_bl _ _
   . split
     . exact iids_bl _ _
     . exact ipBL ha
theorem grp_bl {a : Fin 16 -> Int} (ha : byteOk a) : BL (grpF a).2 := by
 have hv : ∀ i, 0 <= vget a i /\ vget a i < 256 := fun i => ha.v i
 unfold grpF
 split
 . exact bl_1 (hv _)
 . split
   . exact ⟨fun x hx => by
      simp only [List.mem_cons, List.not_mem_nil, or_false] at hx
      rcases hx with rfl | rfl | rfl | rfl <;> exact hv _⟩
   . split
     . exact ⟨fun x hx => by
        simp only [List.mem_cons, List.not_mem_nil, or_false] at hx
        rcases hx with rfl | rfl | rfl | rfl | rfl | rfl <;> exact hv _⟩
     . exact ipBL ha
theorem sec_r {s d : Fm} (hs : FmW s) (hd : FmW d) (m : Bool) : 0 <= secF s d m /\ secF s d m < 256 := by
 have h1 := hs.mode
 have h2 := hd.mode
 unfold secF
 have b1 := bitV_r (decide (16 * s.id + d.id ≠ 0)) 128 (by decide)
 have b2 := bitV_r s.ctx 64 (by decide)
 have b3 := bitV_r m 8 (by decide)
 have b4 := bitV_r d.ctx 4 (by decide)
 omega
theorem inl_bl {p : Pkt} (hp : PkW p) : BL (inlF p) := by
 unfold inlF
 refine bl_app (bl_app ?_ (bl_if BL.nil (bl_1 hp.nxt))) (bl_if (bl_1 hp.hops) BL.nil)
 unfold flowF
 split
 . exact bl_app (bl_1 hp.cls) (beB_bl _ _)
 . split
   . exact bl_app BL.nil (beB_bl _ _)
   . split
     . exact bl_1 hp.cls
     . exact BL.nil
theorem dst_w (p : Pkt) (t : Adr) (l : List Ctx) (now : Int) : FmW (dstF p t l now).1 := by
 unfold dstF
 split
 . exact grp_w _
 . exact uni_w _ _ _ _ _
theorem encI_bl {p : Pkt} (hp : PkW p) (f t : Adr) (l : List Ctx) (now : Int) : BL (encI p f t l now).1 := by
 have hb1 : byteOk p.1.src := ⟨fun q => by have := hp.src q.1; rw [vget_lt _ q.2] at this; exact this⟩
 have hb2 : byteOk p.1.dst := ⟨fun q => by have := hp.dst q.1; rw [vget_lt _ q.2] at this; exact this⟩
 unfold encI
 split
 . exact BL.nil
 . split
   . exact BL.nil
   . dsimp only
     unfold joinH
     have hw1 := uni_w p.1.src f true l now
     have hw2 := dst_w p t l now
     refine bl_app (bl_app (bl_app (bl_app ?_ (bl_if (bl_1 ?_) BL.nil)) (inl_bl hp)) (uni_bl hb1 _ _ _ _)) ?_
     . have h1 := first_r p
       have h2 := sec_r hw1 hw2 (mcast p.1.dst)
       exact ⟨fun x hx => by
        simp only [List.mem_cons, List.not_mem_nil, or_false] at hx
        rcases hx with rfl | rfl
        . omega
        . exact h2⟩
     . have h1 := hw1.id
       have h2 := hw2.id
       omega
     . unfold dstF
       split
       . exact grp_bl hb2
       . exact uni_bl hb2 _ _ _ _
theorem encI_len (p : Pkt) (f t : Adr) (l : List Ctx) (now : Int) : (encI p f t l now).1.length <= 41 := by
 have h1 := uni_len p.1.src f true l now
 have h2 := dst_len p t l now
 have h3 := inl_len p
 unfold encI
 split
 . exact Nat.zero_le _
 . split
   . exact Nat.zero_le _
   . dsimp only
     rw [join_len]
     split <;> omega
theorem rdecIE_ok : EntOk Try.prog 97 decIE := pureE_ok ⟨_, Try.func97, rfl, by kernel_rfl⟩ fun a h => rdecI_ok a.1 a.2.1 a.2.2.1 a.2.2.2.1 a.2.2.2.2.1 h.1 h.2.1 h.2.2
def LDd : CsL := (60, some decIE) :: (97, some decIE) :: LRp
theorem LDd_ok : AllOk Try.prog LDd := ⟨decIE_ok, rdecIE_ok, LRp_ok⟩
theorem decI_pay (b : List Int) (f t : Adr) (l : List Ctx) (now : Int) : (decI b f t l now).1.1.2 = [] := by
 unfold decI
 split
 . rfl
 . split
   . rfl
   . rfl
theorem decI_congr {b b' : List Int} {a a' c c' : Adr} {l l' : List Ctx} {n : Int} (h1 : b' = b) (h2 : a' = a) (h3 : c' = c) (h4 : l' = l) : decI b' a' c' l' n = decI b a c l n := by rw [h1, h2, h3, h4]
theorem decoded_ok (b : List Int) (f t : Adr) (l : List Ctx) (now : Int) (hb : BL b) (hbl : b.length <= 140737488355328) (hl : bytesL l) : PureOk Try.prog 59 [(cSl eB eB_sz).enc b, (cE eAdr).enc f, (cE eAdr).enc t, (cSl eCtx eCtx_sz).enc l, (cI .i64).enc now] (cB.enc true) := by
 have hP := decI_pay b f t l now
 obtain ⟨D, eD⟩ : ∃ D, decI b f t l now = D := ⟨_, rfl⟩
 rw [eD] at hP
 have g1 : True := trivial
 have g2 : True := trivial
 refine pure_intro (wd := 1) (Q := mkQ LDd) (by decide) tysOk (q_of LDd_ok) mixed Try.func59 rfl _ (by show 5 <= _; decide) _ ?_
 repeat' (first | (apply And.intro <;> intro hc <;> (first | exact Bool.noConfusion hc | (exfalso; first | exact absurd rfl hc) | (simp only [zb0, ne_eq, not_true_eq_false] at hc <;> first | exact absurd rfl hc | (exfalso; first | exact absurd rfl hc) | skip) | skip)) | (refine And.intro zp1 ?_) | (apply And.intro) | (intro s hs; (first | (clear g1; have q : D = s := (hs.trans ((decI_congr (toL_b b) (rd_adr f) (rd_adr t) (toL_ctx l)).trans eD)).symm; clear hs; subst q) | (clear g2; have q : D = s := (hs.trans ((decI_congr (toL_b b) (rd_adr f) (rd_adr t) (toL_ctx l)).trans eD)).symm; clear hs; subst q) | (have q : s = true := hs; clear hs; subst q) | skip)))
 all_goals first
  | exact Eq.mp (congrArg BL (toL_b b).symm) hb
  | (show (toL eB b.length _).length <= _; rw [toL_len]; exact hbl)
  | exact Eq.mp (congrArg bytesL (toL_ctx l).symm) hl
  | exact fun _ => rfl
  | exact rfl
  | exact Done.mk (leF_bool rfl)
  | (show (toL eB D.1.1.2.length _).length <= _
     rw [toL_len, hP]
     exact Nat.zero_le _)
  | (refine (pk_is (h := D.1.1.1) (l := D.1.1.2) (fun j hj => ?_) (toL_b D.1.1.2)).trans (pk_is (h := D.1.1.1) (l := D.1.1.2) (fun j hj => ?_) (toL_b D.1.1.2)).symm
     . iterate 38 (rcases j with _ | j; exact rfl)
       exact absurd hj (by omega)
     . iterate 38 (rcases j with _ | j; exact rfl)
       exact absurd hj (by omega))
  | skip
abbrev dcdE : Entry := pureE (AC.cons (cSl eB eB_sz) (AC.cons (cE eAdr) (AC.cons (cE eAdr) (AC.cons (cSl eCtx eCtx_sz) (AC.cons (cI .i64) AC.nil))))) (fun a => BL a.1 /\ a.1.length <= 140737488355328 /\ bytesL a.2.2.2.1) (fun _ => true) cB.enc
def LJ5 : CsL := (94, some uniE) :: (95, some grpFE) :: (91, some (pureE chkA (fun a => bytesL a.2.2.1) (fun a => checkF a.1 a.2.1 a.2.2.1 a.2.2.2.1) (cI .i64).enc)) :: (92, some (pureE PA (fun a => 0 <= a.1.1.flow /\ a.1.1.flow < 4294967296) (fun a => flowF a.1) encIS)) :: LJ1
theorem LJ5_ok : AllOk Try.prog LJ5 := ⟨pureE_ok ⟨_, Try.func94, rfl, by kernel_rfl⟩ fun a h => runi_ok a.1 a.2.1 a.2.2.1 a.2.2.2.1 a.2.2.2.2.1 h.1 h.2, pureE_ok ⟨_, Try.func95, rfl, by kernel_rfl⟩ fun a _ => rgrp_ok a.1, pureE_ok ⟨_, Try.func91, rfl, by kernel_rfl⟩ fun a h => rready_ok a.1 a.2.1 a.2.2.1 a.2.2.2.1 h, pureE_ok ⟨_, Try.func92, rfl, by kernel_rfl⟩ fun a h => rflow_ok a.1 h, LJ1_ok⟩
theorem jflow_r (p : Pkt) : 0 <= (flowF p).1 /\ (flowF p).1 <= 3 := by
 unfold flowF
 split
 . exact ⟨(by decide : (0 : Int) <= 0), (by decide : (0 : Int) <= 3)⟩
 . split
   . exact ⟨(by decide : (0 : Int) <= 1), (by decide : (1 : Int) <= 3)⟩
   . split
     . exact ⟨(by decide : (0 : Int) <= 2), (by decide : (2 : Int) <= 3)⟩
     . exact ⟨(by decide : (0 : Int) <= 3), (by decide : (3 : Int) <= 3)⟩
theorem flow_l (p : Pkt) : (flowF p).2.length <= 4 := by
 have h3 := beB_n p.1.flow 3 (by decide)
 have h3' : (beB p.1.flow 3).length = 3 := h3
 unfold flowF
 split
 . simp [h3']
 . split
   . simp [h3']
   . split <;> simp
theorem hop_r (h : Int) : 0 <= hopF h /\ hopF h <= 3 := by
 unfold hopF
 split <;> (try split) <;> (try split) <;> omega
theorem ids_l {s d : Fm} (hs : FmW s) (hd : FmW d) (h : ¬ s.id = 0) : 16 * s.id + d.id ≠ 0 := by
 have := hs.id
 have := hd.id
 omega
theorem ids_r {s d : Fm} (hs : FmW s) (hd : FmW d) (h0 : s.id = 0) (h : ¬ d.id = 0) : 16 * s.id + d.id ≠ 0 := by omega
theorem ids_cell {x y z : Int} {k m : Nat} (hk : k < [y].length) (h : x = y) : CV.int .u8 (bif Nat.beq (0 + (m + k - m)) 0 then x else z) = .int .u8 ([y].getD k default) := by
 obtain rfl : k = 0 := (by have hk' : k < 1 := hk; omega)
 rw [show 0 + (m + 0 - m) = 0 by omega]
 exact congrArg (CV.int .u8) h
theorem one_cell {y : Int} {k m : Nat} {c : CV} (hk : k < [y].length) : selC (Nat.beq (0 + (m + k - m)) 0) (.int .u8 y) c = .int .u8 ([y].getD k default) := by
 obtain rfl : k = 0 := (by have hk' : k < 1 := hk; omega)
 rw [show 0 + (m + 0 - m) = 0 by omega]
 exact selC_true _ _
theorem first_eq {F H : Int} (n : Bool) (hF : 0 <= F /\ F <= 3) (hH : 0 <= H /\ H <= 3) : IntKind.u8.wrap (IntKind.i64.wrap (IntKind.i64.wrap (IntKind.i64.wrap (96 + IntKind.i64.wrap (8 * F)) + bitV n 4) + H)) = 96 + 8 * F + bitV n 4 + H := by
 have := bitV_r n 4 (by decide)
 rw [IntWalk.i64_in (8 * F) (by omega), IntWalk.i64_in (96 + 8 * F) (by omega), IntWalk.i64_in (96 + 8 * F + bitV n 4) (by omega), IntWalk.i64_in _ (by omega), IntWalk.u8_in _ (by omega)]
theorem sec_eq2 {s d : Fm} (hs : FmW s) (hd : FmW d) (m b : Bool) (hb : decide (16 * s.id + d.id ≠ 0) = b) : IntKind.u8.wrap (IntKind.i64.wrap (IntKind.i64.wrap (IntKind.i64.wrap (IntKind.i64.wrap (IntKind.i64.wrap (bitV b 128 + bitV s.ctx 64) + IntKind.i64.wrap (16 * s.mode)) + bitV m 8) + bitV d.ctx 4) + d.mode)) = secF s d m := by
 have h1 := hs.mode
 have h2 := hd.mode
 unfold secF
 rw [hb]
 have b1 := bitV_r b 128 (by decide)
 have b2 := bitV_r s.ctx 64 (by decide)
 have b3 := bitV_r m 8 (by decide)
 have b4 := bitV_r d.ctx 4 (by decide)
 rw [IntWalk.i64_in (16 * s.mode) (by omega), IntWalk.i64_in (bitV b 128 + bitV s.ctx 64) (by omega), IntWalk.i64_in (bitV b 128 + bitV s.ctx 64 + 16 * s.mode) (by omega), IntWalk.i64_in (bitV b 128 + bitV s.ctx 64 + 16 * s.mode + bitV m 8) (by omega),
  IntWalk.i64_in (bitV b 128 + bitV s.ctx 64 + 16 * s.mode + bitV m 8 + bitV d.ctx 4) (by omega), IntWalk.i64_in _ (by omega), IntWalk.u8_in _ (by omega)]
theorem ids_u8 {s d : Fm} (hs : FmW s) (hd : FmW d) : IntKind.u8.wrap (IntKind.i64.wrap (IntKind.i64.wrap (16 * s.id) + d.id)) = 16 * s.id + d.id := by
 have h1 := hs.id
 have h2 := hd.id
 rw [ids_eq hs hd]
 exact u8_id (by omega)
theorem dec_ne {s d : Fm} (h0 : s.id = 0) : decide (16 * s.id + d.id ≠ 0) = (d.id != 0) := by
 rw [show 16 * s.id + d.id = d.id by omega]
 by_cases h : d.id = 0 <;> simp [h]
theorem renc_true (p : Pkt) (f t : Adr) (l : List Ctx) (now : Int) (hp : PkW p) (hpl : p.2.length <= 140737488355328) (hl : bytesL l) (hm : mcast p.1.dst = true) : NewOk Try.prog 58 [cPk.enc p, (cE eAdr).enc f, (cE eAdr).enc t, (cSl eCtx eCtx_sz).enc l, (cI .i64).enc now] (some (encI p f t l now).1.length) (some [i64V (encI p f t l now).2]) (ents eB 5 (encI p f t l now).1) := by
 obtain ⟨W, eW⟩ : ∃ W, encI p f t l now = W := ⟨_, rfl⟩
 rw [eW]
 unfold encI joinH firstF inlF at eW
 have wU := uni_w p.1.src f true l now
 have sl1 := uni_len p.1.src f true l now
 have hFl := jflow_r p
 have hHp := hop_r p.1.hops
 have slF := flow_l p
 have wX := grp_w p.1.dst
 have sl2 := (grp_len p.1.dst).1
 have eDst : dstF p t l now = grpF p.1.dst := by unfold dstF; rw [if_pos hm]
 obtain ⟨G, eG⟩ : ∃ x, grpF p.1.dst = x := ⟨_, rfl⟩
 obtain ⟨V, eV⟩ : ∃ x, validP p = x := ⟨_, rfl⟩
 obtain ⟨Ck, eC⟩ : ∃ x, checkF f t l now = x := ⟨_, rfl⟩
 obtain ⟨Fl, eF⟩ : ∃ x, flowF p = x := ⟨_, rfl⟩
 obtain ⟨Hp, eH⟩ : ∃ x, hopF p.1.hops = x := ⟨_, rfl⟩
 obtain ⟨U, eU⟩ : ∃ x, uniF p.1.src f true l now = x := ⟨_, rfl⟩
 rw [eG] at eDst wX sl2
 rw [eV, eC, eF, eH, eU, eDst, hm] at eW
 rw [eU] at wU sl1
 rw [eF] at hFl slF
 rw [eH] at hHp
 have hb1 : byteOk p.1.src := ⟨fun q => by have := hp.src q.1; rw [vget_lt _ q.2] at this; exact this⟩
 have hb2 : byteOk p.1.dst := ⟨fun q => by have := hp.dst q.1; rw [vget_lt _ q.2] at this; exact this⟩
 have e1 : V = false -> W = ([], 1) := fun h => by rw [<- eW, if_pos h]
 have e2 : V = true -> ¬ Ck = 0 -> W = ([], Ck) := fun h g => by rw [<- eW, if_neg (by rw [h]; decide), if_pos g]
 have e3_000 : V = true -> Ck = 0 -> 16 * U.1.id + G.1.id = 0 -> ¬ p.1.nxt = 17 -> ¬ Hp = 0 -> W = ([96 + 8 * Fl.1 + bitV (decide (p.1.nxt = 17)) 4 + Hp, secF U.1 G.1 true] ++ Fl.2 ++ [p.1.nxt] ++ U.2 ++ G.2, 0) := fun h g i n k => by rw [<- eW, if_neg (by rw [h]; decide), if_neg (fun x => x g), if_neg (fun x => x i), if_neg n, if_neg k]; simp only [List.append_assoc, List.nil_append, List.append_nil]
 have e3_001 : V = true -> Ck = 0 -> 16 * U.1.id + G.1.id = 0 -> ¬ p.1.nxt = 17 -> Hp = 0 -> W = ([96 + 8 * Fl.1 + bitV (decide (p.1.nxt = 17)) 4 + Hp, secF U.1 G.1 true] ++ Fl.2 ++ [p.1.nxt] ++ [p.1.hops] ++ U.2 ++ G.2, 0) := fun h g i n k => by rw [<- eW, if_neg (by rw [h]; decide), if_neg (fun x => x g), if_neg (fun x => x i), if_neg n, if_pos k]; simp only [List.append_assoc, List.nil_append, List.append_nil]
 have e3_010 : V = true -> Ck = 0 -> 16 * U.1.id + G.1.id = 0 -> p.1.nxt = 17 -> ¬ Hp = 0 -> W = ([96 + 8 * Fl.1 + bitV (decide (p.1.nxt = 17)) 4 + Hp, secF U.1 G.1 true] ++ Fl.2 ++ U.2 ++ G.2, 0) := fun h g i n k => by rw [<- eW, if_neg (by rw [h]; decide), if_neg (fun x => x g), if_neg (fun x => x i), if_pos n, if_neg k]; simp only [List.append_assoc, List.nil_append, List.append_nil]
 have e3_011 : V = true -> Ck = 0 -> 16 * U.1.id + G.1.id = 0 -> p.1.nxt = 17 -> Hp = 0 -> W = ([96 + 8 * Fl.1 + bitV (decide (p.1.nxt = 17)) 4 + Hp, secF U.1 G.1 true] ++ Fl.2 ++ [p.1.hops] ++ U.2 ++ G.2, 0) := fun h g i n k => by rw [<- eW, if_neg (by rw [h]; decide), if_neg (fun x => x g), if_neg (fun x => x i), if_pos n, if_pos k]; simp only [List.append_assoc, List.nil_append, List.append_nil]
 have e3_100 : V = true -> Ck = 0 -> 16 * U.1.id + G.1.id ≠ 0 -> ¬ p.1.nxt = 17 -> ¬ Hp = 0 -> W = ([96 + 8 * Fl.1 + bitV (decide (p.1.nxt = 17)) 4 + Hp, secF U.1 G.1 true] ++ [16 * U.1.id + G.1.id] ++ Fl.2 ++ [p.1.nxt] ++ U.2 ++ G.2, 0) := fun h g i n k => by rw [<- eW, if_neg (by rw [h]; decide), if_neg (fun x => x g), if_pos i, if_neg n, if_neg k]; simp only [List.append_assoc, List.nil_append, List.append_nil]
 have e3_101 : V = true -> Ck = 0 -> 16 * U.1.id + G.1.id ≠ 0 -> ¬ p.1.nxt = 17 -> Hp = 0 -> W = ([96 + 8 * Fl.1 + bitV (decide (p.1.nxt = 17)) 4 + Hp, secF U.1 G.1 true] ++ [16 * U.1.id + G.1.id] ++ Fl.2 ++ [p.1.nxt] ++ [p.1.hops] ++ U.2 ++ G.2, 0) := fun h g i n k => by rw [<- eW, if_neg (by rw [h]; decide), if_neg (fun x => x g), if_pos i, if_neg n, if_pos k]; simp only [List.append_assoc, List.nil_append, List.append_nil]
 have e3_110 : V = true -> Ck = 0 -> 16 * U.1.id + G.1.id ≠ 0 -> p.1.nxt = 17 -> ¬ Hp = 0 -> W = ([96 + 8 * Fl.1 + bitV (decide (p.1.nxt = 17)) 4 + Hp, secF U.1 G.1 true] ++ [16 * U.1.id + G.1.id] ++ Fl.2 ++ U.2 ++ G.2, 0) := fun h g i n k => by rw [<- eW, if_neg (by rw [h]; decide), if_neg (fun x => x g), if_pos i, if_pos n, if_neg k]; simp only [List.append_assoc, List.nil_append, List.append_nil]
 have e3_111 : V = true -> Ck = 0 -> 16 * U.1.id + G.1.id ≠ 0 -> p.1.nxt = 17 -> Hp = 0 -> W = ([96 + 8 * Fl.1 + bitV (decide (p.1.nxt = 17)) 4 + Hp, secF U.1 G.1 true] ++ [16 * U.1.id + G.1.id] ++ Fl.2 ++ [p.1.hops] ++ U.2 ++ G.2, 0) := fun h g i n k => by rw [<- eW, if_neg (by rw [h]; decide), if_neg (fun x => x g), if_pos i, if_pos n, if_pos k]; simp only [List.append_assoc, List.nil_append, List.append_nil]
 have eI8 := ids_u8 wU wX
 have eF' := eF
 have eH' := eH
 have eF' := eF
 have eH' := eH
 clear eW eDst eF eH
 have g1 : True := trivial
 have g2 : True := trivial
 refine new_intro (wd := 1) (Q := mkQ LJ5) (by decide) tysOk (q_of LJ5_ok) mixed Try.func58 rfl _ (by show 5 <= _; decide) (fun i _ j _ => row_nf eB _ i j) ?_
 repeat' (first | (apply And.intro <;> intro hc <;> (first | exact Bool.noConfusion hc | (exfalso; first | exact Bool.noConfusion hc) | (simp only [zb0, ne_eq, not_true_eq_false] at hc <;> first | exact absurd rfl hc | (exfalso; first | exact Bool.noConfusion hc) | skip) | skip)) | (refine And.intro zp1 ?_) | (apply And.intro) | (intro s hs; (first | (have q : V = s := (hs.trans ((congrArg validP (pk_eq p _)).trans eV)).symm; clear hs; subst q) | (have q : Ck = s := (hs.trans ((congr (congr (congrArg (fun a b c => checkF a b c now) (rd_adr f)) (rd_adr t)) (toL_ctx l)).trans eC)).symm; clear hs; subst q) | (clear g2; have q : Fl = s := (hs.trans ((congrArg flowF (pk_eq p _)).trans eF')).symm; clear hs; subst q) | (have q : Hp = s := (hs.trans eH').symm; clear hs; subst q) | (clear g1; have q : U = s := (hs.trans ((congr (congr (congrArg (fun a b c => uniF a b true c now) (src_eq p.1 _)) (rd_adr f)) (toL_ctx l)).trans eU)).symm; clear hs; subst q) | (have q : s = true := hs.trans ((congrArg mcast (dst_eq p.1 _)).trans hm); clear hs; subst q) | (have q : G = s := (hs.trans ((congrArg grpF (dst_eq p.1 _)).trans eG)).symm; clear hs; subst q) | (have q := hs; dsimp only at q; clear hs; subst q) | skip)))
 all_goals first
  | (show (toL eB p.2.length _).length <= _; rw [toL_len]; exact hpl)
  | ((first | rw [e1 (by assumption)] | rw [e2 (by assumption) (by assumption)])
     exact ⟨⟨none, leF_tup ⟨leC_nils_os rfl, leC_int rfl, trivial⟩, rfl, rfl, (by show 0 < 1; omega)⟩⟩)
  | exact Eq.mp (congrArg PkW (pk_eq p _).symm) hp
  | exact Eq.mp (congrArg (fun p : Pkt => 0 <= p.1.flow) (pk_eq p _).symm) hp.flow.1
  | exact Eq.mp (congrArg (fun p : Pkt => p.1.flow < 4294967296) (pk_eq p _).symm) hp.flow.2
  | exact Eq.mp (congrArg byteOk (src_eq p.1 _).symm) hb1
  | exact Eq.mp (congrArg byteOk (dst_eq p.1 _).symm) hb2
  | exact Eq.mp (congrArg bytesL (toL_ctx l).symm) hl
  | omega
  | skip
 all_goals first
  | (have hne := (show 16 * U.1.id + G.1.id = 0 by rw [show U.1.id = 0 by assumption, show G.1.id = 0 by assumption]; rfl)
     have e := e3_000 (by assumption) (by assumption) hne (by assumption) (by assumption)
     have hid : decide (16 * U.1.id + G.1.id ≠ 0) = (G.1.id != 0) := dec_ne (by assumption)
     rw [e]
     refine ⟨⟨some _, leF_tup ⟨leC_os rfl ?_, leC_int rfl, trivial⟩, leN_is ?_ (isRow_sel ?_ (isRow_sel ?_ (isRow_sel ?_ (isRow_sel rfl (isRow_2 (congrArg (CV.int .u8) (first_eq _ hFl hHp)) (congrArg (CV.int .u8) (sec_eq2 wU wX true (G.1.id != 0) hid))) (fun k hk => rowF_at (by omega))) (fun k hk => one_cell hk)) (fun k hk => rowF_at (by omega))) (fun k hk => rowF_at (by omega)))⟩⟩
     all_goals first
      | (simp only [List.length_append, List.length_cons, List.length_nil]; done)
      | rfl
      | skip)
  | (have hne := (show 16 * U.1.id + G.1.id = 0 by rw [show U.1.id = 0 by assumption, show G.1.id = 0 by assumption]; rfl)
     have e := e3_001 (by assumption) (by assumption) hne (by assumption) (by assumption)
     have hid : decide (16 * U.1.id + G.1.id ≠ 0) = (G.1.id != 0) := dec_ne (by assumption)
     rw [e]
     refine ⟨⟨some _, leF_tup ⟨leC_os rfl ?_, leC_int rfl, trivial⟩, leN_is ?_ (isRow_sel ?_ (isRow_sel ?_ (isRow_sel ?_ (isRow_sel ?_ (isRow_sel rfl (isRow_2 (congrArg (CV.int .u8) (first_eq _ hFl hHp)) (congrArg (CV.int .u8) (sec_eq2 wU wX true (G.1.id != 0) hid))) (fun k hk => rowF_at (by omega))) (fun k hk => one_cell hk)) (fun k hk => one_cell hk)) (fun k hk => rowF_at (by omega))) (fun k hk => rowF_at (by omega)))⟩⟩
     all_goals first
      | (simp only [List.length_append, List.length_cons, List.length_nil]; done)
      | rfl
      | skip)
  | (have hne := (show 16 * U.1.id + G.1.id = 0 by rw [show U.1.id = 0 by assumption, show G.1.id = 0 by assumption]; rfl)
     have e := e3_010 (by assumption) (by assumption) hne (by assumption) (by assumption)
     have hid : decide (16 * U.1.id + G.1.id ≠ 0) = (G.1.id != 0) := dec_ne (by assumption)
     rw [e]
     refine ⟨⟨some _, leF_tup ⟨leC_os rfl ?_, leC_int rfl, trivial⟩, leN_is ?_ (isRow_sel ?_ (isRow_sel ?_ (isRow_sel rfl (isRow_2 (congrArg (CV.int .u8) (first_eq _ hFl hHp)) (congrArg (CV.int .u8) (sec_eq2 wU wX true (G.1.id != 0) hid))) (fun k hk => rowF_at (by omega))) (fun k hk => rowF_at (by omega))) (fun k hk => rowF_at (by omega)))⟩⟩
     all_goals first
      | (simp only [List.length_append, List.length_cons, List.length_nil]; done)
      | rfl
      | skip)
  | (have hne := (show 16 * U.1.id + G.1.id = 0 by rw [show U.1.id = 0 by assumption, show G.1.id = 0 by assumption]; rfl)
     have e := e3_011 (by assumption) (by assumption) hne (by assumption) (by assumption)
     have hid : decide (16 * U.1.id + G.1.id ≠ 0) = (G.1.id != 0) := dec_ne (by assumption)
     rw [e]
     refine ⟨⟨some _, leF_tup ⟨leC_os rfl ?_, leC_int rfl, trivial⟩, leN_is ?_ (isRow_sel ?_ (isRow_sel ?_ (isRow_sel ?_ (isRow_sel rfl (isRow_2 (congrArg (CV.int .u8) (first_eq _ hFl hHp)) (congrArg (CV.int .u8) (sec_eq2 wU wX true (G.1.id != 0) hid))) (fun k hk => rowF_at (by omega))) (fun k hk => one_cell hk)) (fun k hk => rowF_at (by omega))) (fun k hk => rowF_at (by omega)))⟩⟩
     all_goals first
      | (simp only [List.length_append, List.length_cons, List.length_nil]; done)
      | rfl
      | skip)
  | (have hne := (ids_l wU wX (by assumption))
     have e := e3_100 (by assumption) (by assumption) hne (by assumption) (by assumption)
     have hid : decide (16 * U.1.id + G.1.id ≠ 0) = true := decide_eq_true hne
     rw [e]
     refine ⟨⟨some _, leF_tup ⟨leC_os rfl ?_, leC_int rfl, trivial⟩, leN_is ?_ (isRow_sel ?_ (isRow_sel ?_ (isRow_sel ?_ (isRow_sel ?_ (isRow_sel rfl (isRow_2 (congrArg (CV.int .u8) (first_eq _ hFl hHp)) (congrArg (CV.int .u8) (sec_eq2 wU wX true true hid))) (fun k hk => ids_cell hk eI8)) (fun k hk => rowF_at (by omega))) (fun k hk => one_cell hk)) (fun k hk => rowF_at (by omega))) (fun k hk => rowF_at (by omega)))⟩⟩
     all_goals first
      | (simp only [List.length_append, List.length_cons, List.length_nil]; done)
      | rfl
      | skip)
  | (have hne := (ids_r wU wX (by assumption) (by assumption))
     have e := e3_100 (by assumption) (by assumption) hne (by assumption) (by assumption)
     have hid : decide (16 * U.1.id + G.1.id ≠ 0) = (G.1.id != 0) := dec_ne (by assumption)
     rw [e]
     refine ⟨⟨some _, leF_tup ⟨leC_os rfl ?_, leC_int rfl, trivial⟩, leN_is ?_ (isRow_sel ?_ (isRow_sel ?_ (isRow_sel ?_ (isRow_sel ?_ (isRow_sel rfl (isRow_2 (congrArg (CV.int .u8) (first_eq _ hFl hHp)) (congrArg (CV.int .u8) (sec_eq2 wU wX true (G.1.id != 0) hid))) (fun k hk => ids_cell hk eI8)) (fun k hk => rowF_at (by omega))) (fun k hk => one_cell hk)) (fun k hk => rowF_at (by omega))) (fun k hk => rowF_at (by omega)))⟩⟩
     all_goals first
      | (simp only [List.length_append, List.length_cons, List.length_nil]; done)
      | rfl
      | skip)
  | (have hne := (ids_l wU wX (by assumption))
     have e := e3_101 (by assumption) (by assumption) hne (by assumption) (by assumption)
     have hid : decide (16 * U.1.id + G.1.id ≠ 0) = true := decide_eq_true hne
     rw [e]
     refine ⟨⟨some _, leF_tup ⟨leC_os rfl ?_, leC_int rfl, trivial⟩, leN_is ?_ (isRow_sel ?_ (isRow_sel ?_ (isRow_sel ?_ (isRow_sel ?_ (isRow_sel ?_ (isRow_sel rfl (isRow_2 (congrArg (CV.int .u8) (first_eq _ hFl hHp)) (congrArg (CV.int .u8) (sec_eq2 wU wX true true hid))) (fun k hk => ids_cell hk eI8)) (fun k hk => rowF_at (by omega))) (fun k hk => one_cell hk)) (fun k hk => one_cell hk)) (fun k hk => rowF_at (by omega))) (fun k hk => rowF_at (by omega)))⟩⟩
     all_goals first
      | (simp only [List.length_append, List.length_cons, List.length_nil]; done)
      | rfl
      | skip)
  | (have hne := (ids_r wU wX (by assumption) (by assumption))
     have e := e3_101 (by assumption) (by assumption) hne (by assumption) (by assumption)
     have hid : decide (16 * U.1.id + G.1.id ≠ 0) = (G.1.id != 0) := dec_ne (by assumption)
     rw [e]
     refine ⟨⟨some _, leF_tup ⟨leC_os rfl ?_, leC_int rfl, trivial⟩, leN_is ?_ (isRow_sel ?_ (isRow_sel ?_ (isRow_sel ?_ (isRow_sel ?_ (isRow_sel ?_ (isRow_sel rfl (isRow_2 (congrArg (CV.int .u8) (first_eq _ hFl hHp)) (congrArg (CV.int .u8) (sec_eq2 wU wX true (G.1.id != 0) hid))) (fun k hk => ids_cell hk eI8)) (fun k hk => rowF_at (by omega))) (fun k hk => one_cell hk)) (fun k hk => one_cell hk)) (fun k hk => rowF_at (by omega))) (fun k hk => rowF_at (by omega)))⟩⟩
     all_goals first
      | (simp only [List.length_append, List.length_cons, List.length_nil]; done)
      | rfl
      | skip)
  | (have hne := (ids_l wU wX (by assumption))
     have e := e3_110 (by assumption) (by assumption) hne (by assumption) (by assumption)
     have hid : decide (16 * U.1.id + G.1.id ≠ 0) = true := decide_eq_true hne
     rw [e]
     refine ⟨⟨some _, leF_tup ⟨leC_os rfl ?_, leC_int rfl, trivial⟩, leN_is ?_ (isRow_sel ?_ (isRow_sel ?_ (isRow_sel ?_ (isRow_sel rfl (isRow_2 (congrArg (CV.int .u8) (first_eq _ hFl hHp)) (congrArg (CV.int .u8) (sec_eq2 wU wX true true hid))) (fun k hk => ids_cell hk eI8)) (fun k hk => rowF_at (by omega))) (fun k hk => rowF_at (by omega))) (fun k hk => rowF_at (by omega)))⟩⟩
     all_goals first
      | (simp only [List.length_append, List.length_cons, List.length_nil]; done)
      | rfl
      | skip)
  | (have hne := (ids_r wU wX (by assumption) (by assumption))
     have e := e3_110 (by assumption) (by assumption) hne (by assumption) (by assumption)
     have hid : decide (16 * U.1.id + G.1.id ≠ 0) = (G.1.id != 0) := dec_ne (by assumption)
     rw [e]
     refine ⟨⟨some _, leF_tup ⟨leC_os rfl ?_, leC_int rfl, trivial⟩, leN_is ?_ (isRow_sel ?_ (isRow_sel ?_ (isRow_sel ?_ (isRow_sel rfl (isRow_2 (congrArg (CV.int .u8) (first_eq _ hFl hHp)) (congrArg (CV.int .u8) (sec_eq2 wU wX true (G.1.id != 0) hid))) (fun k hk => ids_cell hk eI8)) (fun k hk => rowF_at (by omega))) (fun k hk => rowF_at (by omega))) (fun k hk => rowF_at (by omega)))⟩⟩
     all_goals first
      | (simp only [List.length_append, List.length_cons, List.length_nil]; done)
      | rfl
      | skip)
  | (have hne := (ids_l wU wX (by assumption))
     have e := e3_111 (by assumption) (by assumption) hne (by assumption) (by assumption)
     have hid : decide (16 * U.1.id + G.1.id ≠ 0) = true := decide_eq_true hne
     rw [e]
     refine ⟨⟨some _, leF_tup ⟨leC_os rfl ?_, leC_int rfl, trivial⟩, leN_is ?_ (isRow_sel ?_ (isRow_sel ?_ (isRow_sel ?_ (isRow_sel ?_ (isRow_sel rfl (isRow_2 (congrArg (CV.int .u8) (first_eq _ hFl hHp)) (congrArg (CV.int .u8) (sec_eq2 wU wX true true hid))) (fun k hk => ids_cell hk eI8)) (fun k hk => rowF_at (by omega))) (fun k hk => one_cell hk)) (fun k hk => rowF_at (by omega))) (fun k hk => rowF_at (by omega)))⟩⟩
     all_goals first
      | (simp only [List.length_append, List.length_cons, List.length_nil]; done)
      | rfl
      | skip)
  | (have hne := (ids_r wU wX (by assumption) (by assumption))
     have e := e3_111 (by assumption) (by assumption) hne (by assumption) (by assumption)
     have hid : decide (16 * U.1.id + G.1.id ≠ 0) = (G.1.id != 0) := dec_ne (by assumption)
     rw [e]
     refine ⟨⟨some _, leF_tup ⟨leC_os rfl ?_, leC_int rfl, trivial⟩, leN_is ?_ (isRow_sel ?_ (isRow_sel ?_ (isRow_sel ?_ (isRow_sel ?_ (isRow_sel rfl (isRow_2 (congrArg (CV.int .u8) (first_eq _ hFl hHp)) (congrArg (CV.int .u8) (sec_eq2 wU wX true (G.1.id != 0) hid))) (fun k hk => ids_cell hk eI8)) (fun k hk => rowF_at (by omega))) (fun k hk => one_cell hk)) (fun k hk => rowF_at (by omega))) (fun k hk => rowF_at (by omega)))⟩⟩
     all_goals first
      | (simp only [List.length_append, List.length_cons, List.length_nil]; done)
      | rfl
      | skip)
  | skip
theorem renc_false (p : Pkt) (f t : Adr) (l : List Ctx) (now : Int) (hp : PkW p) (hpl : p.2.length <= 140737488355328) (hl : bytesL l) (hm : mcast p.1.dst = false) : NewOk Try.prog 58 [cPk.enc p, (cE eAdr).enc f, (cE eAdr).enc t, (cSl eCtx eCtx_sz).enc l, (cI .i64).enc now] (some (encI p f t l now).1.length) (some [i64V (encI p f t l now).2]) (ents eB 5 (encI p f t l now).1) := by
 obtain ⟨W, eW⟩ : ∃ W, encI p f t l now = W := ⟨_, rfl⟩
 rw [eW]
 unfold encI joinH firstF inlF at eW
 have wU := uni_w p.1.src f true l now
 have sl1 := uni_len p.1.src f true l now
 have hFl := jflow_r p
 have hHp := hop_r p.1.hops
 have slF := flow_l p
 have wX := uni_w p.1.dst t false l now
 have sl2 := uni_len p.1.dst t false l now
 have eDst : dstF p t l now = uniF p.1.dst t false l now := by unfold dstF; rw [if_neg (by rw [hm]; decide)]
 obtain ⟨D, eG⟩ : ∃ x, uniF p.1.dst t false l now = x := ⟨_, rfl⟩
 obtain ⟨V, eV⟩ : ∃ x, validP p = x := ⟨_, rfl⟩
 obtain ⟨Ck, eC⟩ : ∃ x, checkF f t l now = x := ⟨_, rfl⟩
 obtain ⟨Fl, eF⟩ : ∃ x, flowF p = x := ⟨_, rfl⟩
 obtain ⟨Hp, eH⟩ : ∃ x, hopF p.1.hops = x := ⟨_, rfl⟩
 obtain ⟨U, eU⟩ : ∃ x, uniF p.1.src f true l now = x := ⟨_, rfl⟩
 rw [eG] at eDst wX sl2
 rw [eV, eC, eF, eH, eU, eDst, hm] at eW
 rw [eU] at wU sl1
 rw [eF] at hFl slF
 rw [eH] at hHp
 have hb1 : byteOk p.1.src := ⟨fun q => by have := hp.src q.1; rw [vget_lt _ q.2] at this; exact this⟩
 have hb2 : byteOk p.1.dst := ⟨fun q => by have := hp.dst q.1; rw [vget_lt _ q.2] at this; exact this⟩
 have e1 : V = false -> W = ([], 1) := fun h => by rw [<- eW, if_pos h]
 have e2 : V = true -> ¬ Ck = 0 -> W = ([], Ck) := fun h g => by rw [<- eW, if_neg (by rw [h]; decide), if_pos g]
 have e3_000 : V = true -> Ck = 0 -> 16 * U.1.id + D.1.id = 0 -> ¬ p.1.nxt = 17 -> ¬ Hp = 0 -> W = ([96 + 8 * Fl.1 + bitV (decide (p.1.nxt = 17)) 4 + Hp, secF U.1 D.1 false] ++ Fl.2 ++ [p.1.nxt] ++ U.2 ++ D.2, 0) := fun h g i n k => by rw [<- eW, if_neg (by rw [h]; decide), if_neg (fun x => x g), if_neg (fun x => x i), if_neg n, if_neg k]; simp only [List.append_assoc, List.nil_append, List.append_nil]
 have e3_001 : V = true -> Ck = 0 -> 16 * U.1.id + D.1.id = 0 -> ¬ p.1.nxt = 17 -> Hp = 0 -> W = ([96 + 8 * Fl.1 + bitV (decide (p.1.nxt = 17)) 4 + Hp, secF U.1 D.1 false] ++ Fl.2 ++ [p.1.nxt] ++ [p.1.hops] ++ U.2 ++ D.2, 0) := fun h g i n k => by rw [<- eW, if_neg (by rw [h]; decide), if_neg (fun x => x g), if_neg (fun x => x i), if_neg n, if_pos k]; simp only [List.append_assoc, List.nil_append, List.append_nil]
 have e3_010 : V = true -> Ck = 0 -> 16 * U.1.id + D.1.id = 0 -> p.1.nxt = 17 -> ¬ Hp = 0 -> W = ([96 + 8 * Fl.1 + bitV (decide (p.1.nxt = 17)) 4 + Hp, secF U.1 D.1 false] ++ Fl.2 ++ U.2 ++ D.2, 0) := fun h g i n k => by rw [<- eW, if_neg (by rw [h]; decide), if_neg (fun x => x g), if_neg (fun x => x i), if_pos n, if_neg k]; simp only [List.append_assoc, List.nil_append, List.append_nil]
 have e3_011 : V = true -> Ck = 0 -> 16 * U.1.id + D.1.id = 0 -> p.1.nxt = 17 -> Hp = 0 -> W = ([96 + 8 * Fl.1 + bitV (decide (p.1.nxt = 17)) 4 + Hp, secF U.1 D.1 false] ++ Fl.2 ++ [p.1.hops] ++ U.2 ++ D.2, 0) := fun h g i n k => by rw [<- eW, if_neg (by rw [h]; decide), if_neg (fun x => x g), if_neg (fun x => x i), if_pos n, if_pos k]; simp only [List.append_assoc, List.nil_append, List.append_nil]
 have e3_100 : V = true -> Ck = 0 -> 16 * U.1.id + D.1.id ≠ 0 -> ¬ p.1.nxt = 17 -> ¬ Hp = 0 -> W = ([96 + 8 * Fl.1 + bitV (decide (p.1.nxt = 17)) 4 + Hp, secF U.1 D.1 false] ++ [16 * U.1.id + D.1.id] ++ Fl.2 ++ [p.1.nxt] ++ U.2 ++ D.2, 0) := fun h g i n k => by rw [<- eW, if_neg (by rw [h]; decide), if_neg (fun x => x g), if_pos i, if_neg n, if_neg k]; simp only [List.append_assoc, List.nil_append, List.append_nil]
 have e3_101 : V = true -> Ck = 0 -> 16 * U.1.id + D.1.id ≠ 0 -> ¬ p.1.nxt = 17 -> Hp = 0 -> W = ([96 + 8 * Fl.1 + bitV (decide (p.1.nxt = 17)) 4 + Hp, secF U.1 D.1 false] ++ [16 * U.1.id + D.1.id] ++ Fl.2 ++ [p.1.nxt] ++ [p.1.hops] ++ U.2 ++ D.2, 0) := fun h g i n k => by rw [<- eW, if_neg (by rw [h]; decide), if_neg (fun x => x g), if_pos i, if_neg n, if_pos k]; simp only [List.append_assoc, List.nil_append, List.append_nil]
 have e3_110 : V = true -> Ck = 0 -> 16 * U.1.id + D.1.id ≠ 0 -> p.1.nxt = 17 -> ¬ Hp = 0 -> W = ([96 + 8 * Fl.1 + bitV (decide (p.1.nxt = 17)) 4 + Hp, secF U.1 D.1 false] ++ [16 * U.1.id + D.1.id] ++ Fl.2 ++ U.2 ++ D.2, 0) := fun h g i n k => by rw [<- eW, if_neg (by rw [h]; decide), if_neg (fun x => x g), if_pos i, if_pos n, if_neg k]; simp only [List.append_assoc, List.nil_append, List.append_nil]
 have e3_111 : V = true -> Ck = 0 -> 16 * U.1.id + D.1.id ≠ 0 -> p.1.nxt = 17 -> Hp = 0 -> W = ([96 + 8 * Fl.1 + bitV (decide (p.1.nxt = 17)) 4 + Hp, secF U.1 D.1 false] ++ [16 * U.1.id + D.1.id] ++ Fl.2 ++ [p.1.hops] ++ U.2 ++ D.2, 0) := fun h g i n k => by rw [<- eW, if_neg (by rw [h]; decide), if_neg (fun x => x g), if_pos i, if_pos n, if_pos k]; simp only [List.append_assoc, List.nil_append, List.append_nil]
 have eI8 := ids_u8 wU wX
 have eF' := eF
 have eH' := eH
 clear eW eDst eF eH
 have g1 : True := trivial
 have g2 : True := trivial
 refine new_intro (wd := 1) (Q := mkQ LJ5) (by decide) tysOk (q_of LJ5_ok) mixed Try.func58 rfl _ (by show 5 <= _; decide) (fun i _ j _ => row_nf eB _ i j) ?_
 repeat' (first | (apply And.intro <;> intro hc <;> (first | exact Bool.noConfusion hc | (exfalso; first | exact Bool.noConfusion hc) | (simp only [zb0, ne_eq, not_true_eq_false] at hc <;> first | exact absurd rfl hc | (exfalso; first | exact Bool.noConfusion hc) | skip) | skip)) | (refine And.intro zp1 ?_) | (apply And.intro) | (intro s hs; (first | (have q : V = s := (hs.trans ((congrArg validP (pk_eq p _)).trans eV)).symm; clear hs; subst q) | (have q : Ck = s := (hs.trans ((congr (congr (congrArg (fun a b c => checkF a b c now) (rd_adr f)) (rd_adr t)) (toL_ctx l)).trans eC)).symm; clear hs; subst q) | (clear g2; have q : Fl = s := (hs.trans ((congrArg flowF (pk_eq p _)).trans eF')).symm; clear hs; subst q) | (have q : Hp = s := (hs.trans eH').symm; clear hs; subst q) | (clear g1; have q : U = s := (hs.trans ((congr (congr (congrArg (fun a b c => uniF a b true c now) (src_eq p.1 _)) (rd_adr f)) (toL_ctx l)).trans eU)).symm; clear hs; subst q) | (have q : s = false := hs.trans ((congrArg mcast (dst_eq p.1 _)).trans hm); clear hs; subst q) | (have q : D = s := (hs.trans ((congr (congr (congrArg (fun a b c => uniF a b false c now) (dst_eq p.1 _)) (rd_adr t)) (toL_ctx l)).trans eG)).symm; clear hs; subst q) | (have q := hs; dsimp only at q; clear hs; subst q) | skip)))
 all_goals first
  | (show (toL eB p.2.length _).length <= _; rw [toL_len]; exact hpl)
  | ((first | rw [e1 (by assumption)] | rw [e2 (by assumption) (by assumption)])
     exact ⟨⟨none, leF_tup ⟨leC_nils_os rfl, leC_int rfl, trivial⟩, rfl, rfl, (by show 0 < 1; omega)⟩⟩)
  | exact Eq.mp (congrArg PkW (pk_eq p _).symm) hp
  | exact Eq.mp (congrArg (fun p : Pkt => 0 <= p.1.flow) (pk_eq p _).symm) hp.flow.1
  | exact Eq.mp (congrArg (fun p : Pkt => p.1.flow < 4294967296) (pk_eq p _).symm) hp.flow.2
  | exact Eq.mp (congrArg byteOk (src_eq p.1 _).symm) hb1
  | exact Eq.mp (congrArg byteOk (dst_eq p.1 _).symm) hb2
  | exact Eq.mp (congrArg bytesL (toL_ctx l).symm) hl
  | omega
  | skip
 all_goals first
  | (have hne := (show 16 * U.1.id + D.1.id = 0 by rw [show U.1.id = 0 by assumption, show D.1.id = 0 by assumption]; rfl)
     have e := e3_000 (by assumption) (by assumption) hne (by assumption) (by assumption)
     have hid : decide (16 * U.1.id + D.1.id ≠ 0) = (D.1.id != 0) := dec_ne (by assumption)
     rw [e]
     refine ⟨⟨some _, leF_tup ⟨leC_os rfl ?_, leC_int rfl, trivial⟩, leN_is ?_ (isRow_sel ?_ (isRow_sel ?_ (isRow_sel ?_ (isRow_sel rfl (isRow_2 (congrArg (CV.int .u8) (first_eq _ hFl hHp)) (congrArg (CV.int .u8) (sec_eq2 wU wX false (D.1.id != 0) hid))) (fun k hk => rowF_at (by omega))) (fun k hk => one_cell hk)) (fun k hk => rowF_at (by omega))) (fun k hk => rowF_at (by omega)))⟩⟩
     all_goals first
      | (simp only [List.length_append, List.length_cons, List.length_nil]; done)
      | rfl
      | skip)
  | (have hne := (show 16 * U.1.id + D.1.id = 0 by rw [show U.1.id = 0 by assumption, show D.1.id = 0 by assumption]; rfl)
     have e := e3_001 (by assumption) (by assumption) hne (by assumption) (by assumption)
     have hid : decide (16 * U.1.id + D.1.id ≠ 0) = (D.1.id != 0) := dec_ne (by assumption)
     rw [e]
     refine ⟨⟨some _, leF_tup ⟨leC_os rfl ?_, leC_int rfl, trivial⟩, leN_is ?_ (isRow_sel ?_ (isRow_sel ?_ (isRow_sel ?_ (isRow_sel ?_ (isRow_sel rfl (isRow_2 (congrArg (CV.int .u8) (first_eq _ hFl hHp)) (congrArg (CV.int .u8) (sec_eq2 wU wX false (D.1.id != 0) hid))) (fun k hk => rowF_at (by omega))) (fun k hk => one_cell hk)) (fun k hk => one_cell hk)) (fun k hk => rowF_at (by omega))) (fun k hk => rowF_at (by omega)))⟩⟩
     all_goals first
      | (simp only [List.length_append, List.length_cons, List.length_nil]; done)
      | rfl
      | skip)
  | (have hne := (show 16 * U.1.id + D.1.id = 0 by rw [show U.1.id = 0 by assumption, show D.1.id = 0 by assumption]; rfl)
     have e := e3_010 (by assumption) (by assumption) hne (by assumption) (by assumption)
     have hid : decide (16 * U.1.id + D.1.id ≠ 0) = (D.1.id != 0) := dec_ne (by assumption)
     rw [e]
     refine ⟨⟨some _, leF_tup ⟨leC_os rfl ?_, leC_int rfl, trivial⟩, leN_is ?_ (isRow_sel ?_ (isRow_sel ?_ (isRow_sel rfl (isRow_2 (congrArg (CV.int .u8) (first_eq _ hFl hHp)) (congrArg (CV.int .u8) (sec_eq2 wU wX false (D.1.id != 0) hid))) (fun k hk => rowF_at (by omega))) (fun k hk => rowF_at (by omega))) (fun k hk => rowF_at (by omega)))⟩⟩
     all_goals first
      | (simp only [List.length_append, List.length_cons, List.length_nil]; done)
      | rfl
      | skip)
  | (have hne := (show 16 * U.1.id + D.1.id = 0 by rw [show U.1.id = 0 by assumption, show D.1.id = 0 by assumption]; rfl)
     have e := e3_011 (by assumption) (by assumption) hne (by assumption) (by assumption)
     have hid : decide (16 * U.1.id + D.1.id ≠ 0) = (D.1.id != 0) := dec_ne (by assumption)
     rw [e]
     refine ⟨⟨some _, leF_tup ⟨leC_os rfl ?_, leC_int rfl, trivial⟩, leN_is ?_ (isRow_sel ?_ (isRow_sel ?_ (isRow_sel ?_ (isRow_sel rfl (isRow_2 (congrArg (CV.int .u8) (first_eq _ hFl hHp)) (congrArg (CV.int .u8) (sec_eq2 wU wX false (D.1.id != 0) hid))) (fun k hk => rowF_at (by omega))) (fun k hk => one_cell hk)) (fun k hk => rowF_at (by omega))) (fun k hk => rowF_at (by omega)))⟩⟩
     all_goals first
      | (simp only [List.length_append, List.length_cons, List.length_nil]; done)
      | rfl
      | skip)
  | (have hne := (ids_l wU wX (by assumption))
     have e := e3_100 (by assumption) (by assumption) hne (by assumption) (by assumption)
     have hid : decide (16 * U.1.id + D.1.id ≠ 0) = true := decide_eq_true hne
     rw [e]
     refine ⟨⟨some _, leF_tup ⟨leC_os rfl ?_, leC_int rfl, trivial⟩, leN_is ?_ (isRow_sel ?_ (isRow_sel ?_ (isRow_sel ?_ (isRow_sel ?_ (isRow_sel rfl (isRow_2 (congrArg (CV.int .u8) (first_eq _ hFl hHp)) (congrArg (CV.int .u8) (sec_eq2 wU wX false true hid))) (fun k hk => ids_cell hk eI8)) (fun k hk => rowF_at (by omega))) (fun k hk => one_cell hk)) (fun k hk => rowF_at (by omega))) (fun k hk => rowF_at (by omega)))⟩⟩
     all_goals first
      | (simp only [List.length_append, List.length_cons, List.length_nil]; done)
      | rfl
      | skip)
  | (have hne := (ids_r wU wX (by assumption) (by assumption))
     have e := e3_100 (by assumption) (by assumption) hne (by assumption) (by assumption)
     have hid : decide (16 * U.1.id + D.1.id ≠ 0) = (D.1.id != 0) := dec_ne (by assumption)
     rw [e]
     refine ⟨⟨some _, leF_tup ⟨leC_os rfl ?_, leC_int rfl, trivial⟩, leN_is ?_ (isRow_sel ?_ (isRow_sel ?_ (isRow_sel ?_ (isRow_sel ?_ (isRow_sel rfl (isRow_2 (congrArg (CV.int .u8) (first_eq _ hFl hHp)) (congrArg (CV.int .u8) (sec_eq2 wU wX false (D.1.id != 0) hid))) (fun k hk => ids_cell hk eI8)) (fun k hk => rowF_at (by omega))) (fun k hk => one_cell hk)) (fun k hk => rowF_at (by omega))) (fun k hk => rowF_at (by omega)))⟩⟩
     all_goals first
      | (simp only [List.length_append, List.length_cons, List.length_nil]; done)
      | rfl
      | skip)
  | (have hne := (ids_l wU wX (by assumption))
     have e := e3_101 (by assumption) (by assumption) hne (by assumption) (by assumption)
     have hid : decide (16 * U.1.id + D.1.id ≠ 0) = true := decide_eq_true hne
     rw [e]
     refine ⟨⟨some _, leF_tup ⟨leC_os rfl ?_, leC_int rfl, trivial⟩, leN_is ?_ (isRow_sel ?_ (isRow_sel ?_ (isRow_sel ?_ (isRow_sel ?_ (isRow_sel ?_ (isRow_sel rfl (isRow_2 (congrArg (CV.int .u8) (first_eq _ hFl hHp)) (congrArg (CV.int .u8) (sec_eq2 wU wX false true hid))) (fun k hk => ids_cell hk eI8)) (fun k hk => rowF_at (by omega))) (fun k hk => one_cell hk)) (fun k hk => one_cell hk)) (fun k hk => rowF_at (by omega))) (fun k hk => rowF_at (by omega)))⟩⟩
     all_goals first
      | (simp only [List.length_append, List.length_cons, List.length_nil]; done)
      | rfl
      | skip)
  | (have hne := (ids_r wU wX (by assumption) (by assumption))
     have e := e3_101 (by assumption) (by assumption) hne (by assumption) (by assumption)
     have hid : decide (16 * U.1.id + D.1.id ≠ 0) = (D.1.id != 0) := dec_ne (by assumption)
     rw [e]
     refine ⟨⟨some _, leF_tup ⟨leC_os rfl ?_, leC_int rfl, trivial⟩, leN_is ?_ (isRow_sel ?_ (isRow_sel ?_ (isRow_sel ?_ (isRow_sel ?_ (isRow_sel ?_ (isRow_sel rfl (isRow_2 (congrArg (CV.int .u8) (first_eq _ hFl hHp)) (congrArg (CV.int .u8) (sec_eq2 wU wX false (D.1.id != 0) hid))) (fun k hk => ids_cell hk eI8)) (fun k hk => rowF_at (by omega))) (fun k hk => one_cell hk)) (fun k hk => one_cell hk)) (fun k hk => rowF_at (by omega))) (fun k hk => rowF_at (by omega)))⟩⟩
     all_goals first
      | (simp only [List.length_append, List.length_cons, List.length_nil]; done)
      | rfl
      | skip)
  | (have hne := (ids_l wU wX (by assumption))
     have e := e3_110 (by assumption) (by assumption) hne (by assumption) (by assumption)
     have hid : decide (16 * U.1.id + D.1.id ≠ 0) = true := decide_eq_true hne
     rw [e]
     refine ⟨⟨some _, leF_tup ⟨leC_os rfl ?_, leC_int rfl, trivial⟩, leN_is ?_ (isRow_sel ?_ (isRow_sel ?_ (isRow_sel ?_ (isRow_sel rfl (isRow_2 (congrArg (CV.int .u8) (first_eq _ hFl hHp)) (congrArg (CV.int .u8) (sec_eq2 wU wX false true hid))) (fun k hk => ids_cell hk eI8)) (fun k hk => rowF_at (by omega))) (fun k hk => rowF_at (by omega))) (fun k hk => rowF_at (by omega)))⟩⟩
     all_goals first
      | (simp only [List.length_append, List.length_cons, List.length_nil]; done)
      | rfl
      | skip)
  | (have hne := (ids_r wU wX (by assumption) (by assumption))
     have e := e3_110 (by assumption) (by assumption) hne (by assumption) (by assumption)
     have hid : decide (16 * U.1.id + D.1.id ≠ 0) = (D.1.id != 0) := dec_ne (by assumption)
     rw [e]
     refine ⟨⟨some _, leF_tup ⟨leC_os rfl ?_, leC_int rfl, trivial⟩, leN_is ?_ (isRow_sel ?_ (isRow_sel ?_ (isRow_sel ?_ (isRow_sel rfl (isRow_2 (congrArg (CV.int .u8) (first_eq _ hFl hHp)) (congrArg (CV.int .u8) (sec_eq2 wU wX false (D.1.id != 0) hid))) (fun k hk => ids_cell hk eI8)) (fun k hk => rowF_at (by omega))) (fun k hk => rowF_at (by omega))) (fun k hk => rowF_at (by omega)))⟩⟩
     all_goals first
      | (simp only [List.length_append, List.length_cons, List.length_nil]; done)
      | rfl
      | skip)
  | (have hne := (ids_l wU wX (by assumption))
     have e := e3_111 (by assumption) (by assumption) hne (by assumption) (by assumption)
     have hid : decide (16 * U.1.id + D.1.id ≠ 0) = true := decide_eq_true hne
     rw [e]
     refine ⟨⟨some _, leF_tup ⟨leC_os rfl ?_, leC_int rfl, trivial⟩, leN_is ?_ (isRow_sel ?_ (isRow_sel ?_ (isRow_sel ?_ (isRow_sel ?_ (isRow_sel rfl (isRow_2 (congrArg (CV.int .u8) (first_eq _ hFl hHp)) (congrArg (CV.int .u8) (sec_eq2 wU wX false true hid))) (fun k hk => ids_cell hk eI8)) (fun k hk => rowF_at (by omega))) (fun k hk => one_cell hk)) (fun k hk => rowF_at (by omega))) (fun k hk => rowF_at (by omega)))⟩⟩
     all_goals first
      | (simp only [List.length_append, List.length_cons, List.length_nil]; done)
      | rfl
      | skip)
  | (have hne := (ids_r wU wX (by assumption) (by assumption))
     have e := e3_111 (by assumption) (by assumption) hne (by assumption) (by assumption)
     have hid : decide (16 * U.1.id + D.1.id ≠ 0) = (D.1.id != 0) := dec_ne (by assumption)
     rw [e]
     refine ⟨⟨some _, leF_tup ⟨leC_os rfl ?_, leC_int rfl, trivial⟩, leN_is ?_ (isRow_sel ?_ (isRow_sel ?_ (isRow_sel ?_ (isRow_sel ?_ (isRow_sel rfl (isRow_2 (congrArg (CV.int .u8) (first_eq _ hFl hHp)) (congrArg (CV.int .u8) (sec_eq2 wU wX false (D.1.id != 0) hid))) (fun k hk => ids_cell hk eI8)) (fun k hk => rowF_at (by omega))) (fun k hk => one_cell hk)) (fun k hk => rowF_at (by omega))) (fun k hk => rowF_at (by omega)))⟩⟩
     all_goals first
      | (simp only [List.length_append, List.length_cons, List.length_nil]; done)
      | rfl
      | skip)
  | skip
theorem riencode_ok (p : Pkt) (f t : Adr) (l : List Ctx) (now : Int) (hp : PkW p) (hpl : p.2.length <= 140737488355328) (hl : bytesL l) : NewOk Try.prog 58 [cPk.enc p, (cE eAdr).enc f, (cE eAdr).enc t, (cSl eCtx eCtx_sz).enc l, (cI .i64).enc now] (some (encI p f t l now).1.length) (some [i64V (encI p f t l now).2]) (ents eB 5 (encI p f t l now).1) := by
 cases hm : mcast p.1.dst with
 | true => exact renc_true p f t l now hp hpl hl hm
 | false => exact renc_false p f t l now hp hpl hl hm
theorem renIE_ok : EntOk Try.prog 58 enIE := newE_ok ⟨_, Try.func58, rfl, by kernel_rfl⟩ (fun s l h x hx => by injection h with h; subst h; obtain rfl := List.mem_singleton.1 hx; exact nfE_c nf_int) fun a h => riencode_ok a.1 a.2.1 a.2.2.1 a.2.2.2.1 a.2.2.2.2.1 h.1 h.2.1 h.2.2
structure AdrW (a : Adr) : Prop where
 v : adrValid a = true
 short : 0 <= a.short /\ a.short < 65536
 eui : 0 <= a.eui /\ a.eui < 18446744073709551616
structure DevW (a : Adr) : Prop where
 s : adrSome a = true
 w : AdrW a
theorem wr16 (z : Int) : 0 <= IntKind.u16.wrap z /\ IntKind.u16.wrap z < 65536 := by
 simp only [IntKind.wrap, IntKind.signed, IntKind.bits]
 constructor
 . exact Int.emod_nonneg _ (by decide)
 . exact Int.emod_lt_of_pos _ (by decide)
theorem wr64 (z : Int) : 0 <= IntKind.u64.wrap z /\ IntKind.u64.wrap z < 18446744073709551616 := by
 simp only [IntKind.wrap, IntKind.signed, IntKind.bits]
 constructor
 . exact Int.emod_nonneg _ (by decide)
 . exact Int.emod_lt_of_pos _ (by decide)
theorem z16 : (0 : Int) <= 0 /\ (0 : Int) < 65536 := by decide
theorem z64 : (0 : Int) <= 0 /\ (0 : Int) < 18446744073709551616 := by decide
theorem dev_3 {e : Int} (h : 0 <= e /\ e < 18446744073709551616) : DevW ⟨3, 0, e⟩ := ⟨rfl, rfl, z16, h⟩
theorem dev_2 {e : Int} (h : 0 <= e /\ e < 65536) : DevW ⟨2, e, 0⟩ := ⟨rfl, rfl, h, z64⟩
theorem device2_ok (n : Nat) (l : List Int) (q : Int) (ht : TapeOk n (rI l) q) :
 ∃ (r : Adr) (q' : Int), DevW r /\ TapeOk n (rI l) q' /\ MethOk Try.prog 42 [] (tapeN n (rI l) q) ((cE eAdr).enc r) (tapeN n (rI l) q') := by
 refine tape_intro (wd := 1) (Q := mkQ LT1) (by decide) tysOk (q_of LT1_ok) mixed Try.func42 rfl _ (by show 0 + 1 <= _; decide) (nff_elem eAdr) ?_
 repeat' (first | (apply And.intro <;> intro hc <;> (first | exact Bool.noConfusion hc | (simp only [zb0] at hc) | skip)) | (refine And.intro zp1 ?_) | (apply And.intro) | (intro s hs))
 . exact ⟨(⟨3, 0, _⟩, _), ⟨dev_3 (wr64 _), by assumption⟩, ⟨leF_e (leE_all ⟨⟨⟨trivial, leC_int rfl⟩, leC_int rfl⟩, leC_int rfl⟩), tapeN_le⟩⟩
 . exact ⟨(⟨2, _, 0⟩, _), ⟨dev_2 (wr16 _), by assumption⟩, ⟨leF_e (leE_all ⟨⟨⟨trivial, leC_int rfl⟩, leC_int rfl⟩, leC_int rfl⟩), tapeN_le⟩⟩
abbrev dev2E : Entry := tapeE AC.nil (fun _ => True) (fun a (r : Adr) => DevW r) (cE eAdr).enc
def LT3 : CsL := (42, some dev2E) :: LT2
theorem LT3_ok : AllOk Try.prog LT3 := ⟨tapeE_ok ⟨_, Try.func42, rfl, by kernel_rfl⟩ fun n l q a ht hp => device2_ok n l q ht, LT2_ok⟩
theorem addr2_ok (n : Nat) (l : List Int) (q : Int) (ht : TapeOk n (rI l) q) :
 ∃ (r : Adr) (q' : Int), AdrW r /\ TapeOk n (rI l) q' /\ MethOk Try.prog 34 [] (tapeN n (rI l) q) ((cE eAdr).enc r) (tapeN n (rI l) q') := by
 refine tape_intro (wd := 1) (Q := mkQ LT3) (by decide) tysOk (q_of LT3_ok) mixed Try.func34 rfl _ (by show 0 + 1 <= _; decide) (nff_elem eAdr) ?_
 repeat' (first | (apply And.intro <;> intro hc <;> (first | exact Bool.noConfusion hc | (simp only [zb0] at hc) | skip)) | (refine And.intro zp1 ?_) | (apply And.intro) | (intro s hs))
 . exact ⟨(⟨2, 65535, 0⟩, _), ⟨(dev_2 (e := 65535) (by decide)).w, by assumption⟩, ⟨leF_e (leE_all ⟨⟨⟨trivial, leC_int rfl⟩, leC_int rfl⟩, leC_int rfl⟩), tapeN_le⟩⟩
 . exact ⟨(⟨0, 0, 0⟩, _), ⟨⟨rfl, z16, z64⟩, by assumption⟩, ⟨leF_e (leE_all ⟨⟨⟨trivial, leC_int rfl⟩, leC_int rfl⟩, leC_int rfl⟩), tapeN_le⟩⟩
 . rename_i r hr
   exact ⟨(r, _), ⟨hr.w, by assumption⟩, ⟨leF_e (leE_all ⟨⟨⟨trivial, leC_int rfl⟩, leC_int rfl⟩, leC_int rfl⟩), tapeN_le⟩⟩
abbrev addr2E : Entry := tapeE AC.nil (fun _ => True) (fun a (r : Adr) => AdrW r) (cE eAdr).enc
theorem valid_snoc {x : Ctx} (h1 : vpf (pfxOf x) = true) (h2 : vt x.til = true) (h3 : x.id < 16) : ∀ (L : List Ctx) (b : Int), validFrom b L = true -> (∀ c ∈ L, c.id < x.id) -> b < x.id -> validFrom b (L ++ [x]) = true := by
 intro L
 induction L with
 | nil => intro b _ _ hb; simp [validFrom, h1, h2, h3, hb]
 | cons c L ih =>
   intro b hv hid hb
   simp only [List.cons_append, validFrom, Bool.and_eq_true] at hv ⊢
   exact ⟨hv.1, ih c.id hv.2 (fun d hd => hid d (List.mem_cons_of_mem _ hd)) (hid c (List.mem_cons_self ..))⟩
structure madeL (L : List Ctx) : Prop where
 v : validT L = true
 n : L.length <= 16
 b : ∀ c ∈ L, byteOk c.ip
structure CtxS (n : Nat) (l : List Int) where
 i : Nat
 L : List Ctx
 q : Int
 hi : i <= 16
 hv : validT L = true
 hid : ∀ c ∈ L, c.id < i
 hn : L.length <= i
 hb : ∀ c ∈ L, byteOk c.ip
 ht : TapeOk n (rI l) q
theorem nff_slR {L : List Ctx} : NFF (.e (.c (slR eCtx L))) := nff_c (nf_sl fun i _ j _ => (eCtx.flat _ _).nf)
theorem contexts_ok (n : Nat) (l : List Int) (q : Int) (ht : TapeOk n (rI l) q) :
 ∃ (r : List Ctx) (q' : Int), madeL r /\ TapeOk n (rI l) q' /\ MethOk Try.prog 35 [] (tapeN n (rI l) q) (.e (.c (slR eCtx r))) (tapeN n (rI l) q') := by
 refine tape_intro (enc := fun r => .e (.c (slR eCtx r))) (wd := 1) (Q := mkQ LT2) (by decide) tysOk (q_of LT2_ok) mixed Try.func35 rfl _ (by show 0 + 1 <= _; decide) (fun _ => nff_slR) ?_
 refine loop_intro (mono_of LT2_ok) (fun s : CtxS n l => (⟨[(0, one (.ptr 0 0 0 false)), (3, one (.os 7 0 s.L.length)), (4, one (.int .i64 (s.i : Int)))],
  [(0, some (tapeN n (rI l) s.q)), (7, some (ents eCtx 82 s.L))], 8⟩ : Hd)) (fun s => 16 - s.i) (fun _ => rfl) ?_ ⟨0, [], q, by omega, rfl, by simp, by simp, by simp, ht⟩ [(7, none)] ?_
 . rintro ⟨i, L, q1, hi, hv, hid, hn, hb, ht1⟩
   dsimp only at hi hv hid hn hb ⊢
   repeat' (first | (apply And.intro <;> intro hc <;> (first | exact Bool.noConfusion hc | (simp only [zb0] at hc) | skip)) | (refine And.intro zp1 ?_) | (apply And.intro) | (intro s hs))
   . rename_i sb hsb sq1 hsq1 p hp sq2 hsq2 v hv' sq3 hsq3 u hu
     have hu' : 0 <= u /\ u < 50 := hu
     refine ⟨⟨i + 1, L ++ [⟨i, p.ip, p.bits, decide (0 < v), u⟩], _, by omega, ?_, ?_, by simp; omega, ?_, hs⟩, [(7, some 23)], by dsimp only; omega, rfl, ?_, ?_⟩
     . refine valid_snoc ?_ ?_ ?_ L (-1) hv hid ?_
       . exact hp.1
       . simp [vt]; omega
       . show (i : Int) < 16; omega
       . show (-1 : Int) < i; omega
     . intro c hc
       rcases List.mem_append.1 hc with h | h
       . have := hid c h; omega
       . rw [List.mem_singleton.1 h]; show (i : Int) < ((i + 1 : Nat) : Int); omega
     . intro c hc
       rcases List.mem_append.1 hc with h | h
       . exact hb c h
       . rw [List.mem_singleton.1 h]; exact hp.2
     . repeat' (first | exact zw0 | refine leF_int ?_ | refine leF_bool ?_ | exact zw1 | apply And.intro)
       . exact leF_c (leC_os rfl (by simp))
       . refine (IntWalk.i64_in _ ?_).trans ?_
         . constructor <;> omega
         . dsimp only
           omega
     . repeat' (first | exact zw0 | refine leF_int ?_ | refine leF_bool ?_ | exact zw1 | apply And.intro)
       . exact tapeN_le
       . (change LeN _ _ _; refine leN_snoc (E := eCtx) (L := L) (x := ⟨i, p.ip, p.bits, decide (0 < v), u⟩) rfl (fun i hi j hj => selC_in (Nat.ble_eq_true_of_le hi) (Elem.flat _ _ _).le) ?_; repeat' (first | exact trivial | (refine selC_out (blt_self _) ?_; rw [Nat.sub_self]; first | exact leC_int rfl | exact leC_bool rfl | exact leC_bool (by assumption)) | apply And.intro))
   . refine ⟨⟨i + 1, L, _, by omega, hv, fun c hc => by have := hid c hc; omega, by omega, hb, hs⟩, [], by dsimp only; omega, rfl, ?_, ?_⟩
     . repeat' (first | exact zw0 | refine leF_int ?_ | refine leF_bool ?_ | exact zw1 | apply And.intro)
       refine (IntWalk.i64_in _ ?_).trans ?_
       . constructor <;> omega
       . dsimp only
         omega
     . repeat' (first | exact zw0 | refine leF_int ?_ | refine leF_bool ?_ | exact zw1 | apply And.intro)
       . exact tapeN_le
       . exact leN_ents
   . exact ⟨(L, q1), ⟨⟨hv, (show L.length <= 16 by omega), hb⟩, ht1⟩, ⟨leF_c (leC_row_fin rfl rfl), tapeN_le⟩⟩
 . refine ⟨rfl, ?_, ?_⟩
   . repeat' (first | exact zw0 | refine leF_int ?_ | refine leF_bool ?_ | exact zw1 | apply And.intro)
     exact leF_c (leC_nils_os rfl)
   . repeat' (first | exact zw0 | refine leF_int ?_ | refine leF_bool ?_ | exact zw1 | apply And.intro)
     . exact tapeN_le
     . exact eCtx_sz
abbrev ctxsE : Entry := tapeE AC.nil (fun _ => True) (fun a (r : List Ctx) => madeL r) (fun r => .e (.c (slR eCtx r)))
def LT4 : CsL := (34, some addr2E) :: (35, some ctxsE) :: LT3
theorem LT4_ok : AllOk Try.prog LT4 := ⟨tapeE_ok ⟨_, Try.func34, rfl, by kernel_rfl⟩ fun n l q a ht hp => addr2_ok n l q ht, tapeE_ok ⟨_, Try.func35, rfl, by kernel_rfl⟩ fun n l q a ht hp => contexts_ok n l q ht, LT3_ok⟩
def k1 : Adr := ⟨2, 1, 0⟩
def k2 : Adr := ⟨2, 2, 0⟩
theorem k_link1 : linkF k1 = (jn llP.ip 1099478073345, true) := rfl
theorem k_link2 : linkF k2 = (jn llP.ip 1099478073346, true) := rfl
theorem k_enc : encI (hP 64 (jn llP.ip 1099478073345) (jn llP.ip 1099478073346)) k1 k2 [] 0 = ([126, 51], 0) := by decide +kernel
theorem zero_w {X Y : Fin 16 -> Int} (hX : byteOk X) (hY : byteOk Y) {h : Int} (hh : 0 <= h /\ h < 256) : PkW (hP h X Y) := ⟨(by decide : (0 : Int) <= 0 /\ (0 : Int) < 256), (by decide : (0 : Int) <= 0 /\ (0 : Int) < 4294967296), (by decide : (0 : Int) <= 17 /\ (17 : Int) < 256), hh, fun i => hX.v i, fun i => hY.v i, (by decide : (0 : Int) <= 0 /\ (0 : Int) < 65536), (by decide : (0 : Int) <= 0 /\ (0 : Int) < 65536), BL.nil⟩
theorem bytes_nil : bytesL [] := ⟨(fun c h => by cases h), Nat.zero_le _⟩
theorem pk_hP {G : Nat -> CV} {F : Nat -> Nat -> CV} {h : Int} {X Y : Fin 16 -> Int} (hG : ∀ j, j < 38 -> G j = eHd.cell (hP h X Y).1 j) : ((eHd.rd G, toL eB 0 F) : Pkt) = hP h X Y := pk_is (h := (hP h X Y).1) (l := []) hG rfl
def LIe : CsL := (41, some enIE) :: (LT4 ++ (LMp ++ (LRa ++ LAd)))
theorem LIe_ok : AllOk Try.prog LIe := ⟨enIE_ok, append_ok LT4_ok (append_ok LMp_ok (append_ok LRa_ok LAd_ok))⟩
theorem known14_ok : PureOk Try.prog 38 [] (cB.enc true) := by
 have hX : byteOk (jn llP.ip 1099478073345) := jn_ok llP_b _
 have hY : byteOk (jn llP.ip 1099478073346) := jn_ok llP_b _
 have hW := zero_w hX hY (h := 64) (by decide)
 have e1 := k_link1
 have e2 := k_link2
 have e3 := k_enc
 obtain ⟨X, eX⟩ : ∃ X, jn llP.ip 1099478073345 = X := ⟨_, rfl⟩
 obtain ⟨Y, eY⟩ : ∃ X, jn llP.ip 1099478073346 = X := ⟨_, rfl⟩
 rw [eX] at hX hW e1 e3
 rw [eY] at hY hW e2 e3
 have g1 : True := trivial
 have g2 : True := trivial
 refine pure_intro (wd := 1) (Q := mkQ LIe) (by decide) tysOk (q_of LIe_ok) mixed Try.func38 rfl _ (by show 0 <= _; decide) _ ?_
 repeat' (first | (apply And.intro <;> intro hc <;> (first | exact Bool.noConfusion hc | (simp only [zb0, ne_eq, not_true_eq_false] at hc <;> first | exact absurd rfl hc | skip) | skip)) | (refine And.intro zp1 ?_) | (apply And.intro) | (intro s hs; (first | (clear g1; have q : s = (X, true) := hs.trans e1; clear hs; subst q) | (clear g2; have q : s = (Y, true) := hs.trans e2; clear hs; subst q) | (have q : s = ([126, 51], 0) := (by (refine hs.trans ((congrArg (fun p => encI p k1 k2 [] 0) (pk_hP (h := 64) (X := X) (Y := Y) (fun j hj => ?_))).trans e3)); (iterate 38 (rcases j with _ | j; exact rfl)); exact absurd hj (by omega)); clear hs; subst q) | skip)))
 . refine Eq.mp (congrArg PkW (pk_hP (h := 64) (X := X) (Y := Y) (fun j hj => ?_)).symm) hW
   iterate 38 (rcases j with _ | j; exact rfl)
   exact absurd hj (by omega)
 . exact Nat.zero_le _
 . exact bytes_nil
 . exact Done.mk (leF_bool rfl)
abbrev kn14E : Entry := pureE AC.nil (fun _ => True) (fun _ => true) cB.enc
def LWi : CsL := (38, some kn14E) :: LIe
theorem LWi_ok : AllOk Try.prog LWi := ⟨pureE_ok ⟨_, Try.func38, rfl, by kernel_rfl⟩ fun _ _ => known14_ok, LIe_ok⟩
theorem encI_congr {p p' : Pkt} {a a' b b' : Adr} {l l' : List Ctx} {n : Int} (h1 : p' = p) (h2 : a' = a) (h3 : b' = b) (h4 : l' = l) : encI p' a' b' l' n = encI p a b l n := by rw [h1, h2, h3, h4]
theorem now2_ok (n : Nat) (l : List Int) (q : Int) (ht : TapeOk n (rI l) q) :
 ∃ (r q' : Int), True /\ TapeOk n (rI l) q' /\ MethOk Try.prog 40 [] (tapeN n (rI l) q) ((cI .i64).enc r) (tapeN n (rI l) q') := by
 refine tape_intro (wd := 1) (Q := mkQ LT2) (by decide) tysOk (q_of LT2_ok) mixed Try.func40 rfl _ (by show 0 + 1 <= _; decide) (fun _ => nff_int) ?_
 repeat' (first | (apply And.intro <;> intro hc <;> (first | exact Bool.noConfusion hc | (simp only [zb0] at hc) | skip)) | (refine And.intro zp1 ?_) | (apply And.intro) | (intro s hs))
 all_goals exact ⟨(_, _), ⟨trivial, by assumption⟩, ⟨leF_int rfl, tapeN_le⟩⟩
abbrev now2E : Entry := tapeE AC.nil (fun _ => True) (fun a (r : Int) => True) (cI .i64).enc
def LDw : CsL := (40, some now2E) :: (59, some dcdE) :: (58, some enIE) :: LWi
theorem LDw_ok : AllOk Try.prog LDw := ⟨tapeE_ok ⟨_, Try.func40, rfl, by kernel_rfl⟩ fun n l q a ht hp => now2_ok n l q ht, pureE_ok ⟨_, Try.func59, rfl, by kernel_rfl⟩ fun a h => decoded_ok a.1 a.2.1 a.2.2.1 a.2.2.2.1 a.2.2.2.2.1 h.1 h.2.1 h.2.2, renIE_ok, LWi_ok⟩
theorem enc_two {p : Pkt} {f t : Adr} {l : List Ctx} {now : Int} (hp : validP p = true) (hf : adrValid f = true) (ht : adrValid t = true) (hl : validT l = true) (hn : vt now = true) : 2 <= (encI p f t l now).1.length := by
 rw [encI_ok hp hf ht hl hn]
 show 2 <= (joinH p _ _).length
 rw [join_len]
 omega
theorem bl_raw {l : List Int} (h : BL l) : BL (toL eB l.length (rowF eB l)) := by rw [toL_b]; exact h
theorem bl_raw0 {l : List Int} (h : BL l) : BL (toL eB l.length fun k j => rowF eB l (0 + k) j) := bl_isB (isB_0 (isB_row h _))
theorem d_isB {C : List Int} (h : BL C) (i : Nat) {x : Int} {g : Nat -> CV} (hg : g 0 = .int .u8 x) (hx : 0 <= x /\ x < 256) : IsB (fun k j => updE false (fun k j => selC (Nat.blt k 0) ((fun _ => nth [CV.int IntKind.u8 0]) k j) ((fun k j => rowF eB C (0 + k) j) (k - 0) j)) i g (0 + k) j) (0 + C.length) :=
 isB_0 (F := updE false (fun k j => selC (Nat.blt k 0) ((fun _ => nth [CV.int IntKind.u8 0]) k j) ((fun k j => rowF eB C (0 + k) j) (k - 0) j)) i g) (isB_set (isB_app (A := fun _ => nth [CV.int IntKind.u8 0]) (C := fun k j => rowF eB C (0 + k) j) (n := 0) isB_none (isB_0 (isB_row h _))) hg hx)
theorem bl_cut {C : List Int} (h : BL C) (n : Nat) : BL (toL eB n fun k j => rowF eB C (0 + 0 + k) j) := bl_isB ⟨fun k _ => ⟨_, rfl, h.get _⟩⟩
theorem f_isB {C raw : List Int} (h : BL C) (hr : BL raw) (i : Nat) {x : Int} {g : Nat -> CV} (hg : g 0 = .int .u8 x) (hx : 0 <= x /\ x < 256) : IsB (fun k j => (fun k j => selC (Nat.blt k (0 + C.length)) (updE false (fun k j => selC (Nat.blt k 0) ((fun _ => nth [CV.int IntKind.u8 0]) k j) ((fun k j => rowF eB C (0 + k) j) (k - 0) j)) i g k j) (rowF eB raw (k - (0 + C.length)) j)) (0 + k) j) (0 + C.length + raw.length) :=
 isB_0 (F := fun k j => selC (Nat.blt k (0 + C.length)) (updE false (fun k j => selC (Nat.blt k 0) ((fun _ => nth [CV.int IntKind.u8 0]) k j) ((fun k j => rowF eB C (0 + k) j) (k - 0) j)) i g k j) (rowF eB raw (k - (0 + C.length)) j)) (isB_app (A := updE false (fun k j => selC (Nat.blt k 0) ((fun _ => nth [CV.int IntKind.u8 0]) k j) ((fun k j => rowF eB C (0 + k) j) (k - 0) j)) i g) (C := rowF eB raw) (isB_set (isB_app (A := fun _ => nth [CV.int IntKind.u8 0]) (C := fun k j => rowF eB C (0 + k) j) (n := 0) isB_none (isB_0 (isB_row h _))) hg hx) (isB_row hr _))
theorem e_isB {raw : List Int} (h : BL raw) {x y : Int} (hx : 0 <= x /\ x < 256) (hy : 0 <= y /\ y < 256) {o p : Operand} : IsB (fun k j => (fun k j => selC (Nat.blt k 2) ((fun k j => selC (Nat.beq k (1, o).fst) ((fun _ => CV.int IntKind.u8 y) j) ((fun k j => selC (Nat.beq k (0, p).fst) ((fun _ => CV.int IntKind.u8 x) j) ((fun _ => nth [CV.int IntKind.u8 0]) k j)) k j)) k j) (rowF eB raw (k - 2) j)) (0 + k) j) (2 + raw.length) := ⟨fun k _ => by
 rcases k with _ | _ | k
 . exact ⟨x, rfl, hx⟩
 . exact ⟨y, rfl, hy⟩
 . show ∃ z, selC (Nat.blt (0 + (k + 1 + 1)) 2) _ (rowF eB raw (0 + (k + 1 + 1) - 2) 0) = .int .u8 z /\ _
   rw [blt_no (by omega), selC_false]
   exact ⟨_, rfl, h.get _⟩⟩
theorem idecodes_ok (raw : List Int) (hr : BL raw) (hrl : raw.length <= 140737488351232) (f t : Adr) (tab : List Ctx) (htab : bytesL tab) (now : Int) (n : Nat) (l : List Int) (hl : rngL l) (at_ by_ cut : Int) (hby : 0 <= by_ /\ by_ < 256) : PureOk Try.prog 14 [.e (.c (.sl true raw.length 1 (rowF eB raw))), (cE eAdr).enc f, (cE eAdr).enc t, .e (.c (slR eCtx tab)), (cI .i64).enc now, .e (.c (.sl true n 1 (rI l))), (cI .i64).enc at_, (cI .u8).enc by_, (cI .i64).enc cut] (.e (.c (.bool true))) := by
 have g1 : True := trivial
 have g2 : True := trivial
 have g3 : True := trivial
 refine pure_intro (wd := 1) (Q := mkQ LDw) (by decide) tysOk (q_of LDw_ok) mixed Try.func14 rfl _ (by show 9 <= _; decide) _ ?_
 repeat' (first | (apply And.intro <;> intro hc <;> (first | exact Bool.noConfusion hc | (simp only [zb0] at hc) | skip)) | (refine And.intro zp1 ?_) | (apply And.intro) | (intro s hs))
 . exact ⟨l, rfl, hl⟩
 intro ht0
 repeat' (first | (apply And.intro <;> intro hc <;> (first | exact Bool.noConfusion hc | (simp only [zb0, ne_eq, not_true_eq_false] at hc <;> first | exact absurd rfl hc | skip) | skip)) | (refine And.intro zp1 ?_) | (apply And.intro) | (intro s hs; (first | (clear g1; rename_i a ha q1 t1 b hb q2 t2 L hL q3 t3 r hm q4 t4; have hC2 := enc_two (t := b) hm.v ha.v hb.v hL.v (show vt 5 = true from rfl); have hCb := encI_bl hm.w a b L 5; have hCl := encI_len r a b L 5; obtain ⟨C, eC⟩ : ∃ C, encI r a b L 5 = C := ⟨_, rfl⟩; rw [eC] at hC2 hCb hCl; have q : C = s := ((hs.trans (encI_congr (pk_eq' r _) rfl rfl (toL_ctx L))).trans eC).symm; clear hs; subst q) | (have q : s = true := hs; clear hs; subst q) | (clear g2; have hi : 0 <= s /\ s < ((0 + C.1.length : Nat) : Int) := (by (rw [show s = modF at_ ((0 + C.1.length : Nat) : Int) from hs]; exact modF_lt (by omega))); clear hs; have hiL : 0 <= s /\ s < C.1.length := (by omega); clear hi) | (clear g3; have wl : (IntKind.i64.wrap ((C.1.length : Int) + 1)) = (C.1.length : Int) + 1 := IntWalk.i64_in _ (by omega); have hi : 0 <= s /\ s < (IntKind.i64.wrap ((C.1.length : Int) + 1)) := (by (rw [show s = modF cut (IntKind.i64.wrap ((C.1.length : Int) + 1)) from hs]; exact modF_lt (by rw [wl]; omega))); rw [wl] at hi; clear hs) | skip)))
 all_goals first
  | (show Elem.ok _ _ = true; exact rfl)
  | (show _ < _ -> Elem.ok _ _ = true; exact fun _ => rfl)
  | (show PkW _
     rename PkM _ => hm
     exact Eq.mp (congrArg PkW (pk_eq' _ _).symm) hm.w)
  | (show bytesL _
     rename madeL _ => hL
     rename List Ctx => L
     exact Eq.mp (congrArg bytesL (toL_ctx L).symm) ⟨hL.b, Nat.le_trans hL.n (by decide)⟩)
  | (show bytesL _
     exact Eq.mp (congrArg bytesL (toL_ctx tab).symm) htab)
  | (show BL _
     first
     | exact bl_raw hr
     | exact bl_raw0 hCb
     | exact bl_isB (d_isB hCb _ rfl (u8r _))
     | exact bl_cut hCb _
     | exact bl_isB (f_isB hCb hr _ rfl (u8r _))
     | exact bl_isB (e_isB hr (u8r _) (u8r _)))
  | (show List.length _ <= _
     dsimp only
     rw [toL_len]
     first | omega | (rename PkM _ => hm; have := valid_len hm.v; omega))
  | (show 1 <= IntKind.i64.wrap (((C.1.length : Nat) : Int) + 1); rw [IntWalk.i64_in _ (by omega)]; omega)
  | (show IntKind.i64.wrap (((C.1.length : Nat) : Int) + 1) <= _; rw [IntWalk.i64_in _ (by omega)]; omega)
  | (exfalso; omega)
  | exact Done.mk (leF_bool rfl)
  | skip
end Go.Proofs.Ytjknkfjhcapocaa.AX
namespace Go.Proofs.Ytjknkfjhcapocaa
open Go.RowKit AX
abbrev ksCtx : List (Option IntKind) := [some .i64, some .u8, some .u8, some .u8, some .u8, some .u8, some .u8, some .u8, some .u8, some .u8, some .u8, some .u8, some .u8, some .u8, some .u8, some .u8, some .u8, some .i64, none, some .i64]
theorem ctx_at : ∀ i, i < 16 -> ksCtx[1 + i]? = some (some .u8) := by decide
theorem ok_ctx (g : Nat -> CV) (h : MtC ksCtx g) : eCtx.ok g = true := by
 show (isK .i64 (g 0) && okA .u8 g 1 16 && isK .i64 (g 17) && isB (g 18) && isK .i64 (g 19)) = true
 rw [h.k (j := 0) rfl, okA_of fun i hi => h.k (ctx_at i hi), h.k (j := 17) rfl, h.b (j := 18) rfl, h.k (j := 19) rfl]; rfl
theorem by_ctx {c : Ctx} (h : ∃ g, MtC ksCtx g /\ c = eCtx.rd g) : byteOk c.ip := by
 obtain ⟨g, hg, rfl⟩ := h
 exact ⟨fun q => wf_u8 (hg.wf (ctx_at q.1 q.2))⟩
abbrev ksAdr : List (Option IntKind) := [some .i64, some .u16, some .u64]
theorem ok_adr (g : Nat -> CV) (h : MtC ksAdr g) : eAdr.ok g = true := by
 show (isK .i64 (g 0) && isK .u16 (g 1) && isK .u64 (g 2)) = true
 rw [h.k (j := 0) rfl, h.k (j := 1) rfl, h.k (j := 2) rfl]; rfl
theorem walkIphcDecodes (a0 : Option Addr) (len0 cap0 : Nat) (z0 : List Int) (x1 : Array Value) (x2 : Array Value) (a3 : Option Addr) (len3 cap3 : Nat) (a4 : Int) (a5 : Option Addr) (len5 cap5 : Nat) (z5 : List Int) (a6 : Int) (a7 : Int) (a8 : Int) (w : World) (w0 : IsRow .u8 w a0 len0 cap0 z0) (rr0 : cap0 * 1 <= 140737488351232) (w1 : Mt ksAdr x1.toList) (w2 : Mt ksAdr x2.toList) (w3 : IsRows w ksCtx a3 len3 cap3) (rr3 : len3 * 48 <= 140737488351232) (w4 : (Lit.int .i64 a4).wf = true) (w5 : IsRow .i64 w a5 len5 cap5 z5) (rr5 : cap5 * 8 <= 140737488351232) (w6 : (Lit.int .i64 a6).wf = true) (w7 : (Lit.int .u8 a7).wf = true) (w8 : (Lit.int .i64 a8).wf = true) :
 Calls Try.prog 14 #[.slice a0 len0 cap0, .agg x1, .agg x2, .slice a3 len3 cap3, .int .i64 a4, .slice a5 len5 cap5, .int .i64 a6, .int .u8 a7, .int .i64 a8] w fun e w' => e = .returned (.bool true) /\ Below w.heap.size w w' := by
 obtain ⟨b, hb, hl, hrel⟩ := rowB_cut w0
 have h3 := (rowB_all w0).2.2
 obtain ⟨f, hf, h1⟩ := flat_rel w1 (E := eAdr) (w := w) rfl ok_adr
 obtain ⟨t, ht, h2⟩ := flat_rel w2 (E := eAdr) (w := w) rfl ok_adr
 obtain ⟨raw, hn, hraw, h4⟩ := rows_rel w3 (E := eCtx) (by decide) rfl ok_ctx
 exact walk_of (idecodes_ok b hb (by omega) f t raw ⟨fun d hd => by_ctx (hraw d hd), by omega⟩ a4 len5 z5 (rng_of w5) a6 a7 a8 (wf_u8 w7)) (relL_cons hrel (relL_cons h1 (relL_cons h2 (relL_cons h4 (relL_cons rfl (relL_cons (row_rel w5) (relL_cons rfl (relL_cons rfl (relL1 rfl)))))))))
end Go.Proofs.Ytjknkfjhcapocaa
