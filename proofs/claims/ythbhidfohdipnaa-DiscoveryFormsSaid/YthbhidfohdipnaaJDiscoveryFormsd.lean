/- Texts of one's own in one file: DiP, DiQ, Di, DiB, DiR, BJ, BWr, BWs, DiS, DiW, DiV, DiV2, DiW2, DiW3, DiE, BIn, DiN. -/
import Derived.Test.YthbhidfohdipnaaJDiscoveryFormsc
import Derived.Laws.Strings
import Derived.Test.YthbhidfohdipnaaJDiscoveryFormsb
import Derived.Test.YthbhidfohdipnaaJDiscoveryFormsa
/- Discovery messages: what they are, how they are written and read; laws without a program. -/
namespace Go.Proofs.Ythbhidfohdipnaa.AX
open Go.RowKit
set_option linter.unusedVariables false
set_option linter.unusedSimpArgs false
structure MA where
  ty : Int
  hops : Int
  life : Int
  tgt : Fin 16 → Int
  mode : Int
  short : Int
  eui : Int
  oeui : Int
  oseq : Int
  ostat : Int
  olife : Int
  hasO : Bool
structure MZ where
  bver : Int
  blife : Int
  brt : Fin 16 → Int
  hasB : Bool
structure PI where
  ip : Fin 16 → Int
  bits : Int
  onl : Bool
  aut : Bool
  life : Int
structure CI where
  id : Int
  ip : Fin 16 → Int
  bits : Int
  comp : Bool
  life : Int
instance : Inhabited PI := ⟨⟨fun _ => 0, 0, false, false, 0⟩⟩
instance : Inhabited CI := ⟨⟨0, fun _ => 0, 0, false, 0⟩⟩
structure Msg where
  a : MA
  p : List PI
  c : List CI
  z : MZ
def zA : Fin 16 → Int := fun _ => 0
def noA : MA := ⟨0, 0, 0, zA, 0, 0, 0, 0, 0, 0, 0, false⟩
def noZ : MZ := ⟨0, 0, zA, false⟩
def noM : Msg := ⟨noA, [], [], noZ⟩
instance : Inhabited Msg := ⟨noM⟩

/-! ### The encoding -/
def zs (n : Nat) : List Int := List.replicate n 0
def fB (b : Bool) (v : Int) : Int := if b = true then v else 0
def srcB (a : MA) : List Int := if a.mode = 2 then [1, 1] ++ (beN a.short 2 ++ zs 4) else if a.mode = 3 then [1, 2] ++ (beN a.eui 8 ++ zs 6) else []
def ownB (a : MA) : List Int := [33, 2, a.ostat, 0, 0, a.oseq] ++ (beN a.olife 2 ++ beN a.oeui 8)
def pfB (p : PI) : List Int := [3, 4, p.bits, fB p.onl 128 + fB p.aut 64] ++ (beN p.life 4 ++ (zs 8 ++ ipL p.ip))
def ctB (c : CI) : List Int := [34, 3, c.bits, fB c.comp 16 + c.id, 0, 0] ++ (beN c.life 2 ++ ipL c.ip)
def boB (z : MZ) : List Int := [35, 3] ++ (beN z.blife 2 ++ (beN z.bver 4 ++ ipL z.brt))
def isNb (t : Int) : Prop := t = 135 ∨ t = 136
def isDup (t : Int) : Prop := t = 157 ∨ t = 158
instance (t : Int) : Decidable (isNb t) := by unfold isNb; infer_instance
instance (t : Int) : Decidable (isDup t) := by unfold isDup; infer_instance
def ownO (a : MA) : List Int := if a.hasO = true ∧ isNb a.ty then ownB a else []
def borO (z : MZ) : List Int := if z.hasB = true then boB z else []
def optB (m : Msg) : List Int := srcB m.a ++ (ownO m.a ++ (m.p.flatMap pfB ++ (m.c.flatMap ctB ++ borO m.z)))
def bodyB (a : MA) : List Int :=
  if isDup a.ty then [a.ostat, a.oseq] ++ (beN a.olife 2 ++ (beN a.oeui 8 ++ ipL a.tgt))
  else if a.ty = 134 then [a.hops, 0] ++ (beN a.life 2 ++ zs 8)
  else if isNb a.ty then zs 4 ++ ipL a.tgt
  else zs 4
def encX (m : Msg) (s : Int) : List Int := [m.a.ty, 0] ++ (beN s 2 ++ (bodyB m.a ++ optB m))
def zero24 (b : List Int) : List Int := b.take 2 ++ (zs (min b.length 4 - 2) ++ b.drop 4)
def sumD (b : List Int) (src dst : Fin 16 → Int) : Int := inetF (ipL src ++ (ipL dst ++ (beN b.length 4 ++ ([0, 0, 0, 58] ++ zero24 b))))
def headN (t : Int) : Nat := if isDup t then 32 else if t = 134 then 16 else if isNb t then 24 else 8

/-! ### Valid messages -/
def tyOk (t : Int) : Prop := t = 133 ∨ t = 134 ∨ isNb t ∨ isDup t
instance (t : Int) : Decidable (tyOk t) := by unfold tyOk; infer_instance
def ownZ (a : MA) : Bool := a.oeui == 0 && a.oseq == 0 && a.ostat == 0 && a.olife == 0
def borZ (z : MZ) : Bool := z.bver == 0 && z.blife == 0 && ipEq z.brt zA
def srcZ (a : MA) : Bool := a.mode == 0 && a.short == 0 && a.eui == 0
def adrOf (a : MA) : Adr := ⟨a.mode, a.short, a.eui⟩
def bcast (a : Adr) : Bool := a.mode == 2 && a.short == 65535 && a.eui == 0
def pfxP (p : PI) : Pfx := ⟨p.ip, p.bits⟩
def pfxC (c : CI) : Pfx := ⟨c.ip, c.bits⟩
def okC (c : CI) : Bool := vpf (pfxC c) && decide (0 ≤ c.id) && decide (c.id < 16)
def validM (m : Msg) : Bool :=
  decide (tyOk m.a.ty) && adrValid (adrOf m.a) && !bcast (adrOf m.a) && decide (m.p.length ≤ 16) && decide (m.c.length ≤ 16) &&
  (m.p.all fun p => vpf (pfxP p)) && m.c.all okC && (m.a.hasO || ownZ m.a) && (m.z.hasB || borZ m.z) &&
  (decide (m.a.ty = 134) || m.a.hops == 0 && m.a.life == 0 && m.p.isEmpty && m.c.isEmpty && !m.z.hasB) &&
  (decide (isNb m.a.ty) || decide (isDup m.a.ty) || !m.a.hasO && ipEq m.a.tgt zA) && (!decide (isDup m.a.ty) || m.a.hasO && srcZ m.a)
structure PIr (p : PI) : Prop where
  ip : byteOk p.ip
  life : 0 ≤ p.life ∧ p.life < 4294967296
structure CIr (c : CI) : Prop where
  ip : byteOk c.ip
  life : 0 ≤ c.life ∧ c.life < 65536
structure MAr (a : MA) : Prop where
  ty : 0 ≤ a.ty ∧ a.ty < 256
  hops : 0 ≤ a.hops ∧ a.hops < 256
  life : 0 ≤ a.life ∧ a.life < 65536
  tgt : byteOk a.tgt
  short : 0 ≤ a.short ∧ a.short < 65536
  eui : 0 ≤ a.eui ∧ a.eui < 18446744073709551616
  oeui : 0 ≤ a.oeui ∧ a.oeui < 18446744073709551616
  oseq : 0 ≤ a.oseq ∧ a.oseq < 256
  ostat : 0 ≤ a.ostat ∧ a.ostat < 256
  olife : 0 ≤ a.olife ∧ a.olife < 65536
structure MZr (z : MZ) : Prop where
  bver : 0 ≤ z.bver ∧ z.bver < 4294967296
  blife : 0 ≤ z.blife ∧ z.blife < 65536
  brt : byteOk z.brt
structure MsgR (m : Msg) : Prop where
  a : MAr m.a
  p : ∀ x ∈ m.p, PIr x
  c : ∀ x ∈ m.c, CIr x
  z : MZr m.z
structure ValM (m : Msg) : Prop where
  ty : tyOk m.a.ty
  adr : adrValid (adrOf m.a) = true
  bc : bcast (adrOf m.a) = false
  np : m.p.length ≤ 16
  nc : m.c.length ≤ 16
  p : ∀ x ∈ m.p, vpf (pfxP x) = true
  c : ∀ x ∈ m.c, okC x = true
  own : m.a.hasO = true ∨ ownZ m.a = true
  bor : m.z.hasB = true ∨ borZ m.z = true
  router : m.a.ty = 134 ∨ (m.a.hops = 0 ∧ m.a.life = 0 ∧ m.p = [] ∧ m.c = [] ∧ m.z.hasB = false)
  target : isNb m.a.ty ∨ isDup m.a.ty ∨ (m.a.hasO = false ∧ m.a.tgt = zA)
  dup : ¬ isDup m.a.ty ∨ (m.a.hasO = true ∧ srcZ m.a = true)
theorem valM_iff {m : Msg} : validM m = true ↔ ValM m := by
  unfold validM
  simp only [Bool.and_eq_true, Bool.or_eq_true, decide_eq_true_eq, Bool.not_eq_true', decide_eq_false_iff_not, List.all_eq_true, List.isEmpty_iff, beq_iff_eq, ipEq_iff, and_assoc, or_assoc]
  constructor
  · rintro ⟨h1, h2, h3, h4, h5, h6, h7, h8, h9, h10, h11, h12⟩
    exact ⟨h1, h2, h3, h4, h5, h6, h7, h8, h9, h10, h11, h12⟩
  · rintro ⟨h1, h2, h3, h4, h5, h6, h7, h8, h9, h10, h11, h12⟩
    exact ⟨h1, h2, h3, h4, h5, h6, h7, h8, h9, h10, h11, h12⟩

/-! ### Reading -/
def nmL (b : List Int) (at_ n : Nat) : Int := (uintF b at_ n).1
def ipF (b : List Int) (at_ : Nat) : Fin 16 → Int := fun i => if i.1 < 8 then (if at_ + 8 ≤ b.length then b.getD (at_ + i.1) default else 0) else (if at_ + 16 ≤ b.length then b.getD (at_ + i.1) default else 0)
def byt (b : List Int) (i : Nat) : Int := b.getD i default
def headF (b : List Int) : Msg :=
  if isDup (byt b 0) then { noM with a := { noA with ty := byt b 0, hasO := true, ostat := byt b 4, oseq := byt b 5, olife := nmL b 6 2, oeui := nmL b 8 8, tgt := ipF b 16 } }
  else if byt b 0 = 134 then { noM with a := { noA with ty := byt b 0, hops := byt b 4, life := nmL b 6 2 } }
  else if isNb (byt b 0) then { noM with a := { noA with ty := byt b 0, tgt := ipF b 8 } }
  else { noM with a := { noA with ty := byt b 0 } }
def rdP (o : List Int) : PI := ⟨ipF o 16, byt o 2, decide (bits .and .u8 (byt o 3) 128 ≠ 0), decide (bits .and .u8 (byt o 3) 64 ≠ 0), nmL o 4 4⟩
def rdC (o : List Int) : CI := ⟨byt o 3 % 16, ipF o 8, byt o 2, decide (bits .and .u8 (byt o 3) 16 ≠ 0), nmL o 6 2⟩
def optF (m : Msg) (o : List Int) : Msg :=
  if byt o 0 = 1 ∧ o.length = 8 then { m with a := { m.a with mode := 2, short := nmL o 2 2, eui := 0 } }
  else if byt o 0 = 1 then { m with a := { m.a with mode := 3, short := 0, eui := nmL o 2 8 } }
  else if byt o 0 = 33 then { m with a := { m.a with hasO := true, ostat := byt o 2, oseq := byt o 5, olife := nmL o 6 2, oeui := nmL o 8 8 } }
  else if byt o 0 = 3 then { m with p := m.p ++ [rdP o] }
  else if byt o 0 = 34 then { m with c := m.c ++ [rdC o] }
  else if byt o 0 = 35 then { m with z := ⟨nmL o 4 4, nmL o 2 2, ipF o 8, true⟩ }
  else m
def knownK (k n : Int) : Prop := (k = 1 ∧ n = 1) ∨ (k = 1 ∧ n = 2) ∨ (k = 33 ∧ n = 2) ∨ (k = 3 ∧ n = 4) ∨ (k = 34 ∧ n = 3) ∨ (k = 35 ∧ n = 3)
instance (k n : Int) : Decidable (knownK k n) := by unfold knownK; infer_instance
theorem knownK_pos {k n : Int} (h : knownK k n) : 1 ≤ n ∧ n ≤ 4 := by unfold knownK at h; omega
/-- The program's way: options of known kinds and lengths alone. -/
def parseL (l : List Int) (m : Msg) : Option Msg :=
  if l = [] then some m
  else if h : 8 ≤ l.length ∧ knownK (byt l 0) (byt l 1) ∧ 8 * byt l 1 ≤ l.length then parseL (l.drop (8 * (byt l 1).toNat)) (optF m (l.take (8 * (byt l 1).toNat)))
  else none
termination_by l.length
decreasing_by
  have := knownK_pos h.2.1
  rw [List.length_drop]
  omega
/-- The reference's way. -/
def refL (b : List Int) (at_ : Nat) (m : Msg) : Msg :=
  if h : at_ + 1 < b.length ∧ 0 < byt b (at_ + 1) ∧ at_ + 8 * (byt b (at_ + 1)).toNat ≤ b.length then refL b (at_ + 8 * (byt b (at_ + 1)).toNat) (optF m ((b.drop at_).take (8 * (byt b (at_ + 1)).toNat)))
  else m
termination_by b.length - at_
decreasing_by
  omega
def refM (b : List Int) : Msg := refL b (headN (byt b 0)) (headF b)
theorem bt_drop (b : List Int) (a i : Nat) : byt (b.drop a) i = byt b (a + i) := by
  unfold byt
  rw [List.getD_eq_getElem?_getD, List.getD_eq_getElem?_getD, List.getElem?_drop]
theorem parse_ref : ∀ (n : Nat) (b : List Int) (at_ : Nat) (m r : Msg), b.length - at_ ≤ n → at_ ≤ b.length → parseL (b.drop at_) m = some r → refL b at_ m = r := by
  intro n
  induction n with
  | zero =>
    intro b at_ m r hn ha h
    rw [List.drop_of_length_le (by omega), parseL, if_pos rfl] at h
    injection h with h
    rw [refL, dif_neg (by omega), h]
  | succ n ih =>
    intro b at_ m r hn ha h
    rw [parseL] at h
    split at h
    · rename_i he
      injection h with h
      have : b.length ≤ at_ := by
        have := congrArg List.length he
        rw [List.length_drop, List.length_nil] at this
        omega
      rw [refL, dif_neg (by omega), h]
    · split at h
      · rename_i hk
        obtain ⟨h8, hk, hl⟩ := hk
        have hp := knownK_pos hk
        rw [bt_drop] at hp
        rw [bt_drop, List.drop_drop] at h
        rw [bt_drop, List.length_drop] at hl
        rw [List.length_drop] at h8
        rw [refL, dif_pos (by omega)]
        exact ih b _ _ _ (by omega) (by omega) h
      · cases h

/-! ### What is written is read -/
theorem parse_step (o rest : List Int) (m : Msg) (hk : knownK (byt o 0) (byt o 1)) (hl : (o.length : Int) = 8 * byt o 1) : parseL (o ++ rest) m = parseL rest (optF m o) := by
  have hp := knownK_pos hk
  have e0 : byt (o ++ rest) 0 = byt o 0 := by unfold byt; rw [List.getD_eq_getElem?_getD, List.getD_eq_getElem?_getD, List.getElem?_append_left (by omega)]
  have e1 : byt (o ++ rest) 1 = byt o 1 := by unfold byt; rw [List.getD_eq_getElem?_getD, List.getD_eq_getElem?_getD, List.getElem?_append_left (by omega)]
  have en : 8 * (byt o 1).toNat = o.length := by omega
  rw [parseL, if_neg (fun h => by have := congrArg List.length h; rw [List.length_append, List.length_nil] at this; omega), dif_pos ?_, e1, en, List.drop_left, List.take_left]
  rw [e0, e1, List.length_append]
  exact ⟨by omega, hk, by omega⟩
theorem parse_nil (m : Msg) : parseL [] m = some m := by rw [parseL, if_pos rfl]
theorem zs_len (n : Nat) : (zs n).length = n := List.length_replicate ..
theorem nm_mid {b x w y : List Int} {a n : Nat} (h : b = x ++ (w ++ y)) (ha : x.length = a) (hn : w.length = n) (h1 : 1 ≤ n ∧ n ≤ 8) : nmL b a n = beVal w := by
  subst h ha hn
  unfold nmL uintF
  rw [if_pos ⟨by omega, by omega, by omega, by rw [List.length_append, List.length_append]; omega⟩]
  show beVal (((x ++ (w ++ y)).drop ((x.length : Int)).toNat).take ((w.length : Int)).toNat) = _
  rw [Int.toNat_natCast, Int.toNat_natCast, List.drop_left, List.take_left]
theorem nm_be {b x y : List Int} {v : Int} {a n : Nat} (h : b = x ++ (beN v n ++ y)) (ha : x.length = a) (h1 : 1 ≤ n ∧ n ≤ 8) (hv : 0 ≤ v ∧ v < 256 ^ n) : nmL b a n = v := by
  rw [nm_mid h ha (beN_len v n) h1, beVal_beN n v hv.1 hv.2]
theorem ip_mid {b x y : List Int} {a : Fin 16 → Int} {n : Nat} (h : b = x ++ (ipL a ++ y)) (hn : x.length = n) : ipF b n = a := by
  subst h hn
  funext i
  have hl : (x ++ (ipL a ++ y)).length = x.length + (16 + y.length) := by rw [List.length_append, List.length_append, ipL_len]
  have he : (x ++ (ipL a ++ y)).getD (x.length + i.1) default = a i := by
    rw [List.getD_eq_getElem?_getD, List.getElem?_append_right (by omega), List.getElem?_append_left (by rw [ipL_len]; omega), show x.length + i.1 - x.length = i.1 by omega]
    unfold ipL
    rw [List.getElem?_map, List.getElem?_range i.2]
    exact vget_lt a i.2
  unfold ipF
  rw [hl, he]
  by_cases h8 : i.1 < 8
  · rw [if_pos h8, if_pos (by omega)]
  · rw [if_neg h8, if_pos (by omega)]
theorem src_parse {m : Msg} {rest : List Int} {m0 : Msg} (hr : MAr m.a) (hv : adrValid (adrOf m.a) = true) (h0 : m0.a.mode = 0 ∧ m0.a.short = 0 ∧ m0.a.eui = 0) :
    parseL (srcB m.a ++ rest) m0 = parseL rest { m0 with a := { m0.a with mode := m.a.mode, short := m.a.short, eui := m.a.eui } } := by
  have hs := hr.short
  have he := hr.eui
  unfold adrValid adrOf at hv
  dsimp only at hv
  unfold srcB
  by_cases h2 : m.a.mode = 2
  · rw [if_pos h2]
    have h20 : ¬ m.a.mode = 0 := by omega
    rw [if_neg h20, if_pos h2] at hv
    have hv : m.a.eui = 0 := by simpa using hv
    have en : nmL ([1, 1] ++ (beN m.a.short 2 ++ zs 4)) 2 2 = m.a.short := nm_be (x := [1, 1]) (y := zs 4) (n := 2) rfl rfl (by omega) ⟨hs.1, hs.2⟩
    rw [parse_step _ _ _ (.inl ⟨rfl, rfl⟩) rfl]
    have e : optF m0 ([1, 1] ++ (beN m.a.short 2 ++ zs 4)) = { m0 with a := { m0.a with mode := 2, short := nmL ([1, 1] ++ (beN m.a.short 2 ++ zs 4)) 2 2, eui := 0 } } := by
      unfold optF
      rw [if_pos ⟨rfl, rfl⟩]
    rw [e, en, h2, hv]
  · rw [if_neg h2]
    by_cases h3 : m.a.mode = 3
    · rw [if_pos h3]
      have h30 : ¬ m.a.mode = 0 := by omega
      rw [if_neg h30, if_neg h2, if_pos h3] at hv
      have hv : m.a.short = 0 := by simpa using hv
      have en : nmL ([1, 2] ++ (beN m.a.eui 8 ++ zs 6)) 2 8 = m.a.eui := nm_be (x := [1, 2]) (y := zs 6) (n := 8) rfl rfl (by omega) ⟨he.1, he.2⟩
      rw [parse_step _ _ _ (.inr (.inl ⟨rfl, rfl⟩)) rfl]
      have e : optF m0 ([1, 2] ++ (beN m.a.eui 8 ++ zs 6)) = { m0 with a := { m0.a with mode := 3, short := 0, eui := nmL ([1, 2] ++ (beN m.a.eui 8 ++ zs 6)) 2 8 } } := by
        unfold optF
        rw [show byt ([1, 2] ++ (beN m.a.eui 8 ++ zs 6)) 0 = 1 from rfl, if_neg (fun h => absurd h.2 (show ¬ (16 : Nat) = 8 by decide)), if_pos rfl]
      rw [e, en, h3, hv]
    · rw [if_neg h3]
      have hm : m.a.mode = 0 := by
        rw [if_neg h2, if_neg h3] at hv
        split at hv
        · assumption
        · cases hv
      rw [if_pos hm] at hv
      have hv : m.a.short = 0 ∧ m.a.eui = 0 := by simpa using hv
      rw [hm, hv.1, hv.2, List.nil_append]
      congr 1
      obtain ⟨a, p, c, z⟩ := m0
      obtain ⟨g1, g2, g3⟩ := h0
      cases a
      simp only at g1 g2 g3
      subst g1 g2 g3
      rfl
theorem own_parse {a : MA} {rest : List Int} {m0 : Msg} (hr : MAr a) : parseL (ownB a ++ rest) m0 = parseL rest { m0 with a := { m0.a with hasO := true, ostat := a.ostat, oseq := a.oseq, olife := a.olife, oeui := a.oeui } } := by
  have h1 := hr.olife
  have h2 := hr.oeui
  rw [parse_step _ _ _ (.inr (.inr (.inl ⟨rfl, rfl⟩))) rfl]
  have e : optF m0 (ownB a) = { m0 with a := { m0.a with hasO := true, ostat := a.ostat, oseq := a.oseq, olife := nmL (ownB a) 6 2, oeui := nmL (ownB a) 8 8 } } := by
    unfold optF
    rw [show byt (ownB a) 0 = 33 from rfl, if_neg (fun h => absurd h.1 (by decide)), if_neg (by decide), if_pos rfl]
    rfl
  have n1 : nmL (ownB a) 6 2 = a.olife := nm_be (x := [33, 2, a.ostat, 0, 0, a.oseq]) (y := beN a.oeui 8) (n := 2) rfl rfl (by omega) ⟨h1.1, h1.2⟩
  have n2 : nmL (ownB a) 8 8 = a.oeui := nm_be (x := [33, 2, a.ostat, 0, 0, a.oseq] ++ beN a.olife 2) (y := []) (n := 8) (by rw [List.append_nil, List.append_assoc]; rfl) rfl (by omega) ⟨h2.1, h2.2⟩
  rw [e, n1, n2]
theorem fl_dec (x y : Bool) : decide (bits .and .u8 (fB x 128 + fB y 64) 128 ≠ 0) = x ∧ decide (bits .and .u8 (fB x 128 + fB y 64) 64 ≠ 0) = y := by cases x <;> cases y <;> decide
theorem vpf_bits {p : Pfx} (h : vpf p = true) : 0 ≤ p.bits ∧ p.bits ≤ 128 := by
  unfold vpf at h
  simp only [Bool.and_eq_true, decide_eq_true_eq] at h
  exact h.1
theorem rdP_pfB {p : PI} (hr : PIr p) : rdP (pfB p) = p := by
  have h1 := hr.life
  obtain ⟨ip, bits_, onl, aut, life⟩ := p
  unfold rdP
  obtain ⟨f1, f2⟩ := fl_dec onl aut
  have e3 : byt (pfB ⟨ip, bits_, onl, aut, life⟩) 3 = fB onl 128 + fB aut 64 := rfl
  have e2 : byt (pfB ⟨ip, bits_, onl, aut, life⟩) 2 = bits_ := rfl
  have n1 : nmL (pfB ⟨ip, bits_, onl, aut, life⟩) 4 4 = life := nm_be (x := [3, 4, bits_, fB onl 128 + fB aut 64]) (y := zs 8 ++ ipL ip) (n := 4) rfl rfl (by omega) ⟨h1.1, h1.2⟩
  have n2 : ipF (pfB ⟨ip, bits_, onl, aut, life⟩) 16 = ip := ip_mid (x := [3, 4, bits_, fB onl 128 + fB aut 64] ++ (beN life 4 ++ zs 8)) (y := []) (a := ip) (by rw [List.append_nil, List.append_assoc, List.append_assoc]; rfl) rfl
  rw [e3, e2, f1, f2, n1, n2]
theorem pf_parse {p : PI} {rest : List Int} {m0 : Msg} (hr : PIr p) : parseL (pfB p ++ rest) m0 = parseL rest { m0 with p := m0.p ++ [p] } := by
  rw [parse_step _ _ _ (.inr (.inr (.inr (.inl ⟨rfl, rfl⟩)))) rfl]
  have e : optF m0 (pfB p) = { m0 with p := m0.p ++ [rdP (pfB p)] } := by
    unfold optF
    rw [show byt (pfB p) 0 = 3 from rfl, if_neg (fun h => absurd h.1 (by decide)), if_neg (by decide), if_neg (by decide), if_pos rfl]
  rw [e, rdP_pfB hr]
theorem fl_id (x : Bool) {i : Int} (h : 0 ≤ i ∧ i < 16) : (fB x 16 + i) % 16 = i ∧ decide (bits .and .u8 (fB x 16 + i) 16 ≠ 0) = x := by
  obtain ⟨n, rfl⟩ : ∃ n : Nat, i = n := ⟨i.toNat, by omega⟩
  have key : ∀ (x : Bool) (n : Fin 16), (fB x 16 + ((n.1 : Nat) : Int)) % 16 = ((n.1 : Nat) : Int) ∧ decide (bits .and .u8 (fB x 16 + ((n.1 : Nat) : Int)) 16 ≠ 0) = x := by decide
  exact key x ⟨n, by omega⟩
theorem okC_id {c : CI} (h : okC c = true) : 0 ≤ c.id ∧ c.id < 16 := by
  unfold okC at h
  simp only [Bool.and_eq_true, decide_eq_true_eq] at h
  exact ⟨h.1.2, h.2⟩
theorem rdC_ctB {c : CI} (hr : CIr c) (hi : 0 ≤ c.id ∧ c.id < 16) : rdC (ctB c) = c := by
  have h1 := hr.life
  obtain ⟨id, ip, bits_, comp, life⟩ := c
  unfold rdC
  obtain ⟨f1, f2⟩ := fl_id comp hi
  have e3 : byt (ctB ⟨id, ip, bits_, comp, life⟩) 3 = fB comp 16 + id := rfl
  have e2 : byt (ctB ⟨id, ip, bits_, comp, life⟩) 2 = bits_ := rfl
  have n1 : nmL (ctB ⟨id, ip, bits_, comp, life⟩) 6 2 = life := nm_be (x := [34, 3, bits_, fB comp 16 + id, 0, 0]) (y := ipL ip) (n := 2) rfl rfl (by omega) ⟨h1.1, h1.2⟩
  have n2 : ipF (ctB ⟨id, ip, bits_, comp, life⟩) 8 = ip := ip_mid (x := [34, 3, bits_, fB comp 16 + id, 0, 0] ++ beN life 2) (y := []) (a := ip) (by rw [List.append_nil, List.append_assoc]; rfl) rfl
  dsimp only at f1 f2
  rw [e3, e2, f1, f2, n1, n2]
theorem ct_parse {c : CI} {rest : List Int} {m0 : Msg} (hr : CIr c) (hi : 0 ≤ c.id ∧ c.id < 16) : parseL (ctB c ++ rest) m0 = parseL rest { m0 with c := m0.c ++ [c] } := by
  rw [parse_step _ _ _ (.inr (.inr (.inr (.inr (.inl ⟨rfl, rfl⟩))))) rfl]
  have e : optF m0 (ctB c) = { m0 with c := m0.c ++ [rdC (ctB c)] } := by
    unfold optF
    rw [show byt (ctB c) 0 = 34 from rfl, if_neg (fun h => absurd h.1 (by decide)), if_neg (by decide), if_neg (by decide), if_neg (by decide), if_pos rfl]
  rw [e, rdC_ctB hr hi]
theorem bo_parse {z : MZ} {rest : List Int} {m0 : Msg} (hr : MZr z) (hb : z.hasB = true) : parseL (boB z ++ rest) m0 = parseL rest { m0 with z := z } := by
  have h1 := hr.blife
  have h2 := hr.bver
  obtain ⟨bver, blife, brt, hasB⟩ := z
  subst hb
  rw [parse_step _ _ _ (.inr (.inr (.inr (.inr (.inr ⟨rfl, rfl⟩))))) rfl]
  obtain ⟨b, eb⟩ : ∃ b, boB ⟨bver, blife, brt, true⟩ = b := ⟨_, rfl⟩
  have e : optF m0 b = { m0 with z := ⟨nmL b 4 4, nmL b 2 2, ipF b 8, true⟩ } := by
    have e0 : byt b 0 = 35 := by rw [← eb]; rfl
    unfold optF
    rw [e0, if_neg (fun h => absurd h.1 (by decide)), if_neg (by decide), if_neg (by decide), if_neg (by decide), if_neg (by decide), if_pos rfl]
  have n1 : nmL b 2 2 = blife := nm_be (x := [35, 3]) (y := beN bver 4 ++ ipL brt) (n := 2) (by rw [← eb]; rfl) rfl (by omega) ⟨h1.1, h1.2⟩
  have n2 : nmL b 4 4 = bver := nm_be (x := [35, 3] ++ beN blife 2) (n := 4) (v := bver) (y := ipL brt) (by rw [← eb, List.append_assoc]; rfl) rfl (by omega) ⟨h2.1, h2.2⟩
  have n3 : ipF b 8 = brt := ip_mid (x := [35, 3] ++ (beN blife 2 ++ beN bver 4)) (y := []) (a := brt) (by rw [← eb, List.append_nil, List.append_assoc, List.append_assoc]; rfl) rfl
  rw [eb, e, n1, n2, n3]
theorem pfs_parse {rest : List Int} : ∀ (l : List PI) (m0 : Msg), (∀ x ∈ l, PIr x) → parseL (l.flatMap pfB ++ rest) m0 = parseL rest { m0 with p := m0.p ++ l } := by
  intro l
  induction l with
  | nil => intro m0 _; rw [List.flatMap_nil, List.nil_append, List.append_nil]
  | cons p l ih =>
    intro m0 h
    rw [List.flatMap_cons, List.append_assoc, pf_parse (h p (List.mem_cons_self ..)), ih _ fun x hx => h x (List.mem_cons_of_mem _ hx)]
    show parseL rest { m0 with p := m0.p ++ [p] ++ l } = _
    rw [List.append_assoc]; rfl
theorem cts_parse {rest : List Int} : ∀ (l : List CI) (m0 : Msg), (∀ x ∈ l, CIr x ∧ 0 ≤ x.id ∧ x.id < 16) → parseL (l.flatMap ctB ++ rest) m0 = parseL rest { m0 with c := m0.c ++ l } := by
  intro l
  induction l with
  | nil => intro m0 _; rw [List.flatMap_nil, List.nil_append, List.append_nil]
  | cons p l ih =>
    intro m0 h
    rw [List.flatMap_cons, List.append_assoc, ct_parse (h p (List.mem_cons_self ..)).1 (h p (List.mem_cons_self ..)).2, ih _ fun x hx => h x (List.mem_cons_of_mem _ hx)]
    show parseL rest { m0 with c := m0.c ++ [p] ++ l } = _
    rw [List.append_assoc]; rfl
end Go.Proofs.Ythbhidfohdipnaa.AX

/- Discovery messages: what is encoded is decoded; what the program and the reference decode. -/
namespace Go.Proofs.Ythbhidfohdipnaa.AX
open Go.RowKit
set_option linter.unusedVariables false
set_option linter.unusedSimpArgs false
def srcM (m m0 : Msg) : Msg := { m0 with a := { m0.a with mode := m.a.mode, short := m.a.short, eui := m.a.eui } }
def ownM (m m0 : Msg) : Msg := if m.a.hasO = true ∧ isNb m.a.ty then { m0 with a := { m0.a with hasO := true, ostat := m.a.ostat, oseq := m.a.oseq, olife := m.a.olife, oeui := m.a.oeui } } else m0
def borM (m m0 : Msg) : Msg := if m.z.hasB = true then { m0 with z := m.z } else m0
def lisM (m m0 : Msg) : Msg := { m0 with p := m0.p ++ m.p, c := m0.c ++ m.c }
theorem opt_parse {m m0 : Msg} (hr : MsgR m) (hv : ValM m) (h0 : m0.a.mode = 0 ∧ m0.a.short = 0 ∧ m0.a.eui = 0) : parseL (optB m) m0 = some (borM m (lisM m (ownM m (srcM m m0)))) := by
  unfold optB
  rw [src_parse hr.a hv.adr h0]
  have e1 : parseL (ownO m.a ++ (m.p.flatMap pfB ++ (m.c.flatMap ctB ++ borO m.z))) (srcM m m0) = parseL (m.p.flatMap pfB ++ (m.c.flatMap ctB ++ borO m.z)) (ownM m (srcM m m0)) := by
    unfold ownO ownM
    by_cases h : m.a.hasO = true ∧ isNb m.a.ty
    · rw [if_pos h, if_pos h, own_parse hr.a]
    · rw [if_neg h, if_neg h, List.nil_append]
  refine e1.trans ?_
  rw [pfs_parse _ _ hr.p, cts_parse _ _ fun x hx => ⟨hr.c x hx, okC_id (hv.c x hx)⟩]
  unfold borO borM
  by_cases h : m.z.hasB = true
  · rw [if_pos h, if_pos h, ← List.append_nil (boB m.z), bo_parse hr.z h, parse_nil]; rfl
  · rw [if_neg h, if_neg h, parse_nil]; rfl
/-- What comes before the options of a message. -/
def hdA (a : MA) : MA :=
  if isDup a.ty then { noA with ty := a.ty, hasO := true, ostat := a.ostat, oseq := a.oseq, olife := a.olife, oeui := a.oeui, tgt := a.tgt }
  else if a.ty = 134 then { noA with ty := a.ty, hops := a.hops, life := a.life }
  else if isNb a.ty then { noA with ty := a.ty, tgt := a.tgt }
  else { noA with ty := a.ty }
def hdM (m : Msg) : Msg := ⟨hdA m.a, [], [], noZ⟩
theorem hd_src (a : MA) : (hdA a).mode = 0 ∧ (hdA a).short = 0 ∧ (hdA a).eui = 0 := by
  unfold hdA
  split
  · exact ⟨rfl, rfl, rfl⟩
  · split
    · exact ⟨rfl, rfl, rfl⟩
    · split <;> exact ⟨rfl, rfl, rfl⟩
theorem encX_eq (m : Msg) (s : Int) : encX m s = m.a.ty :: 0 :: (s / 256 ^ 1 % 256) :: (s / 256 ^ 0 % 256) :: (bodyB m.a ++ optB m) := rfl
theorem enc_head {m : Msg} {s : Int} (hr : MsgR m) : headF (encX m s) = hdM m := by
  have h1 := hr.a.olife
  have h2 := hr.a.oeui
  have h3 := hr.a.life
  have e0 : byt (encX m s) 0 = m.a.ty := rfl
  unfold headF hdM hdA
  rw [e0]
  by_cases hd : isDup m.a.ty
  · have eb : encX m s = [m.a.ty, 0, s / 256 ^ 1 % 256, s / 256 ^ 0 % 256] ++ ([m.a.ostat, m.a.oseq] ++ (beN m.a.olife 2 ++ (beN m.a.oeui 8 ++ (ipL m.a.tgt ++ optB m)))) := by
      rw [encX_eq]; unfold bodyB; rw [if_pos hd]; simp only [List.append_assoc]; rfl
    rw [if_pos hd, if_pos hd]
    obtain ⟨b, hb⟩ : ∃ b, encX m s = b := ⟨_, rfl⟩
    rw [hb] at eb ⊢
    have n1 : nmL b 6 2 = m.a.olife := nm_be (b := b) (x := [m.a.ty, 0, s / 256 ^ 1 % 256, s / 256 ^ 0 % 256] ++ [m.a.ostat, m.a.oseq]) (y := beN m.a.oeui 8 ++ (ipL m.a.tgt ++ optB m)) (n := 2) (v := m.a.olife) (by rw [eb, List.append_assoc]) rfl (by omega) ⟨h1.1, h1.2⟩
    have n2 : nmL b 8 8 = m.a.oeui := nm_be (b := b) (x := [m.a.ty, 0, s / 256 ^ 1 % 256, s / 256 ^ 0 % 256] ++ ([m.a.ostat, m.a.oseq] ++ beN m.a.olife 2)) (y := ipL m.a.tgt ++ optB m) (n := 8) (v := m.a.oeui) (by rw [eb]; simp only [List.append_assoc]) rfl (by omega) ⟨h2.1, h2.2⟩
    have n3 : ipF b 16 = m.a.tgt := ip_mid (b := b) (x := [m.a.ty, 0, s / 256 ^ 1 % 256, s / 256 ^ 0 % 256] ++ ([m.a.ostat, m.a.oseq] ++ (beN m.a.olife 2 ++ beN m.a.oeui 8))) (y := optB m) (a := m.a.tgt) (by rw [eb]; simp only [List.append_assoc]) rfl
    have n4 : byt b 4 = m.a.ostat := by rw [eb]; rfl
    have n5 : byt b 5 = m.a.oseq := by rw [eb]; rfl
    rw [n1, n2, n3, n4, n5]; rfl
  · rw [if_neg hd, if_neg hd]
    by_cases h4 : m.a.ty = 134
    · have eb : encX m s = [m.a.ty, 0, s / 256 ^ 1 % 256, s / 256 ^ 0 % 256] ++ ([m.a.hops, 0] ++ (beN m.a.life 2 ++ (zs 8 ++ optB m))) := by
        rw [encX_eq]; unfold bodyB; rw [if_neg hd, if_pos h4]; simp only [List.append_assoc]; rfl
      rw [if_pos h4, if_pos h4]
      obtain ⟨b, hb⟩ : ∃ b, encX m s = b := ⟨_, rfl⟩
      rw [hb] at eb ⊢
      have n1 : nmL b 6 2 = m.a.life := nm_be (b := b) (x := [m.a.ty, 0, s / 256 ^ 1 % 256, s / 256 ^ 0 % 256] ++ [m.a.hops, 0]) (y := zs 8 ++ optB m) (n := 2) (v := m.a.life) (by rw [eb, List.append_assoc]) rfl (by omega) ⟨h3.1, h3.2⟩
      have n4 : byt b 4 = m.a.hops := by rw [eb]; rfl
      rw [n1, n4]; rfl
    · rw [if_neg h4, if_neg h4]
      by_cases hn : isNb m.a.ty
      · have eb : encX m s = [m.a.ty, 0, s / 256 ^ 1 % 256, s / 256 ^ 0 % 256] ++ (zs 4 ++ (ipL m.a.tgt ++ optB m)) := by
          rw [encX_eq]; unfold bodyB; rw [if_neg hd, if_neg h4, if_pos hn]; simp only [List.append_assoc]; rfl
        rw [if_pos hn, if_pos hn]
        have n3 : ipF (encX m s) 8 = m.a.tgt := ip_mid (b := encX m s) (x := [m.a.ty, 0, s / 256 ^ 1 % 256, s / 256 ^ 0 % 256] ++ zs 4) (y := optB m) (a := m.a.tgt) (by rw [eb]; simp only [List.append_assoc]) rfl
        rw [n3]; rfl
      · rw [if_neg hn, if_neg hn]; rfl
theorem body_len (a : MA) : (bodyB a).length + 4 = headN a.ty := by
  unfold bodyB headN
  by_cases hd : isDup a.ty
  · rw [if_pos hd, if_pos hd]; simp only [List.length_append, beN_len, ipL_len, List.length_cons, List.length_nil]
  · rw [if_neg hd, if_neg hd]
    by_cases h4 : a.ty = 134
    · rw [if_pos h4, if_pos h4]; simp only [List.length_append, beN_len, zs_len, List.length_cons, List.length_nil]
    · rw [if_neg h4, if_neg h4]
      by_cases hn : isNb a.ty
      · rw [if_pos hn, if_pos hn]; simp only [List.length_append, ipL_len, zs_len]
      · rw [if_neg hn, if_neg hn]; rfl
theorem enc_opts (m : Msg) (s : Int) : (encX m s).drop (headN m.a.ty) = optB m := by
  rw [encX_eq, ← body_len]
  show (bodyB m.a ++ optB m).drop (bodyB m.a).length = _
  exact List.drop_left
theorem not_dup_nb {t : Int} (h : isNb t) : ¬ isDup t := by unfold isNb at h; unfold isDup; omega
theorem not_dup_134 {t : Int} (h : t = 134) : ¬ isDup t := by unfold isDup; omega
theorem not_nb_134 {t : Int} (h : t = 134) : ¬ isNb t := by unfold isNb; omega
theorem enc_parse {m : Msg} {s : Int} (hr : MsgR m) (hv : ValM m) : parseL ((encX m s).drop (headN m.a.ty)) (headF (encX m s)) = some m := by
  rw [enc_opts, enc_head hr, opt_parse hr hv (hd_src m.a)]
  congr 1
  have hbz : m.z.hasB = false → m.z = noZ := fun h => by
    rcases hv.bor with g | g
    · rw [h] at g; cases g
    · unfold borZ at g
      simp only [Bool.and_eq_true, beq_iff_eq, ipEq_iff] at g
      have e : m.z = ⟨m.z.bver, m.z.blife, m.z.brt, m.z.hasB⟩ := rfl
      rw [e, g.1.1, g.1.2, g.2, h]; rfl
  have how : m.a.hasO = false → m.a.oeui = 0 ∧ m.a.oseq = 0 ∧ m.a.ostat = 0 ∧ m.a.olife = 0 := fun h => by
    rcases hv.own with g | g
    · rw [h] at g; cases g
    · unfold ownZ at g
      simp only [Bool.and_eq_true, beq_iff_eq] at g
      exact ⟨g.1.1.1, g.1.1.2, g.1.2, g.2⟩
  have hdu : isDup m.a.ty → m.a.hasO = true ∧ m.a.mode = 0 ∧ m.a.short = 0 ∧ m.a.eui = 0 := fun h => by
    rcases hv.dup with g | g
    · exact absurd h g
    · refine ⟨g.1, ?_⟩
      have := g.2
      unfold srcZ at this
      simp only [Bool.and_eq_true, beq_iff_eq] at this
      exact ⟨this.1.1, this.1.2, this.2⟩
  have hrt := hv.router
  have htg := hv.target
  have hty := hv.ty
  clear hv hr
  obtain ⟨a, p, c, z⟩ := m
  dsimp only at hbz how hdu hrt htg hty ⊢
  have hz : borM ⟨a, p, c, z⟩ (lisM ⟨a, p, c, z⟩ (ownM ⟨a, p, c, z⟩ (srcM ⟨a, p, c, z⟩ (hdM ⟨a, p, c, z⟩)))) = ⟨(ownM ⟨a, p, c, z⟩ (srcM ⟨a, p, c, z⟩ (hdM ⟨a, p, c, z⟩))).a, p, c, z⟩ := by
    have ep : (ownM ⟨a, p, c, z⟩ (srcM ⟨a, p, c, z⟩ (hdM ⟨a, p, c, z⟩))).p = [] ∧ (ownM ⟨a, p, c, z⟩ (srcM ⟨a, p, c, z⟩ (hdM ⟨a, p, c, z⟩))).c = [] ∧ (ownM ⟨a, p, c, z⟩ (srcM ⟨a, p, c, z⟩ (hdM ⟨a, p, c, z⟩))).z = noZ := by
      unfold ownM
      split <;> exact ⟨rfl, rfl, rfl⟩
    obtain ⟨x, hx⟩ : ∃ x, ownM ⟨a, p, c, z⟩ (srcM ⟨a, p, c, z⟩ (hdM ⟨a, p, c, z⟩)) = x := ⟨_, rfl⟩
    rw [hx] at ep ⊢
    obtain ⟨xa, xp, xc, xz⟩ := x
    obtain ⟨e1, e2, e3⟩ := ep
    dsimp only at e1 e2 e3
    subst e1 e2 e3
    unfold borM lisM
    dsimp only
    cases hb : z.hasB with
    | true => rw [if_pos rfl, List.nil_append, List.nil_append]
    | false => rw [if_neg (by simp), List.nil_append, List.nil_append, hbz hb]
  rw [hz]
  clear hz
  congr 1
  unfold ownM srcM hdM hdA
  dsimp only
  obtain ⟨ty, hops, life, tgt, mode, short, eui, oeui, oseq, ostat, olife, hasO⟩ := a
  dsimp only at *
  by_cases hd : isDup ty
  · obtain ⟨g1, g2, g3, g4⟩ := hdu hd
    subst g1 g2 g3 g4
    have h4 : ¬ ty = 134 := fun h => not_dup_134 h hd
    have hn : ¬ isNb ty := fun h => not_dup_nb h hd
    rcases hrt with g | g
    · exact absurd g h4
    · obtain ⟨g1, g2, _⟩ := g
      subst g1 g2
      rw [if_neg (fun h => hn h.2), if_pos hd]; rfl
  · rw [if_neg hd]
    by_cases h4 : ty = 134
    · have hn := not_nb_134 h4
      rw [if_neg (fun h => hn h.2), if_pos h4]
      rcases htg with g | g | g
      · exact absurd g hn
      · exact absurd g hd
      · obtain ⟨g1, g2⟩ := g
        obtain ⟨g3, g4, g5, g6⟩ := how g1
        subst g1 g2 g3 g4 g5 g6
        rfl
    · rw [if_neg h4]
      rcases hrt with g | g
      · exact absurd g h4
      · obtain ⟨g1, g2, _⟩ := g
        subst g1 g2
        by_cases hn : isNb ty
        · rw [if_pos hn]
          cases hasO with
          | true => rw [if_pos ⟨rfl, hn⟩]; rfl
          | false =>
            obtain ⟨g3, g4, g5, g6⟩ := how rfl
            subst g3 g4 g5 g6
            rw [if_neg (fun h => by cases h.1)]; rfl
        · rw [if_neg hn, if_neg (fun h => hn h.2)]
          rcases htg with g | g | g
          · exact absurd g hn
          · exact absurd g hd
          · obtain ⟨g1, g2⟩ := g
            obtain ⟨g3, g4, g5, g6⟩ := how g1
            subst g1 g2 g3 g4 g5 g6
            rfl

/-! ### Decoding -/
theorem zero_enc (m : Msg) (s : Int) : zero24 (encX m s) = zero24 (encX m 0) := rfl
theorem sum_enc (m : Msg) (s : Int) (src dst : Fin 16 → Int) : sumD (encX m s) src dst = sumD (encX m 0) src dst := by
  unfold sumD
  rw [zero_enc]; rfl
def sumM (m : Msg) (src dst : Fin 16 → Int) : Int := sumD (encX m 0) src dst
def encDM (m : Msg) (src dst : Fin 16 → Int) : Option (List Int) := if validM m = true then some (encX m (sumM m src dst)) else none
def ecE (r : Option (List Int)) : Int := match r with
  | some _ => 0
  | none => 1
def decDM (b : List Int) (src dst : Fin 16 → Int) : Msg × Int :=
  if b.length < 8 then (noM, 4)
  else if ¬ nmL b 2 2 = sumD b src dst then (noM, 6)
  else if encDM (refM b) src dst = some b then (refM b, 0) else (noM, 5)
theorem encDM_some {m : Msg} {src dst : Fin 16 → Int} {b : List Int} (h : encDM m src dst = some b) : validM m = true ∧ encX m (sumM m src dst) = b := by
  unfold encDM at h
  split at h
  · injection h with h; exact ⟨by assumption, h⟩
  · cases h
theorem encX_ty (m : Msg) (s : Int) : byt (encX m s) 0 = m.a.ty := rfl
theorem encX_len (m : Msg) (s : Int) : (encX m s).length = headN m.a.ty + (optB m).length := by
  rw [encX_eq, ← body_len]
  simp only [List.length_cons, List.length_append]; omega
theorem headN_le (t : Int) : 8 ≤ headN t ∧ headN t ≤ 32 := by
  unfold headN
  split
  · omega
  · split
    · omega
    · split <;> omega
theorem nmL_r {b : List Int} (hb : BL b) (a n : Nat) : 0 ≤ nmL b a n ∧ nmL b a n < 256 ^ n := by
  unfold nmL uintF
  split
  · rename_i h
    have h1 := beVal_lt ((b.drop a).take n) ((hb.drop a).take n)
    have h2 : ((b.drop a).take n).length = n := by rw [List.length_take, List.length_drop]; omega
    rw [h2] at h1
    exact h1
  · exact ⟨Int.le_refl _, Int.pow_pos (by decide)⟩
theorem ipF_r {b : List Int} (hb : BL b) (a : Nat) : byteOk (ipF b a) := ⟨fun i => by
  unfold ipF
  split
  · split
    · exact hb.get _
    · omega
  · split
    · exact hb.get _
    · omega⟩
theorem zr8 : (0 : Int) ≤ 0 ∧ (0 : Int) < 256 := by decide
theorem zr16 : (0 : Int) ≤ 0 ∧ (0 : Int) < 65536 := by decide
theorem zr64 : (0 : Int) ≤ 0 ∧ (0 : Int) < 18446744073709551616 := by decide
theorem zA_r : byteOk zA := ⟨fun i => by unfold zA; omega⟩
theorem noZ_r : MZr noZ := ⟨by decide, by decide, zA_r⟩
theorem bt_r {b : List Int} (hb : BL b) (i : Nat) : 0 ≤ byt b i ∧ byt b i < 256 := hb.get i
theorem headF_r {b : List Int} (hb : BL b) : MsgR (headF b) := by
  have h2 := nmL_r hb 6 2
  have h8 := nmL_r hb 8 8
  unfold headF
  split
  · exact ⟨⟨bt_r hb 0, zr8, zr16, ipF_r hb 16, zr16, zr64, h8, bt_r hb 5, bt_r hb 4, h2⟩, fun x h => (by cases h), fun x h => (by cases h), noZ_r⟩
  · split
    · exact ⟨⟨bt_r hb 0, bt_r hb 4, h2, zA_r, zr16, zr64, zr64, zr8, zr8, zr16⟩, fun x h => (by cases h), fun x h => (by cases h), noZ_r⟩
    · split
      · exact ⟨⟨bt_r hb 0, zr8, zr16, ipF_r hb 8, zr16, zr64, zr64, zr8, zr8, zr16⟩, fun x h => (by cases h), fun x h => (by cases h), noZ_r⟩
      · exact ⟨⟨bt_r hb 0, zr8, zr16, zA_r, zr16, zr64, zr64, zr8, zr8, zr16⟩, fun x h => (by cases h), fun x h => (by cases h), noZ_r⟩
theorem optF_r {m : Msg} (hm : MsgR m) {o : List Int} (hb : BL o) : MsgR (optF m o) := by
  obtain ⟨⟨a1, a2, a3, a4, a5, a6, a7, a8, a9, a10⟩, hp, hc, hz⟩ := hm
  have n22 := nmL_r hb 2 2
  have n28 := nmL_r hb 2 8
  have n62 := nmL_r hb 6 2
  have n88 := nmL_r hb 8 8
  have n44 := nmL_r hb 4 4
  unfold optF
  split
  · exact ⟨⟨a1, a2, a3, a4, n22, zr64, a7, a8, a9, a10⟩, hp, hc, hz⟩
  · split
    · exact ⟨⟨a1, a2, a3, a4, zr16, n28, a7, a8, a9, a10⟩, hp, hc, hz⟩
    · split
      · exact ⟨⟨a1, a2, a3, a4, a5, a6, n88, bt_r hb 5, bt_r hb 2, n62⟩, hp, hc, hz⟩
      · split
        · refine ⟨⟨a1, a2, a3, a4, a5, a6, a7, a8, a9, a10⟩, fun x hx => ?_, hc, hz⟩
          rcases List.mem_append.1 hx with hx | hx
          · exact hp x hx
          · rw [List.mem_singleton.1 hx]; exact ⟨ipF_r hb 16, n44⟩
        · split
          · refine ⟨⟨a1, a2, a3, a4, a5, a6, a7, a8, a9, a10⟩, hp, fun x hx => ?_, hz⟩
            rcases List.mem_append.1 hx with hx | hx
            · exact hc x hx
            · rw [List.mem_singleton.1 hx]; exact ⟨ipF_r hb 8, n62⟩
          · split
            · exact ⟨⟨a1, a2, a3, a4, a5, a6, a7, a8, a9, a10⟩, hp, hc, ⟨n44, n22, ipF_r hb 8⟩⟩
            · exact ⟨⟨a1, a2, a3, a4, a5, a6, a7, a8, a9, a10⟩, hp, hc, hz⟩
theorem refL_r {b : List Int} (hb : BL b) : ∀ (n at_ : Nat) (m : Msg), b.length - at_ ≤ n → MsgR m → MsgR (refL b at_ m) := by
  intro n
  induction n with
  | zero => intro at_ m hn hm; rw [refL, dif_neg (by omega)]; exact hm
  | succ n ih =>
    intro at_ m hn hm
    rw [refL]
    split
    · rename_i h
      exact ih _ _ (by omega) (optF_r hm ((hb.drop _).take _))
    · exact hm
theorem refM_r {b : List Int} (hb : BL b) : MsgR (refM b) := refL_r hb _ _ _ (Nat.le_refl _) (headF_r hb)
/-- An encoding is read back. -/
theorem enc_refM {m : Msg} {s : Int} (hr : MsgR m) (hv : ValM m) : refM (encX m s) = m := by
  unfold refM
  rw [encX_ty]
  have hl := encX_len m s
  exact parse_ref _ _ _ _ _ (Nat.le_refl _) (by omega) (enc_parse hr hv)
/-- The program's way to decode. -/
def proF (b : List Int) : Option Msg := if tyOk (byt b 0) ∧ headN (byt b 0) ≤ b.length then parseL (b.drop (headN (byt b 0))) (headF b) else none
theorem proF_some {b : List Int} {m : Msg} (h : proF b = some m) : refM b = m := by
  unfold proF at h
  split at h
  · rename_i hc
    exact parse_ref _ _ _ _ _ (Nat.le_refl _) hc.2 h
  · cases h
theorem proF_enc {m : Msg} {s : Int} (hr : MsgR m) (hv : ValM m) : proF (encX m s) = some m := by
  unfold proF
  rw [encX_ty, if_pos ⟨hv.ty, by rw [encX_len]; omega⟩]
  exact enc_parse hr hv
theorem proF_none {b : List Int} {src dst : Fin 16 → Int} (hb : BL b) (h : proF b = none) : ¬ encDM (refM b) src dst = some b := fun he => by
  obtain ⟨h1, h2⟩ := encDM_some he
  have h3 := proF_enc (s := sumM (refM b) src dst) (refM_r hb) (valM_iff.1 h1)
  rw [h2, h] at h3
  cases h3
theorem decDM_pro {b : List Int} {src dst : Fin 16 → Int} (hb : BL b) (h8 : ¬ b.length < 8) (hs : nmL b 2 2 = sumD b src dst) :
    decDM b src dst = match proF b with
      | some m => if encDM m src dst = some b then (m, 0) else (noM, 5)
      | none => (noM, 5) := by
  unfold decDM
  rw [if_neg h8, if_neg (fun h => h hs)]
  cases h : proF b with
  | none => rw [if_neg (proF_none hb h)]
  | some m => rw [proF_some h]
theorem inet_r (l : List Int) : 0 ≤ inetF l ∧ inetF l < 65536 := by
  have := foldN_le (totI l)
  unfold inetF
  omega
theorem sumD_r (b : List Int) (src dst : Fin 16 → Int) : 0 ≤ sumD b src dst ∧ sumD b src dst < 65536 := inet_r _
theorem nm_sum (m : Msg) {s : Int} (h : 0 ≤ s ∧ s < 65536) : nmL (encX m s) 2 2 = s := nm_be (x := [m.a.ty, 0]) rfl rfl (by omega) ⟨h.1, h.2⟩
/-- Decode undoes Encode. -/
theorem dec_enc {m : Msg} (hr : MsgR m) (hv : validM m = true) (src dst : Fin 16 → Int) : decDM (encX m (sumM m src dst)) src dst = (m, 0) := by
  have hl := encX_len m (sumM m src dst)
  have h8 := headN_le m.a.ty
  unfold decDM
  have hs : nmL (encX m (sumM m src dst)) 2 2 = sumD (encX m (sumM m src dst)) src dst := (nm_sum m (sumD_r _ _ _)).trans (sum_enc m _ src dst).symm
  rw [if_neg (by omega), if_neg (fun h => h hs), enc_refM hr (valM_iff.1 hv)]
  unfold encDM
  rw [if_pos hv, if_pos rfl]
end Go.Proofs.Ythbhidfohdipnaa.AX

/- Discovery messages by AX2: their codes. -/
namespace Go.Proofs.Ythbhidfohdipnaa.AX
open Go.RowKit
set_option linter.unusedVariables false
set_option linter.unusedSimpArgs false
def eMAC (x : MA) (j : Nat) : CV := bif Nat.beq j 0 then .int .u8 x.ty else bif Nat.beq j 1 then .int .u8 x.hops else bif Nat.beq j 2 then .int .u16 x.life else bif Nat.blt j 19 then .int .u8 (vget x.tgt (j - 3)) else bif Nat.beq j 19 then .int .i64 x.mode else bif Nat.beq j 20 then .int .u16 x.short else bif Nat.beq j 21 then .int .u64 x.eui else bif Nat.beq j 22 then .int .u64 x.oeui else bif Nat.beq j 23 then .int .u8 x.oseq else bif Nat.beq j 24 then .int .u8 x.ostat else bif Nat.beq j 25 then .int .u16 x.olife else (.bool x.hasO)
def eMA : Elem MA where
  sz := 27
  cell := eMAC
  rd g := ⟨valI (g 0), valI (g 1), valI (g 2), fun q => valI (g (3 + q.1)), valI (g 19), valI (g 20), valI (g 21), valI (g 22), valI (g 23), valI (g 24), valI (g 25), valB (g 26)⟩
  ok g := isK .u8 (g 0) && isK .u8 (g 1) && isK .u16 (g 2) && okA .u8 g 3 16 && isK .i64 (g 19) && isK .u16 (g 20) && isK .u64 (g 21) && isK .u64 (g 22) && isK .u8 (g 23) && isK .u8 (g 24) && isK .u16 (g 25) && isB (g 26)
  ok_eq g h j hj := by
    simp only [Bool.and_eq_true] at h
    unfold eMAC
    by_cases c0 : j < 1
    · have e : j = 0 := by omega
      subst e
      exact isK_eq h.1.1.1.1.1.1.1.1.1.1.1
    by_cases c1 : j < 2
    · have e : j = 1 := by omega
      subst e
      exact isK_eq h.1.1.1.1.1.1.1.1.1.1.2
    by_cases c2 : j < 3
    · have e : j = 2 := by omega
      subst e
      exact isK_eq h.1.1.1.1.1.1.1.1.1.2
    by_cases c3 : j < 19
    · have e := okA_at h.1.1.1.1.1.1.1.1.2 (j - 3) (by omega)
      rw [show 3 + (j - 3) = j by omega] at e
      have b0 : Nat.beq j 0 = false := by cases hb : Nat.beq j 0 with | false => rfl | true => have := Nat.eq_of_beq_eq_true hb; omega
      have b1 : Nat.beq j 1 = false := by cases hb : Nat.beq j 1 with | false => rfl | true => have := Nat.eq_of_beq_eq_true hb; omega
      have b2 : Nat.beq j 2 = false := by cases hb : Nat.beq j 2 with | false => rfl | true => have := Nat.eq_of_beq_eq_true hb; omega
      rw [b0, cond_false, b1, cond_false, b2, cond_false, show Nat.blt j 19 = true from Nat.ble_eq_true_of_le c3, cond_true]
      rw [show vget (fun q : Fin 16 => valI (g (3 + q.1))) (j - 3) = valI (g (3 + (j - 3))) from vget_lt _ (by omega)]
      rw [show 3 + (j - 3) = j by omega]
      exact e
    by_cases c4 : j < 20
    · have e : j = 19 := by omega
      subst e
      exact isK_eq h.1.1.1.1.1.1.1.2
    by_cases c5 : j < 21
    · have e : j = 20 := by omega
      subst e
      exact isK_eq h.1.1.1.1.1.1.2
    by_cases c6 : j < 22
    · have e : j = 21 := by omega
      subst e
      exact isK_eq h.1.1.1.1.1.2
    by_cases c7 : j < 23
    · have e : j = 22 := by omega
      subst e
      exact isK_eq h.1.1.1.1.2
    by_cases c8 : j < 24
    · have e : j = 23 := by omega
      subst e
      exact isK_eq h.1.1.1.2
    by_cases c9 : j < 25
    · have e : j = 24 := by omega
      subst e
      exact isK_eq h.1.1.2
    by_cases c10 : j < 26
    · have e : j = 25 := by omega
      subst e
      exact isK_eq h.1.2
    by_cases c11 : j < 27
    · have e : j = 26 := by omega
      subst e
      exact isB_eq h.2
    omega
  flat a j := by
    unfold eMAC
    cases Nat.beq j 0 with
    | true => exact flat_int
    | false =>
    cases Nat.beq j 1 with
    | true => exact flat_int
    | false =>
    cases Nat.beq j 2 with
    | true => exact flat_int
    | false =>
    cases Nat.blt j 19 with
    | true => exact flat_int
    | false =>
    cases Nat.beq j 19 with
    | true => exact flat_int
    | false =>
    cases Nat.beq j 20 with
    | true => exact flat_int
    | false =>
    cases Nat.beq j 21 with
    | true => exact flat_int
    | false =>
    cases Nat.beq j 22 with
    | true => exact flat_int
    | false =>
    cases Nat.beq j 23 with
    | true => exact flat_int
    | false =>
    cases Nat.beq j 24 with
    | true => exact flat_int
    | false =>
    cases Nat.beq j 25 with
    | true => exact flat_int
    | false =>
    exact flat_bool
theorem eMA_tgt_at (x : MA) (q : Nat) (h : q < 16) : eMA.cell x (3 + q) = .int .u8 (vget x.tgt q) := by
  show eMAC x (3 + q) = _
  unfold eMAC
  rw [show Nat.beq (3 + q) 0 = false from by cases hb : Nat.beq (3 + q) 0 with | false => rfl | true => have := Nat.eq_of_beq_eq_true hb; omega, cond_false]
  rw [show Nat.beq (3 + q) 1 = false from by cases hb : Nat.beq (3 + q) 1 with | false => rfl | true => have := Nat.eq_of_beq_eq_true hb; omega, cond_false]
  rw [show Nat.beq (3 + q) 2 = false from by cases hb : Nat.beq (3 + q) 2 with | false => rfl | true => have := Nat.eq_of_beq_eq_true hb; omega, cond_false]
  rw [show Nat.blt (3 + q) 19 = true from Nat.ble_eq_true_of_le (by omega), cond_true]
  rw [show 3 + q - 3 = q by omega]
theorem eMA_tgt (x : MA) : (fun q : Fin 16 => valI (eMA.cell x (3 + q.1))) = x.tgt := by
  funext q
  rw [eMA_tgt_at x q.1 q.2]
  exact vget_lt _ q.2
theorem eMA_rd (x : MA) : eMA.rd (eMA.cell x) = x := by
  show (⟨x.ty, x.hops, x.life, fun q => valI (eMA.cell x (3 + q.1)), x.mode, x.short, x.eui, x.oeui, x.oseq, x.ostat, x.olife, x.hasO⟩ : MA) = x
  rw [eMA_tgt]
def eMZC (x : MZ) (j : Nat) : CV := bif Nat.beq j 0 then .int .u32 x.bver else bif Nat.beq j 1 then .int .u16 x.blife else bif Nat.blt j 18 then .int .u8 (vget x.brt (j - 2)) else (.bool x.hasB)
def eMZ : Elem MZ where
  sz := 19
  cell := eMZC
  rd g := ⟨valI (g 0), valI (g 1), fun q => valI (g (2 + q.1)), valB (g 18)⟩
  ok g := isK .u32 (g 0) && isK .u16 (g 1) && okA .u8 g 2 16 && isB (g 18)
  ok_eq g h j hj := by
    simp only [Bool.and_eq_true] at h
    unfold eMZC
    by_cases c0 : j < 1
    · have e : j = 0 := by omega
      subst e
      exact isK_eq h.1.1.1
    by_cases c1 : j < 2
    · have e : j = 1 := by omega
      subst e
      exact isK_eq h.1.1.2
    by_cases c2 : j < 18
    · have e := okA_at h.1.2 (j - 2) (by omega)
      rw [show 2 + (j - 2) = j by omega] at e
      have b0 : Nat.beq j 0 = false := by cases hb : Nat.beq j 0 with | false => rfl | true => have := Nat.eq_of_beq_eq_true hb; omega
      have b1 : Nat.beq j 1 = false := by cases hb : Nat.beq j 1 with | false => rfl | true => have := Nat.eq_of_beq_eq_true hb; omega
      rw [b0, cond_false, b1, cond_false, show Nat.blt j 18 = true from Nat.ble_eq_true_of_le c2, cond_true]
      rw [show vget (fun q : Fin 16 => valI (g (2 + q.1))) (j - 2) = valI (g (2 + (j - 2))) from vget_lt _ (by omega)]
      rw [show 2 + (j - 2) = j by omega]
      exact e
    by_cases c3 : j < 19
    · have e : j = 18 := by omega
      subst e
      exact isB_eq h.2
    omega
  flat a j := by
    unfold eMZC
    cases Nat.beq j 0 with
    | true => exact flat_int
    | false =>
    cases Nat.beq j 1 with
    | true => exact flat_int
    | false =>
    cases Nat.blt j 18 with
    | true => exact flat_int
    | false =>
    exact flat_bool
theorem eMZ_brt_at (x : MZ) (q : Nat) (h : q < 16) : eMZ.cell x (2 + q) = .int .u8 (vget x.brt q) := by
  show eMZC x (2 + q) = _
  unfold eMZC
  rw [show Nat.beq (2 + q) 0 = false from by cases hb : Nat.beq (2 + q) 0 with | false => rfl | true => have := Nat.eq_of_beq_eq_true hb; omega, cond_false]
  rw [show Nat.beq (2 + q) 1 = false from by cases hb : Nat.beq (2 + q) 1 with | false => rfl | true => have := Nat.eq_of_beq_eq_true hb; omega, cond_false]
  rw [show Nat.blt (2 + q) 18 = true from Nat.ble_eq_true_of_le (by omega), cond_true]
  rw [show 2 + q - 2 = q by omega]
theorem eMZ_brt (x : MZ) : (fun q : Fin 16 => valI (eMZ.cell x (2 + q.1))) = x.brt := by
  funext q
  rw [eMZ_brt_at x q.1 q.2]
  exact vget_lt _ q.2
theorem eMZ_rd (x : MZ) : eMZ.rd (eMZ.cell x) = x := by
  show (⟨x.bver, x.blife, fun q => valI (eMZ.cell x (2 + q.1)), x.hasB⟩ : MZ) = x
  rw [eMZ_brt]
def ePIC (x : PI) (j : Nat) : CV := bif Nat.blt j 16 then .int .u8 (vget x.ip (j - 0)) else bif Nat.beq j 16 then .int .i64 x.bits else bif Nat.beq j 17 then .bool x.onl else bif Nat.beq j 18 then .bool x.aut else (.int .u32 x.life)
def ePI : Elem PI where
  sz := 20
  cell := ePIC
  rd g := ⟨fun q => valI (g (0 + q.1)), valI (g 16), valB (g 17), valB (g 18), valI (g 19)⟩
  ok g := okA .u8 g 0 16 && isK .i64 (g 16) && isB (g 17) && isB (g 18) && isK .u32 (g 19)
  ok_eq g h j hj := by
    simp only [Bool.and_eq_true] at h
    unfold ePIC
    by_cases c0 : j < 16
    · have e := okA_at h.1.1.1.1 (j - 0) (by omega)
      rw [show 0 + (j - 0) = j by omega] at e
      rw [show Nat.blt j 16 = true from Nat.ble_eq_true_of_le c0, cond_true]
      rw [show vget (fun q : Fin 16 => valI (g (0 + q.1))) (j - 0) = valI (g (0 + (j - 0))) from vget_lt _ (by omega)]
      rw [show 0 + (j - 0) = j by omega]
      exact e
    by_cases c1 : j < 17
    · have e : j = 16 := by omega
      subst e
      exact isK_eq h.1.1.1.2
    by_cases c2 : j < 18
    · have e : j = 17 := by omega
      subst e
      exact isB_eq h.1.1.2
    by_cases c3 : j < 19
    · have e : j = 18 := by omega
      subst e
      exact isB_eq h.1.2
    by_cases c4 : j < 20
    · have e : j = 19 := by omega
      subst e
      exact isK_eq h.2
    omega
  flat a j := by
    unfold ePIC
    cases Nat.blt j 16 with
    | true => exact flat_int
    | false =>
    cases Nat.beq j 16 with
    | true => exact flat_int
    | false =>
    cases Nat.beq j 17 with
    | true => exact flat_bool
    | false =>
    cases Nat.beq j 18 with
    | true => exact flat_bool
    | false =>
    exact flat_int
theorem ePI_sz : 0 < ePI.sz := by decide
theorem ePI_ip_at (x : PI) (q : Nat) (h : q < 16) : ePI.cell x (0 + q) = .int .u8 (vget x.ip q) := by
  show ePIC x (0 + q) = _
  unfold ePIC
  rw [show Nat.blt (0 + q) 16 = true from Nat.ble_eq_true_of_le (by omega), cond_true]
  rw [show 0 + q - 0 = q by omega]
theorem ePI_ip (x : PI) : (fun q : Fin 16 => valI (ePI.cell x (0 + q.1))) = x.ip := by
  funext q
  rw [ePI_ip_at x q.1 q.2]
  exact vget_lt _ q.2
theorem ePI_rd (x : PI) : ePI.rd (ePI.cell x) = x := by
  show (⟨fun q => valI (ePI.cell x (0 + q.1)), x.bits, x.onl, x.aut, x.life⟩ : PI) = x
  rw [ePI_ip]
def eCIC (x : CI) (j : Nat) : CV := bif Nat.beq j 0 then .int .i64 x.id else bif Nat.blt j 17 then .int .u8 (vget x.ip (j - 1)) else bif Nat.beq j 17 then .int .i64 x.bits else bif Nat.beq j 18 then .bool x.comp else (.int .u16 x.life)
def eCI : Elem CI where
  sz := 20
  cell := eCIC
  rd g := ⟨valI (g 0), fun q => valI (g (1 + q.1)), valI (g 17), valB (g 18), valI (g 19)⟩
  ok g := isK .i64 (g 0) && okA .u8 g 1 16 && isK .i64 (g 17) && isB (g 18) && isK .u16 (g 19)
  ok_eq g h j hj := by
    simp only [Bool.and_eq_true] at h
    unfold eCIC
    by_cases c0 : j < 1
    · have e : j = 0 := by omega
      subst e
      exact isK_eq h.1.1.1.1
    by_cases c1 : j < 17
    · have e := okA_at h.1.1.1.2 (j - 1) (by omega)
      rw [show 1 + (j - 1) = j by omega] at e
      have b0 : Nat.beq j 0 = false := by cases hb : Nat.beq j 0 with | false => rfl | true => have := Nat.eq_of_beq_eq_true hb; omega
      rw [b0, cond_false, show Nat.blt j 17 = true from Nat.ble_eq_true_of_le c1, cond_true]
      rw [show vget (fun q : Fin 16 => valI (g (1 + q.1))) (j - 1) = valI (g (1 + (j - 1))) from vget_lt _ (by omega)]
      rw [show 1 + (j - 1) = j by omega]
      exact e
    by_cases c2 : j < 18
    · have e : j = 17 := by omega
      subst e
      exact isK_eq h.1.1.2
    by_cases c3 : j < 19
    · have e : j = 18 := by omega
      subst e
      exact isB_eq h.1.2
    by_cases c4 : j < 20
    · have e : j = 19 := by omega
      subst e
      exact isK_eq h.2
    omega
  flat a j := by
    unfold eCIC
    cases Nat.beq j 0 with
    | true => exact flat_int
    | false =>
    cases Nat.blt j 17 with
    | true => exact flat_int
    | false =>
    cases Nat.beq j 17 with
    | true => exact flat_int
    | false =>
    cases Nat.beq j 18 with
    | true => exact flat_bool
    | false =>
    exact flat_int
theorem eCI_sz : 0 < eCI.sz := by decide
theorem eCI_ip_at (x : CI) (q : Nat) (h : q < 16) : eCI.cell x (1 + q) = .int .u8 (vget x.ip q) := by
  show eCIC x (1 + q) = _
  unfold eCIC
  rw [show Nat.beq (1 + q) 0 = false from by cases hb : Nat.beq (1 + q) 0 with | false => rfl | true => have := Nat.eq_of_beq_eq_true hb; omega, cond_false]
  rw [show Nat.blt (1 + q) 17 = true from Nat.ble_eq_true_of_le (by omega), cond_true]
  rw [show 1 + q - 1 = q by omega]
theorem eCI_ip (x : CI) : (fun q : Fin 16 => valI (eCI.cell x (1 + q.1))) = x.ip := by
  funext q
  rw [eCI_ip_at x q.1 q.2]
  exact vget_lt _ q.2
theorem eCI_rd (x : CI) : eCI.rd (eCI.cell x) = x := by
  show (⟨x.id, fun q => valI (eCI.cell x (1 + q.1)), x.bits, x.comp, x.life⟩ : CI) = x
  rw [eCI_ip]
/-- The cells of a message. -/
def msgC (a : MA) (p c : CV) (z : MZ) (j : Nat) : CV := bif Nat.blt j 27 then eMA.cell a j else bif Nat.beq j 27 then p else bif Nat.beq j 28 then c else eMZ.cell z (j - 29)
theorem msgC_a {a : MA} {p c : CV} {z : MZ} {j : Nat} (h : j < 27) : msgC a p c z j = eMA.cell a j := by unfold msgC; rw [blt_lt h]; rfl
theorem msgC_z {a : MA} {p c : CV} {z : MZ} {j : Nat} (h : 29 ≤ j) : msgC a p c z j = eMZ.cell z (j - 29) := by
  unfold msgC
  have h1 : Nat.blt j 27 = false := by
    cases hb : Nat.blt j 27 with
    | false => rfl
    | true => have := Nat.le_of_ble_eq_true hb; omega
  have h2 : Nat.beq j 27 = false := beq_ne (by omega)
  have h3 : Nat.beq j 28 = false := beq_ne (by omega)
  rw [h1, h2, h3]; rfl
def slP (l : List PI) : CV := .sl false l.length ePI.sz (rowF ePI l)
def slC (l : List CI) : CV := .sl false l.length eCI.sz (rowF eCI l)
theorem msg_le {f : Nat → CV} {m : Msg} {H : Hp} {rd : List Nat} (h1 : eMA.ok f = true) (h2 : eMZ.ok (fun q => f (29 + q)) = true) (e1 : eMA.rd f = m.a) (e2 : eMZ.rd (fun q => f (29 + q)) = m.z) (h3 : Bo H rd (.e (.c (f 27))) (.e (.c (slP m.p)))) (h4 : Bo H rd (.e (.c (f 28))) (.e (.c (slC m.c)))) :
    Bo H rd (.e (.agg 48 f)) (.e (.agg 48 (msgC m.a (slP m.p) (slC m.c) m.z))) := by
  rintro cx r w v st ⟨cs, rfl, c1, c2⟩
  refine ⟨cs, rfl, c1, fun i u hu => ?_⟩
  have hi : i < 48 := by rw [← c1]; exact (Array.getElem?_eq_some_iff.1 hu).1
  have h5 := c2 i u hu
  by_cases ha : i < 27
  · rw [msgC_a ha, ← e1]
    rw [eMA.ok_eq f h1 i ha] at h5
    exact eMA.flat _ _ _ _ _ _ _ _ _ _ _ h5
  · by_cases hz : 29 ≤ i
    · rw [msgC_z hz, ← e2]
      have := eMZ.ok_eq _ h2 (i - 29) (show i - 29 < 19 by omega)
      rw [show 29 + (i - 29) = i by omega] at this
      rw [this] at h5
      exact eMZ.flat _ _ _ _ _ _ _ _ _ _ _ h5
    · by_cases h7 : i = 27
      · subst h7; exact h3 cx r w u st h5
      · have : i = 28 := by omega
        subst this; exact h4 cx r w u st h5
def cMsg : Codec Msg where
  enc m := .e (.agg 48 (msgC m.a (slP m.p) (slC m.c) m.z))
  dec H x := (ga 48 x).bind fun f => bif eMA.ok f && eMZ.ok (fun q => f (29 + q)) then
    match srcOf H ePI.sz (.e (.c (f 27))) with
    | some ⟨n, g, p, rd⟩ =>
      match srcOf H eCI.sz (.e (.c (f 28))) with
      | some ⟨n', g', p', rd'⟩ => some (⟨eMA.rd f, toL ePI n g, toL eCI n' g', eMZ.rd (fun q => f (29 + q))⟩, both (both p (some (∀ i, i < n → ePI.ok (g i) = true))) (both p' (some (∀ i, i < n' → eCI.ok (g' i) = true))), rd ++ rd')
      | none => none
    | none => none
    else none
  sound H H' x a p rd h hp hh := by
    obtain ⟨f, h1, h⟩ := bind_some h
    obtain ⟨hk, h⟩ : (eMA.ok f && eMZ.ok (fun q => f (29 + q))) = true ∧ _ = some (a, p, rd) := by
      cases hb : (eMA.ok f && eMZ.ok (fun q => f (29 + q))) with
      | true => rw [hb] at h; exact ⟨rfl, h⟩
      | false => rw [hb] at h; cases h
    rw [Bool.and_eq_true] at hk
    split at h
    · rename_i n g q rd0 hs
      split at h
      · rename_i n' g' q' rd' hs'
        injection h with h
        injection h with h h'
        injection h' with h' h''
        subst h h' h''
        obtain ⟨q1, q2⟩ := both_ok.1 hp
        obtain ⟨q3, q4⟩ := both_ok.1 q1
        obtain ⟨q5, q6⟩ := both_ok.1 q2
        rw [ga_eq h1]
        have l1 := bo_sl ePI_sz (srcOf_congr hs fun k hk => hh k (List.mem_append_left _ hk)) q3 q4
        have l2 := bo_sl eCI_sz (srcOf_congr hs' fun k hk => hh k (List.mem_append_right _ hk)) q5 q6
        exact msg_le hk.1 hk.2 rfl rfl (l1.more fun k hk => List.mem_append_left _ hk) (l2.more fun k hk => List.mem_append_right _ hk)
      · cases h
    · cases h
/-- A message as a result. -/
def msgR (m : Msg) : EV := .agg 48 (msgC m.a (slR ePI m.p) (slR eCI m.c) m.z)
theorem leE_msg {c : Wc} {g : Nat → CV} {m : Msg} {n : Nat} (hn : n = 48) (h1 : ∀ j, j < 27 → LeC c (g j) (eMA.cell m.a j)) (h2 : LeC c (g 27) (slR ePI m.p)) (h3 : LeC c (g 28) (slR eCI m.c)) (h4 : ∀ j, j < 19 → LeC c (g (29 + j)) (eMZ.cell m.z j)) : LeE c (.agg n g) (msgR m) := by
  subst hn
  refine leE_agg rfl fun i hi => ?_
  by_cases ha : i < 27
  · rw [msgC_a ha]; exact h1 i ha
  · by_cases hz : 29 ≤ i
    · rw [msgC_z hz]
      have := h4 (i - 29) (by omega)
      rw [show 29 + (i - 29) = i by omega] at this
      exact this
    · by_cases h7 : i = 27
      · subst h7; exact h2
      · have : i = 28 := by omega
        subst this; exact h3
theorem nfE_msg {m : Msg} : NFE (msgR m) := by
  rintro r r' X W w v ⟨cs, rfl, h1, h2⟩
  refine ⟨cs, rfl, h1, fun i u hu => ?_⟩
  have h3 := h2 i u hu
  by_cases ha : i < 27
  · rw [msgC_a ha] at h3 ⊢
    exact (eMA.flat _ _).nf _ _ _ _ _ _ h3
  · by_cases hz : 29 ≤ i
    · rw [msgC_z hz] at h3 ⊢
      exact (eMZ.flat _ _).nf _ _ _ _ _ _ h3
    · by_cases h7 : i = 27
      · subst h7
        exact nf_sl (fun i _ j _ => (ePI.flat _ _).nf) _ _ _ _ _ _ h3
      · by_cases h8 : i = 28
        · subst h8
          exact nf_sl (fun i _ j _ => (eCI.flat _ _).nf) _ _ _ _ _ _ h3
        · omega
/-- Read back. -/
theorem ma_congr (f g : Nat → CV) (h : ∀ j, j < 27 → f j = g j) : eMA.rd f = eMA.rd g := by
  show MA.mk _ _ _ _ _ _ _ _ _ _ _ _ = MA.mk _ _ _ _ _ _ _ _ _ _ _ _
  rw [h 0 (by omega), h 1 (by omega), h 2 (by omega), h 19 (by omega), h 20 (by omega), h 21 (by omega), h 22 (by omega), h 23 (by omega), h 24 (by omega), h 25 (by omega), h 26 (by omega)]
  congr 1
  funext q; rw [h (3 + q.1) (by omega)]
theorem mz_congr (f g : Nat → CV) (h : ∀ j, j < 19 → f j = g j) : eMZ.rd f = eMZ.rd g := by
  show MZ.mk _ _ _ _ = MZ.mk _ _ _ _
  rw [h 0 (by omega), h 1 (by omega), h 18 (by omega)]
  congr 1
  funext q; rw [h (2 + q.1) (by omega)]
theorem msg_is {a : MA} {p : List PI} {c : List CI} {z : MZ} {f g : Nat → CV} {np nc : Nat} {P C : Nat → Nat → CV} (h1 : ∀ j, j < 27 → f j = eMA.cell a j) (h2 : toL ePI np P = p) (h3 : toL eCI nc C = c) (h4 : ∀ j, j < 19 → g j = eMZ.cell z j) : (⟨eMA.rd f, toL ePI np P, toL eCI nc C, eMZ.rd g⟩ : Msg) = ⟨a, p, c, z⟩ := by
  rw [ma_congr f _ h1, mz_congr g _ h4, eMA_rd, eMZ_rd, h2, h3]
theorem cl_msg {a : MA} {p c : CV} {z : MZ} (hp : Cl p) (hc : Cl c) (j : Nat) : Cl (msgC a p c z j) := by
  unfold msgC
  cases Nat.blt j 27 with
  | true => exact (eMA.flat _ _).cl
  | false =>
    cases Nat.beq j 27 with
    | true => exact hp
    | false =>
      cases Nat.beq j 28 with
      | true => exact hc
      | false => exact (eMZ.flat _ _).cl
theorem cl_slP (l : List PI) : Cl (slP l) := cl_slB ePI l
theorem cl_slC (l : List CI) : Cl (slC l) := cl_slB eCI l
theorem leN_msg {H H' : Hp} {rho : List (Nat × Option Nat)} {nx : Nat} {t : TypeId} {m : Msg} : LeN ⟨H, H', rho, nx, false⟩ ⟨t, 1, 48, true, fun _ => msgC m.a (slP m.p) (slC m.c) m.z⟩ ⟨t, 1, 48, true, fun _ => msgC m.a (slP m.p) (slC m.c) m.z⟩ :=
  leN_varA fun j _ => leC_cl (cl_msg (cl_slP _) (cl_slC _) j)
theorem toL_P (l : List PI) : toL ePI l.length (rowF ePI l) = l := toL_row ePI_rd l
theorem toL_C (l : List CI) : toL eCI l.length (rowF eCI l) = l := toL_row eCI_rd l
end Go.Proofs.Ythbhidfohdipnaa.AX

/- bytes.Equal for all byte strings; IsBroadcast of the program and of the reference. -/
namespace Go.Proofs.Ythbhidfohdipnaa.AX
open Go.RowKit
set_option linter.unusedVariables false
set_option linter.unusedSimpArgs false
theorem map_u8 : ∀ {x y : List Int}, BL x → BL y → (x.map fun n => UInt8.ofNat n.toNat) = (y.map fun n => UInt8.ofNat n.toNat) → x = y := by
  intro x
  induction x with
  | nil =>
    intro y _ _ h
    cases y with
    | nil => rfl
    | cons b y => cases h
  | cons a x ih =>
    intro y hx hy h
    cases y with
    | nil => cases h
    | cons b y =>
      rw [List.map_cons, List.map_cons, List.cons.injEq] at h
      have ha := hx.m a (List.mem_cons_self ..)
      have hb := hy.m b (List.mem_cons_self ..)
      have h1 := congrArg UInt8.toNat h.1
      rw [UInt8.toNat_ofNat', UInt8.toNat_ofNat'] at h1
      have : a = b := by omega
      rw [this, ih ⟨fun z hz => hx.m z (List.mem_cons_of_mem _ hz)⟩ ⟨fun z hz => hy.m z (List.mem_cons_of_mem _ hz)⟩ h.2]
set_option maxRecDepth 100000 in
theorem bequal2_ok (x y : List Int) (hx : BL x) (hy : BL y) : PureOk Try.prog 50 [(cSl (eI .u8) eI_sz).enc x, (cSl (eI .u8) eI_sz).enc y] (cB.enc (decide (x = y))) := by
  intro X w vals hrel hX
  obtain ⟨v0, v1, rfl⟩ : ∃ v0 v1, vals = #[v0, v1] := by
    have h2 : vals.size = 2 := hrel.1
    match vals, h2 with
    | ⟨[a, b]⟩, _ => exact ⟨a, b, rfl⟩
  have h0 : (CV.sl false x.length 1 (rowF (eI .u8) x)).rel (fun _ => none) X (fun _ => False) w v0 := hrel.2 0 _ v0 rfl rfl
  have h1 : (CV.sl false y.length 1 (rowF (eI .u8) y)).rel (fun _ => none) X (fun _ => False) w v1 := hrel.2 1 _ v1 rfl rfl
  have r0 := conv_str (dst := 9) Try.underlying40 Try.underlying5 Try.underlying9 h0
  have r1 := conv_str (dst := 9) Try.underlying40 Try.underlying5 Try.underlying9 h1
  clear h0 h1 hrel
  obtain ⟨sx, ex⟩ : ∃ s, strOfNums x = s := ⟨_, rfl⟩
  obtain ⟨sy, ey⟩ : ∃ s, strOfNums y = s := ⟨_, rfl⟩
  have hk : (sx.toList == sy.toList) = decide (x = y) := by
    rw [Bool.eq_iff_iff, beq_iff_eq, decide_eq_true_eq, ← ex, ← ey, ByteArray.toList_eq, ByteArray.toList_eq]
    constructor
    · intro h; exact map_u8 hx hy h
    · rintro rfl; rfl
  rw [ex] at r0
  rw [ey] at r1
  clear ex ey
  obtain ⟨bb, hbb⟩ : ∃ bb, decide (x = y) = bb := ⟨_, rfl⟩
  rw [hbb] at hk ⊢
  have key : Calls Try.prog 50 #[v0, v1] w fun e w' => e = .returned (.bool bb) ∧ w' = w := by
    go_enter Try.func50, Try.ntmps50
    go_wp2
    go_ret
    exact ⟨rfl, rfl⟩
  refine key.mono fun e w' ⟨he, hw⟩ => ?_
  subst he hw
  exact ⟨_, rfl, Below.refl _ _, rfl⟩
abbrev beqE : Entry := pureE (AC.cons (cSl eB eB_sz) (AC.cons (cSl eB eB_sz) AC.nil)) (fun a => BL a.1 ∧ BL a.2.1) (fun a => decide (a.1 = a.2.1)) cB.enc
theorem beqE_ok : EntOk Try.prog 50 beqE := pureE_ok ⟨_, Try.func50, rfl, by kernel_rfl⟩ fun a h => bequal2_ok a.1 a.2.1 h.1 h.2
theorem abc_ok (a : Adr) : PureOk Try.prog 38 [(cE eAdr).enc a] (cB.enc (bcast a)) := by
  refine pure_intro (wd := 1) (Q := mkQ LE0) (by decide) tysOk (q_of LE0_ok) mixed Try.func38 rfl _ (by show 1 ≤ _; decide) _ ?_
  repeat' (first | (apply And.intro <;> intro hc <;> (first | exact Bool.noConfusion hc | (simp only [decide_eq_true_eq, decide_eq_false_iff_not, Bool.not_eq_true', Bool.not_eq_false', beq_iff_eq, beq_eq_false_iff_ne, bne_iff_ne, bne_eq_false_iff_eq, Bool.true_eq_false, Bool.false_eq_true] at hc) | skip)) | (refine And.intro (by first | exact trivial | decide | omega | (dsimp only; omega) | exact fun _ _ => rfl) ?_) | (apply And.intro) | (intro s hs))
  refine Done.mk (leF_bool ?_)
  show ((a.mode == 2) && ((a.short == 65535) && ((a.eui == 0) && true))) = bcast a
  simp [bcast, Bool.and_assoc]
theorem rabc_ok (a : Adr) : PureOk Try.prog 26 [(cE eAdr).enc a] (cB.enc (bcast a)) := by
  refine pure_intro (wd := 1) (Q := mkQ LA0) (by decide) tysOk (q_of LA0_ok) mixed Try.func26 rfl _ (by show 1 ≤ _; decide) _ ?_
  repeat' (first | (apply And.intro <;> intro hc <;> (first | exact Bool.noConfusion hc | (simp only [decide_eq_true_eq, decide_eq_false_iff_not, Bool.not_eq_true', Bool.not_eq_false', beq_iff_eq, beq_eq_false_iff_ne, bne_iff_ne, bne_eq_false_iff_eq, Bool.true_eq_false, Bool.false_eq_true, ne_eq, not_true_eq_false] at hc <;> first | exact absurd rfl hc | skip) | skip)) | (refine And.intro (by first | exact trivial | decide | omega | (dsimp only; omega) | exact fun _ _ => rfl | exact ⟨by assumption, by first | exact trivial | decide | omega | (dsimp only; omega)⟩) ?_) | (apply And.intro) | (intro s hs; (have q : s = adrValid a := hs.trans (congrArg adrValid (rd_adr a)); clear hs; subst q)))
  all_goals
    refine Done.mk (leF_bool ?_)
    unfold bcast
    by_cases h2 : a.mode = 2
    · have e : adrValid a = (a.eui == 0) := by
        unfold adrValid
        rw [if_neg (by omega), if_pos h2]
      first
        | (have e3 : (a.eui == 0) = true := e.symm.trans (by assumption)
           clear e
           simp_all; done)
        | (have e3 : (a.eui == 0) = false := e.symm.trans (by assumption)
           clear e
           simp_all)
    · simp_all
abbrev bcE : Entry := pureE (AC.cons (cE eAdr) AC.nil) (fun _ => True) (fun a => bcast a.1) cB.enc
end Go.Proofs.Ythbhidfohdipnaa.AX

/- Layer 20 by AX2: the reference's small functions. -/
namespace Go.Proofs.Ythbhidfohdipnaa.AX
open Go.RowKit
set_option linter.unusedVariables false
set_option linter.unusedSimpArgs false
theorem rdup_ok (t : Int) : PureOk Try.prog 40 [(cI .u8).enc t] (cB.enc (decide (isDup t))) := by
  refine pure_intro (wd := 1) (Q := mkQ LE0) (by decide) tysOk (q_of LE0_ok) mixed Try.func40 rfl _ (by show 1 ≤ _; decide) _ ?_
  repeat' (first | (apply And.intro <;> intro hc <;> (first | exact Bool.noConfusion hc | (simp only [decide_eq_true_eq, decide_eq_false_iff_not, Bool.not_eq_true', Bool.not_eq_false', beq_iff_eq, beq_eq_false_iff_ne, bne_iff_ne, bne_eq_false_iff_eq, Bool.true_eq_false, Bool.false_eq_true] at hc) | skip)) | (refine And.intro (by first | exact trivial | decide | omega | (dsimp only; omega) | exact fun _ _ => rfl) ?_) | (apply And.intro) | (intro s hs))
  all_goals (refine Done.mk (leF_bool ?_); rw [Bool.eq_iff_iff]; simp [isDup, *])
theorem rnb_ok (t : Int) : PureOk Try.prog 39 [(cI .u8).enc t] (cB.enc (decide (isNb t))) := by
  refine pure_intro (wd := 1) (Q := mkQ LE0) (by decide) tysOk (q_of LE0_ok) mixed Try.func39 rfl _ (by show 1 ≤ _; decide) _ ?_
  repeat' (first | (apply And.intro <;> intro hc <;> (first | exact Bool.noConfusion hc | (simp only [decide_eq_true_eq, decide_eq_false_iff_not, Bool.not_eq_true', Bool.not_eq_false', beq_iff_eq, beq_eq_false_iff_ne, bne_iff_ne, bne_eq_false_iff_eq, Bool.true_eq_false, Bool.false_eq_true] at hc) | skip)) | (refine And.intro (by first | exact trivial | decide | omega | (dsimp only; omega) | exact fun _ _ => rfl) ?_) | (apply And.intro) | (intro s hs))
  all_goals (refine Done.mk (leF_bool ?_); rw [Bool.eq_iff_iff]; simp [isNb, *])
theorem rbit_ok (b : Bool) (v : Int) : PureOk Try.prog 61 [cB.enc b, (cI .u8).enc v] ((cI .u8).enc (fB b v)) := by
  refine pure_intro (wd := 1) (Q := mkQ LE0) (by decide) tysOk (q_of LE0_ok) mixed Try.func61 rfl _ (by show 2 ≤ _; decide) _ ?_
  repeat' (first | (apply And.intro <;> intro hc <;> (first | exact Bool.noConfusion hc | (simp only [decide_eq_true_eq, decide_eq_false_iff_not, Bool.not_eq_true', Bool.not_eq_false', beq_iff_eq, beq_eq_false_iff_ne, bne_iff_ne, bne_eq_false_iff_eq, Bool.true_eq_false, Bool.false_eq_true] at hc) | skip)) | (refine And.intro (by first | exact trivial | decide | omega | (dsimp only; omega) | exact fun _ _ => rfl) ?_) | (apply And.intro) | (intro s hs))
  all_goals (refine Done.mk (leF_int ?_); simp [fB, *])
theorem rnum_ok (b : List Int) (a n : Int) (hb : BL b) (hl : b.length ≤ 140737488355328) : PureOk Try.prog 67 [(cSl eB eB_sz).enc b, (cI .i64).enc a, (cI .i64).enc n] ((cI .u64).enc (uintF b a n).1) := by
  refine pure_intro (wd := 1) (Q := mkQ LSm) (by decide) tysOk (q_of LSm_ok) mixed Try.func67 rfl _ (by show 3 ≤ _; decide) _ ?_
  repeat' (first | (apply And.intro <;> intro hc <;> (first | exact Bool.noConfusion hc | (simp only [decide_eq_true_eq, decide_eq_false_iff_not, Bool.not_eq_true', Bool.not_eq_false', beq_iff_eq, beq_eq_false_iff_ne, bne_iff_ne, bne_eq_false_iff_eq, Bool.true_eq_false, Bool.false_eq_true, ne_eq, not_true_eq_false] at hc <;> first | exact absurd rfl hc | skip) | skip)) | (refine And.intro (by first | exact trivial | decide | omega | (dsimp only; omega) | exact fun _ _ => rfl | exact ⟨by assumption, by first | exact trivial | decide | omega | (dsimp only; omega)⟩) ?_) | (apply And.intro) | (intro s hs; (have q : s = uintF b a n := hs.trans (congrArg (fun l => uintF l a n) (toL_b b)); clear hs; subst q)))
  all_goals first
    | (dsimp only; rw [toL_b]; exact hb)
    | (dsimp only; rw [toL_b]; exact hl)
    | exact Done.mk (leF_int rfl)
abbrev nbE : Entry := pureE (AC.cons (cI .u8) AC.nil) (fun _ => True) (fun a => decide (isNb a.1)) cB.enc
abbrev dupE : Entry := pureE (AC.cons (cI .u8) AC.nil) (fun _ => True) (fun a => decide (isDup a.1)) cB.enc
abbrev numE : Entry := pureE uintA (fun a => BL a.1 ∧ a.1.length ≤ 140737488355328) (fun a => (uintF a.1 a.2.1 a.2.2.1).1) (cI .u64).enc
abbrev bitE : Entry := pureE (AC.cons cB (AC.cons (cI .u8) AC.nil)) (fun _ => True) (fun a => fB a.1 a.2.1) (cI .u8).enc
def LDr0 : CsL := (40, some dupE) :: (39, some nbE) :: (61, some bitE) :: (67, some numE) :: (LSm ++ LR2)
theorem LDr0_ok : AllOk Try.prog LDr0 := ⟨pureE_ok ⟨_, Try.func40, rfl, by kernel_rfl⟩ fun a _ => rdup_ok a.1, pureE_ok ⟨_, Try.func39, rfl, by kernel_rfl⟩ fun a _ => rnb_ok a.1, pureE_ok ⟨_, Try.func61, rfl, by kernel_rfl⟩ fun a _ => rbit_ok a.1 a.2.1,
  pureE_ok ⟨_, Try.func67, rfl, by kernel_rfl⟩ fun a h => rnum_ok a.1 a.2.1 a.2.2.1 h.1 h.2, append_ok LSm_ok LR2_ok⟩
theorem ofB_lo (x y : Int) {j : Nat} (h : j < 8) : ofB x y j = byteM x 8 j := by
  unfold ofB byteM
  rw [blt_lt h, cond_true, show ((j % 8 : Nat) : Int) = (j : Int) by omega]
  congr 2; omega
theorem ofB_hi (x y : Int) {j : Nat} (h : 8 ≤ j) (h2 : j < 16) : ofB x y j = byteM y 8 (j - 8) := by
  unfold ofB byteM
  rw [blt_no h, cond_false, show ((j % 8 : Nat) : Int) = (j : Int) - 8 by omega]
  congr 2; omega
theorem nm_byte {b : List Int} (hb : BL b) {a k : Nat} (hk : k < 8) : byteM (nmL b a 8) 8 k = if a + 8 ≤ b.length then b.getD (a + k) default else 0 := by
  unfold nmL uintF
  by_cases h : a + 8 ≤ b.length
  · rw [if_pos ⟨by omega, by omega, by omega, by omega⟩, if_pos h]
    show byteM (beVal ((b.drop a).take 8)) 8 k = _
    have hw : ((b.drop a).take 8).length = 8 := by rw [List.length_take, List.length_drop]; omega
    have e : beM (beVal ((b.drop a).take 8)) 8 = (b.drop a).take 8 := (beM_eq _ _ (Nat.le_refl _)).trans (beN_beVal 8 _ ((hb.drop a).take 8) hw)
    rw [← getD_dt b a 8 k hk h]
    conv => rhs; rw [← e]
    unfold beM
    rw [List.getD_eq_getElem?_getD, List.getElem?_map, List.getElem?_range hk]; rfl
  · rw [if_neg (by omega), if_neg h]
    show byteM 0 8 k = 0
    rw [byteM_eq _ _ _ hk (Nat.le_refl _), Int.zero_ediv]; rfl
theorem of_nm {b : List Int} (hb : BL b) (a : Nat) : ofF (nmL b a 8) (nmL b (a + 8) 8) = ipF b a := by
  funext i
  have hi := i.2
  unfold ofF ipF
  by_cases h : i.1 < 8
  · rw [if_pos h, ofB_lo _ _ h, nm_byte hb h]
  · rw [if_neg h, ofB_hi _ _ (by omega) hi, nm_byte hb (by omega), show a + 8 + 8 = a + 16 by omega, show a + 8 + (i.1 - 8) = a + i.1 by omega]
theorem rip_ok (b : List Int) (a : Nat) (hb : BL b) (hl : b.length ≤ 140737488355328) (ha : a ≤ 140737488355328) : PureOk Try.prog 82 [(cSl eB eB_sz).enc b, (cI .i64).enc a] ((cE (eA .u8 16)).enc (ipF b a)) := by
  have w1 : IntKind.i64.wrap ((a : Int) + 8) = ((a + 8 : Nat) : Int) := by rw [IntWalk.i64_in _ (by omega)]; omega
  obtain ⟨N1, e1⟩ : ∃ N, nmL b a 8 = N := ⟨_, rfl⟩
  obtain ⟨N2, e2⟩ : ∃ N, nmL b (a + 8) 8 = N := ⟨_, rfl⟩
  have e3 := of_nm hb a
  rw [e1, e2] at e3
  rw [← e3]
  have g1 : True := trivial
  have g2 : True := trivial
  refine pure_intro (wd := 1) (Q := mkQ LDr0) (by decide) tysOk (q_of LDr0_ok) mixed Try.func82 rfl _ (by show 2 ≤ _; decide) _ ?_
  repeat' (first | (apply And.intro <;> intro hc <;> (first | exact Bool.noConfusion hc | (simp only [decide_eq_true_eq, decide_eq_false_iff_not, Bool.not_eq_true', Bool.not_eq_false', beq_iff_eq, beq_eq_false_iff_ne, bne_iff_ne, bne_eq_false_iff_eq, Bool.true_eq_false, Bool.false_eq_true, ne_eq, not_true_eq_false] at hc <;> first | exact absurd rfl hc | skip) | skip)) | (refine And.intro (by first | exact trivial | decide | omega | (dsimp only; omega) | exact fun _ _ => rfl | exact ⟨by assumption, by first | exact trivial | decide | omega | (dsimp only; omega)⟩) ?_) | (apply And.intro) | (intro s hs; (first | (clear g1; have q : N1 = s := e1.symm.trans (hs.trans (congrArg (fun l => (uintF l (a : Int) 8).1) (toL_b b))).symm; clear hs; subst q) | (clear g2; have q : N2 = s := e2.symm.trans (hs.trans (by dsimp only; rw [toL_b, w1]; rfl)).symm; clear hs; subst q) | skip)))
  all_goals first
    | (dsimp only; rw [toL_b]; exact hb)
    | (dsimp only; rw [toL_b]; exact hl)
    | (have q : s = ofF N1 N2 := hs; subst q; exact Done.mk (leF_e (leE_all (by repeat' (first | exact trivial | exact rfl | exact leC_int rfl | exact leC_bool rfl | refine leE_all ?_ | exact leC_bool (by assumption) | apply And.intro)))))
    | exact Done.mk (leF_e (leE_all (by repeat' (first | exact trivial | exact rfl | exact leC_int rfl | exact leC_bool rfl | refine leE_all ?_ | exact leC_bool (by assumption) | apply And.intro))))
abbrev ripE : Entry := pureE (AC.cons (cSl eB eB_sz) (AC.cons (cI .i64) AC.nil)) (fun a => BL a.1 ∧ a.1.length ≤ 140737488355328 ∧ 0 ≤ a.2.1 ∧ a.2.1 ≤ 140737488355328) (fun a => ipF a.1 a.2.1.toNat) (cE (eA .u8 16)).enc
def LDr1 : CsL := (82, some ripE) :: LDr0
theorem LDr1_ok : AllOk Try.prog LDr1 := ⟨pureE_ok ⟨_, Try.func82, rfl, by kernel_rfl⟩ fun a h => by
    have := rip_ok a.1 a.2.1.toNat h.1 h.2.1 (by omega)
    rw [show ((a.2.1.toNat : Nat) : Int) = a.2.1 by omega] at this
    exact this, LDr0_ok⟩
end Go.Proofs.Ythbhidfohdipnaa.AX

/- Joins: a run is cut between two parts of a sequence; behind the cut one state stands for all ways. -/
namespace Go.Proofs.Ythbhidfohdipnaa.AX
open Go.RowKit
set_option linter.unusedVariables false
set_option linter.unusedSimpArgs false
/-- The code runs soundly from the state at hand to K. -/
structure Sem (P : Program) (nt np : Nat) (c : Code) (fr : Fr) (H : Hp) (nx : Nat) (K : Kt) : Prop where
  run : ∀ (cx : Cx) (fx : Ren), (∀ k b, cx.pin k = some b → k < np) → ∀ a w, Is cx nt np fx fr H nx a w → c.wp P (lift cx nt np fx K) a w
section
variable {P : Program} {T : Tys} {Q : Qs} {wd nt np : Nat}
theorem sem_exec (hwd : 0 < wd) (hT : TysOk P T) (hQ : QsOk P Q) (hm : P.follows .mixedOrders = true) {c : Code} {fr : Fr} {H : Hp} {nx : Nat} {K : Kt} (h : exec T Q wd nt np c fr H nx K) : Sem P nt np c fr H nx K :=
  ⟨fun cx fx hpin => exec_ok hwd hT hQ hm hpin c fr H nx K h⟩
theorem sem_seq {a b : Code} {fr : Fr} {H : Hp} {nx : Nat} {K : Kt} (h : Sem P nt np a fr H nx (seqK (fun fr H nx => Sem P nt np b fr H nx K) K)) : Sem P nt np (.seq a b) fr H nx K := by
  refine ⟨fun cx fx hpin a' w hs => ?_⟩
  refine wp_seq (wp_mono (h.run cx fx hpin a' w hs) fun e a2 w2 hq => ?_)
  obtain ⟨fr', H', nx', hk, hs'⟩ := hq
  cases e <;> first | exact ⟨fr', H', nx', hk, hs'⟩ | exact hk.run cx fx hpin a2 w2 hs'
theorem sem_to {σ : Type} (S : σ → Hd) (s : σ) (rho : List (Nat × Option Nat)) {c : Code} {fr : Fr} {H : Hp} {nx : Nat} {K : Kt} (hnp : Nat.ble np (S s).nx = true) (h0 : To S np fr H s rho) (h : Sem P nt np c (S s).fr (S s).H (S s).nx K) : Sem P nt np c fr H nx K := by
  refine ⟨fun cx fx hpin a w hs => ?_⟩
  obtain ⟨r, st, hf, hnm, hts, hdf, hnp', hfx⟩ := hs
  obtain ⟨g1, g2, g3, g4⟩ := weaken (c := ⟨H, (S s).H, rho, (S s).nx, false⟩) st hf hpin hnp h0.1 rfl h0.2.1 h0.2.2
  exact h.run cx fx hpin a w ⟨_, g1, g2, g3, hts, hdf, Nat.le_of_ble_eq_true hnp, fun k hk => (g4 k hk).trans (hfx k hk)⟩
/-- The cut: the first part runs to some state S s, the second one from each of them to the end. -/
theorem sem_cut (hwd : 0 < wd) (hT : TysOk P T) (hQ : QsOk P Q) (hM : QsMono Q) (hm : P.follows .mixedOrders = true) {a b : Code} {fr : Fr} {H : Hp} {nx : Nat} {K : Kt} {σ : Type} (S : σ → Hd) (hnp : ∀ s, Nat.ble np (S s).nx = true)
    (h1 : exec T Q wd nt np a fr H nx (seqK (fun fr H _ => ∃ s rho, To S np fr H s rho) K)) (h2 : ∀ s, Sem P nt np b (S s).fr (S s).H (S s).nx K) : Sem P nt np (.seq a b) fr H nx K := by
  refine sem_seq (sem_exec hwd hT hQ hm (exec_mono hM a _ _ (seqK_mono (fun fr H nx h => ?_) (fun _ _ _ _ h => h)) _ _ _ h1))
  obtain ⟨s, rho, h⟩ := h
  exact sem_to S s rho (hnp s) h (h2 s)
/-- A part of a sequence is walked, the rest stays. -/
theorem sem_step (hwd : 0 < wd) (hT : TysOk P T) (hQ : QsOk P Q) (hm : P.follows .mixedOrders = true) {a b : Code} {fr : Fr} {H : Hp} {nx : Nat} {K : Kt} (h : exec T Q wd nt np a fr H nx (seqK (fun fr H nx => Sem P nt np b fr H nx K) K)) : Sem P nt np (.seq a b) fr H nx K := sem_seq (sem_exec hwd hT hQ hm h)
theorem fn_runS {cx : Cx} {f : FuncId} (hT : TysOk P T) {fn : Func} {c : Code} (hf : P.funcs[f]? = some fn) (hb : fn.body = some c) {args : List FV} (hn : args.length ≤ fn.ntmps) {H0 : Hp} {post : FV → Hp → Nat → Prop}
    (h : Sem P fn.ntmps np c (argFr args 0) H0 np (endH T fn.results.toList post)) (hpin : ∀ k b, cx.pin k = some b → k < np) {r : Ren} {w : World} {vals : Array Value} (st : St cx r H0 w) (hrel : RelL r cx.X (wr r H0) w args vals) (hnm : ∀ k, np ≤ k → r k = none ∧ hget H0 k = none) :
    Calls P f vals w fun e w' => ∃ v r' x Hf nf, e = .returned v ∧ post x Hf nf ∧ St cx r' Hf w' ∧ (∀ k, nf ≤ k → r' k = none ∧ hget Hf k = none) ∧ x.rel r' cx.X (wr r' Hf) w' v ∧ ∀ k, k < np → r' k = r k := by
  refine calls_of_wp hf hb ?_
  have hsz : vals.size = args.length := hrel.1
  have fr0 : FrOk cx r H0 w (argFr args 0) (vals ++ Array.replicate (fn.ntmps - vals.size) undef) := by
    intro t
    rw [argFr_get, if_pos (Nat.zero_le _), Nat.sub_zero]
    cases hx : args[t]? with
    | none => trivial
    | some x =>
      have hlt : t < vals.size := by rw [hsz]; exact (List.getElem?_eq_some_iff.1 hx).1
      have hv : vals[t]? = some vals[t] := Array.getElem?_eq_getElem hlt
      have e1 : (vals ++ Array.replicate (fn.ntmps - vals.size) undef).getD t undef = vals[t] := by
        rw [Array.getD_eq_getD_getElem?, Array.getElem?_append_left hlt, hv]; rfl
      rw [e1]
      exact hrel.2 t x _ hx hv
  refine wp_mono (h.run cx r hpin _ w ⟨_, st, fr0, hnm, by simp; omega, rfl, Nat.le_refl _, fun _ _ => rfl⟩) fun e a' w' hq => ?_
  obtain ⟨fr, H, nx, hk, r', st', hfr, hnm', _, hdf, _, hfx'⟩ := hq
  have main : ∀ l, resL T fr H fn.results.toList = some l → post (asF l) H nx → a'.defers = [] ∧ ∃ v, (results fn a'.tmps).run P w' = .ok v w' ∧ ∃ u r' x Hf nf, Ending.returned v = .returned u ∧ post x Hf nf ∧ St cx r' Hf w' ∧ (∀ k, nf ≤ k → r' k = none ∧ hget Hf k = none) ∧ x.rel r' cx.X (wr r' Hf) w' u ∧ ∀ k, k < np → r' k = r k := by
    intro l hl hp
    obtain ⟨v, g1, g2⟩ := results_ok hT st' hfr hl
    exact ⟨hdf, v, g1, v, r', _, H, nx, rfl, hp, st', hnm', g2, hfx'⟩
  cases e with
  | ret =>
    simp only [endH] at hk
    split at hk
    · rename_i l hl; exact main l hl hk
    · exact hk.elim
  | normal =>
    simp only [endH] at hk
    split at hk
    · rename_i l hl; exact main l hl hk
    · exact hk.elim
  | exit => exact hk.elim
  | goto => exact hk.elim
  | panic => exact hk.elim
  | outgrown => exact hk.elim
theorem pure_introS (hT : TysOk P T) {f : FuncId} {fn : Func} {c : Code} (hf : P.funcs[f]? = some fn) (hb : fn.body = some c) (args : List FV) (hn : args.length ≤ fn.ntmps) (spec : FV)
    (h : Sem P fn.ntmps 0 c (argFr args 0) [] 0 (endH T fn.results.toList fun x H _ => Done H x spec)) : PureOk P f args spec := by
  intro X w vals hrel hX
  have hrel' : RelL (fun _ => none) X (wr (fun _ => none) []) w args vals := by rw [wr_nil]; exact hrel
  refine (fn_runS hT hf hb hn h (fun _ _ h => by cases h) (st_start hX) hrel' (fun _ _ => ⟨rfl, rfl⟩)).mono fun e w' he => ?_
  obtain ⟨v, r', x, Hf, nf, rfl, hfin, st, _, hx, _⟩ := he
  refine ⟨v, rfl, ⟨st.os, st.tape, st.output, st.size, fun b hb => st.kept b hb id⟩, ?_⟩
  have h1 := hfin.le (fun k e' h => by cases h) _ r' w' v st hx
  rw [ren_nil] at h1
  refine FV.rel_w (fun b hb => ?_) _ _ h1
  exact .inr ⟨rfl, hb⟩
end
end Go.Proofs.Ythbhidfohdipnaa.AX

/- Writers: functions that write behind a byte string that a variable of the caller's holds; their contract. -/
namespace Go.Proofs.Ythbhidfohdipnaa.AX
open Go.RowKit
set_option linter.unusedVariables false
set_option linter.unusedSimpArgs false
def at2 (x : Bi) (o : Option Bi) : Ren := fun k => if k = 0 then some x else if k = 1 then o else none
def in2 (x : Bi) (o : Option Bi) (b : Nat) : Prop := b = x.b ∨ ∃ y, o = some y ∧ y.b = b
/-- A variable that holds the slice of the block k. -/
def wvar (t : TypeId) (k n : Nat) : Ent := ⟨t, 1, 1, true, fun _ _ => .os k 0 n⟩
structure FlatEnt (e : Ent) : Prop where
  f : ∀ i j, FlatC (e.f i j)
theorem at2_0 {x : Bi} {o : Option Bi} : at2 x o 0 = some x := if_pos rfl
theorem at2_1 {x : Bi} {o : Option Bi} : at2 x o 1 = o := by
  unfold at2
  rw [if_neg (by decide), if_pos rfl]
theorem at2_no {x : Bi} {o : Option Bi} {k : Nat} (h : 2 ≤ k) : at2 x o k = none := by
  unfold at2
  rw [if_neg (by omega), if_neg (by omega)]
def WrOk (P : Program) (f : FuncId) (t : TypeId) (rest : List FV) (e e' : Ent) : Prop :=
  ∀ X w (x : Bi) (o : Option Bi) (vals : Array Value), x.b < w.heap.size → ¬ X x.b → (∀ y, o = some y → y.b < w.heap.size ∧ ¬ X y.b ∧ y.b ≠ x.b) → Xw (fun b => X b ∨ in2 x o b) w →
    EntIn (at2 x o) X (in2 x o) w (wvar t 1 e.n) (some x) w.heap → EntIn (at2 x o) X (in2 x o) w e o w.heap → RelL (at2 x o) X (in2 x o) w (.e (.c (.ptr 0 0 0 false)) :: rest) vals →
    Calls P f vals w fun en w' => ∃ v o', en = .returned v ∧ w'.os = w.os ∧ w'.tape = w.tape ∧ w'.output = w.output ∧ w.heap.size ≤ w'.heap.size ∧ (∀ b, b < w.heap.size → ¬ in2 x o b → w'.heap[b]? = w.heap[b]?) ∧
      (∀ y, o' = some y → (w.heap.size ≤ y.b ∨ ∃ z, o = some z ∧ z.b = y.b) ∧ y.b < w'.heap.size ∧ y.b ≠ x.b ∧ ¬ X y.b) ∧
      EntIn (at2 x o') X (fun b => X b ∨ in2 x o' b) w' (wvar t 1 e'.n) (some x) w'.heap ∧ EntIn (fun _ => none) X (fun b => X b ∨ in2 x o' b) w' e' o' w'.heap ∧ v = .tuple #[]
/-- The end of such a function. -/
structure FinW (t : TypeId) (e' : Ent) (x : FV) (H : Hp) : Prop where
  ex : ∃ rho, x = .tup [] ∧ WkE ⟨H, [(0, some (wvar t 1 e'.n)), (1, some e')], [(1, rho)], 2, true⟩ (wvar t 1 e'.n) (some 0) ∧ WkE ⟨H, [(0, some (wvar t 1 e'.n)), (1, some e')], [(1, rho)], 2, true⟩ e' rho
section
variable {P : Program} {T : Tys} {Q : Qs} {wd : Nat}
theorem wr_introS (hT : TysOk P T) {f : FuncId} {fn : Func} {c : Code} (hf : P.funcs[f]? = some fn) (hb : fn.body = some c) (rest : List FV) (hn : rest.length + 1 ≤ fn.ntmps) {t : TypeId} {e e' : Ent}
    (hfl : FlatEnt e') (hv : e'.v = false) (h : Sem P fn.ntmps 2 c (argFr (.e (.c (.ptr 0 0 0 false)) :: rest) 0) [(0, some (wvar t 1 e.n)), (1, some e)] 2 (endH T fn.results.toList fun x H _ => FinW t e' x H)) : WrOk P f t rest e e' := by
  intro X w x o vals hxb hxX ho hX hE0 hE1 hrel
  have hwr : wr (at2 x o) [(0, some (wvar t 1 e.n)), (1, some e)] = in2 x o := by
    funext b
    apply propext
    constructor
    · rintro ⟨k, e1, y, he, hy, rfl⟩
      unfold at2 at hy
      split at hy
      · injection hy with hy; exact .inl (by rw [hy])
      · split at hy
        · exact .inr ⟨y, hy, rfl⟩
        · cases hy
    · rintro (rfl | ⟨y, hy, rfl⟩)
      · exact ⟨0, _, x, look_cons_eq _ _ _ _, at2_0, rfl⟩
      · exact ⟨1, e, y, (look_cons_ne _ _ _ (by decide)).trans (look_cons_eq _ _ _ _), by rw [at2_1]; exact hy, rfl⟩
  have hg : ∀ k e1, hget [(0, some (wvar t 1 e.n)), (1, some e)] k = some e1 → (k = 0 ∧ e1 = wvar t 1 e.n) ∨ (k = 1 ∧ e1 = e) := fun k e1 h => by
    by_cases h0 : k = 0
    · subst h0
      have : hget [(0, some (wvar t 1 e.n)), (1, some e)] 0 = some (wvar t 1 e.n) := look_cons_eq _ _ _ _
      rw [this] at h; injection h with h; exact .inl ⟨rfl, h.symm⟩
    · by_cases h1 : k = 1
      · subst h1
        have : hget [(0, some (wvar t 1 e.n)), (1, some e)] 1 = some e := (look_cons_ne _ _ _ (by decide)).trans (look_cons_eq _ _ _ _)
        rw [this] at h; injection h with h; exact .inr ⟨rfl, h.symm⟩
      · have : hget [(0, some (wvar t 1 e.n)), (1, some e)] k = none := (look_cons_ne _ _ _ h0).trans (look_cons_ne _ _ _ h1)
        rw [this] at h; cases h
  have hat : ∀ k y, at2 x o k = some y → (k = 0 ∧ y = x) ∨ (k = 1 ∧ o = some y) := fun k y hy => by
    unfold at2 at hy
    split at hy
    · injection hy with hy; exact .inl ⟨by assumption, hy.symm⟩
    · split at hy
      · exact .inr ⟨by assumption, hy⟩
      · cases hy
  have st0 : St ⟨w, in2 x o, in2 x o, X, at2 x o⟩ (at2 x o) [(0, some (wvar t 1 e.n)), (1, some e)] w := by
    refine ⟨rfl, rfl, rfl, Nat.le_refl _, fun _ _ _ => rfl, ⟨fun b hb => hX.1 b (.inl hb), glob_more hX.2 fun p _ h => h.elim .inl fun h => h.elim .inr .inr⟩, fun k y hy => ?_, fun k e1 y _ hy => ?_, fun n m e1 e2 y z _ _ hy hz hyz => ?_, fun k b hk => hk, fun k e1 he1 => ?_⟩
    · rcases hat k y hy with ⟨_, rfl⟩ | ⟨_, h1⟩
      · exact ⟨hxb, .inr (.inl rfl), hxX⟩
      · exact ⟨(ho y h1).1, .inr (.inr ⟨y, h1, rfl⟩), (ho y h1).2.1⟩
    · rcases hat k y hy with ⟨_, rfl⟩ | ⟨_, h1⟩
      · exact .inr (.inl rfl)
      · exact .inr (.inr ⟨y, h1, rfl⟩)
    · rcases hat n y hy with ⟨rfl, rfl⟩ | ⟨rfl, h1⟩
      · rcases hat m z hz with ⟨rfl, rfl⟩ | ⟨rfl, h2⟩
        · rfl
        · exact absurd hyz.symm (ho z h2).2.2
      · rcases hat m z hz with ⟨rfl, rfl⟩ | ⟨rfl, h2⟩
        · exact absurd hyz (ho y h1).2.2
        · rfl
    · rw [hwr]
      rcases hg k e1 he1 with ⟨rfl, rfl⟩ | ⟨rfl, rfl⟩
      · exact hE0
      · rw [at2_1]; exact hE1
  refine (fn_runS (np := 2) hT hf hb (by simpa using hn) h (fun k b hk => by rcases hat k b hk with ⟨rfl, _⟩ | ⟨rfl, _⟩ <;> omega) st0 (by rw [hwr]; exact hrel)
    (fun k hk => ⟨at2_no hk, (look_cons_ne _ _ _ (by omega)).trans (look_cons_ne _ _ _ (by omega))⟩)).mono fun en w' he => ?_
  obtain ⟨v, r', y, Hf, nf, rfl, ⟨rho, rfl, hw0, hw1⟩, st, _, hy, _⟩ := he
  have hr0 : r' 0 = some x := st.pin 0 x (at2_0 (o := o))
  have hsrc : ∀ k, Wc.src ⟨Hf, [(0, some (wvar t 1 e'.n)), (1, some e')], [(1, rho)], 2, true⟩ k = if k = 0 then some 0 else if k = 1 then rho else none := fun k => by
    unfold Wc.src
    simp only [lookR]
    by_cases h1 : k = 1
    · subst h1; simp
    · have h2 : Nat.beq k 1 = false := by
        cases hb : Nat.beq k 1 with
        | false => rfl
        | true => exact absurd (Nat.eq_of_beq_eq_true hb) h1
      rw [h2]
      by_cases h0 : k = 0
      · subst h0; rfl
      · have h3 : Nat.blt k 2 = false := by
          cases hb : Nat.blt k 2 with
          | false => rfl
          | true => have := Nat.le_of_ble_eq_true hb; omega
        simp [h3, h0, h1]
  have hren : Wc.ren ⟨Hf, [(0, some (wvar t 1 e'.n)), (1, some e')], [(1, rho)], 2, true⟩ r' = at2 x (rho.bind r') := by
    funext k
    unfold Wc.ren at2
    rw [hsrc]
    by_cases h0 : k = 0
    · rw [if_pos h0, if_pos h0]; exact hr0
    · rw [if_neg h0, if_neg h0]
      by_cases h1 : k = 1
      · rw [if_pos h1, if_pos h1]; cases rho <;> rfl
      · rw [if_neg h1, if_neg h1]
  unfold WkE at hw0
  simp only at hw0
  split at hw0
  · rename_i e2 hh
    have hw1' := hw1
    have hlive : Wc.Live ⟨Hf, [(0, some (wvar t 1 e'.n)), (1, some e')], [(1, rho)], 2, true⟩ := fun k e1 he1 k0 hk0 => by
      rw [hsrc] at hk0
      split at hk0
      · injection hk0 with hk0; subst hk0; exact ⟨e2, hh⟩
      · split at hk0
        · subst hk0
          unfold WkE at hw1
          simp only at hw1
          split at hw1
          · rename_i e3 hh3; exact ⟨e3, hh3⟩
          · exact hw1.elim
        · cases hk0
    have hwr2 : ∀ b, X b ∨ in2 x (rho.bind r') b → Wc.wr ⟨Hf, [(0, some (wvar t 1 e'.n)), (1, some e')], [(1, rho)], 2, true⟩ ⟨w, in2 x o, in2 x o, X, at2 x o⟩ r' b := fun b hb => by
      rcases hb with hb | rfl | ⟨z, hz, hzb⟩
      · exact .inr ⟨rfl, hb⟩
      · exact .inl ⟨0, _, x, look_cons_eq _ _ _ _, by rw [hren]; exact at2_0, rfl⟩
      · exact .inl ⟨1, e', z, (look_cons_ne _ _ _ (by decide)).trans (look_cons_eq _ _ _ _), by rw [hren, at2_1]; exact hz, hzb⟩
    refine ⟨v, rho.bind r', rfl, st.os, st.tape, st.output, st.size, fun b hb hne => st.kept b hb hne, fun y' hy' => ?_, ?_, ?_, ?_⟩
    · cases rho with
      | none => cases hy'
      | some j =>
        have hj : r' j = some y' := hy'
        unfold WkE at hw1
        simp only at hw1
        split at hw1
        · rename_i e3 hh3
          obtain ⟨d1, d2, d3⟩ := st.dom j y' hj
          have hne : y'.b ≠ x.b := fun heq => by
            have := st.inj 0 j e2 e3 x y' hh hh3 hr0 hj heq.symm
            subst this
            rw [hh] at hh3
            injection hh3 with hh3
            subst hh3
            have h1 := hw0.v
            have h2 := hw1.v
            rw [h1] at h2
            rw [hv] at h2
            cases h2
          refine ⟨?_, d1, hne, d3⟩
          rcases d2 with d2 | d2 | ⟨z, hz, hzb⟩
          · exact .inl d2
          · exact absurd d2 hne
          · exact .inr ⟨z, hz, hzb⟩
        · exact hw1.elim
    · exact (st.blk 0 e2 hh).map hw0.t hw0.n hw0.sz hw0.v hr0 (fun _ _ => rfl) fun i hi j' hj u hu => by
        have h1 := hw0.f i hi j' hj hlive _ r' w' u st hu
        rw [hren] at h1
        exact CV.rel_w hwr2 _ _ h1
    · cases rho with
      | none =>
        obtain ⟨g1, g2, g3⟩ := hw1'
        exact ⟨g3, (fun h => by rw [g2] at h; cases h), .inl ⟨rfl, g1⟩⟩
      | some j =>
        unfold WkE at hw1
        simp only at hw1
        split at hw1
        · rename_i e3 hh3
          exact (st.blk j e3 hh3).map hw1.t hw1.n hw1.sz hw1.v rfl (fun _ _ => rfl) fun i hi j' hj u hu => by
            have h1 := hw1.f i hi j' hj hlive _ r' w' u st hu
            exact hfl.f _ _ _ _ _ _ _ _ _ _ _ h1
        · exact hw1.elim
    · obtain ⟨vs, rfl, hs, _⟩ := hy
      have : vs = #[] := by
        apply Array.eq_empty_of_size_eq_zero
        simpa using hs
      rw [this]
  · exact hw0.elim
theorem wr_intro (hwd : 0 < wd) (hT : TysOk P T) (hQ : QsOk P Q) (hm : P.follows .mixedOrders = true) {f : FuncId} {fn : Func} {c : Code} (hf : P.funcs[f]? = some fn) (hb : fn.body = some c) (rest : List FV) (hn : rest.length + 1 ≤ fn.ntmps) {t : TypeId} {e e' : Ent}
    (hfl : FlatEnt e') (hv : e'.v = false) (h : exec T Q wd fn.ntmps 2 c (argFr (.e (.c (.ptr 0 0 0 false)) :: rest) 0) [(0, some (wvar t 1 e.n)), (1, some e)] 2 (endH T fn.results.toList fun x H _ => FinW t e' x H)) : WrOk P f t rest e e' := wr_introS hT hf hb rest hn hfl hv (sem_exec hwd hT hQ hm h)
end
/-- The slice's name, if it has one. -/
def wrNew (t : TypeId) (k nm : Nat) (e' : Ent) (oj : Option Nat) : Hp := (k, some (wvar t nm e'.n)) :: (nm, some e') :: (match oj with
  | some j => [(j, none)]
  | none => [])
structure SlAt (H : Hp) (c : CV) (k : Nat) (e : Ent) (rd : List Nat) (oj : Option Nat) : Prop where
  at_ : match oj with
    | some j => c = .os j 0 e.n ∧ j ∉ rd ∧ j ≠ k ∧ ∃ e0, hget H j = some e0 ∧ e0.t = e.t ∧ e0.n = e.n ∧ e0.sz = e.sz ∧ e0.v = e.v ∧ ∀ i, i < e.n → ∀ q, q < e.sz → e0.f i q = e.f i q
    | none => c = .nils ∧ e.n = 0 ∧ 0 < e.sz ∧ e.v = false
theorem callR_wr {P : Program} {f : FuncId} (hb : hasBody P f) {k nm wd : Nat} {s : Bool} {t : TypeId} {oj : Option Nat} {fv : Nat → Nat → CV} {rest rest' : List FV} {H : Hp} {rd : List Nat} {e e' : Ent} (hwd : 0 < wd)
    (hk : hget H k = some ⟨t, 1, 1, true, fv⟩) (hkr : k ∉ rd) (hj : SlAt H (fv 0 0) k e rd oj) (hfl : FlatEnt e) (hfl' : FlatEnt e')
    (hbo : ∀ H', (∀ k ∈ rd, hget H k = hget H' k) → BoL H' rd rest rest') (h : WrOk P f t rest' e e') : CallR P f (.e (.c (.ptr k 0 0 s)) :: rest) H nm wd ⟨none, .tup [], wrNew t k nm e' oj, k :: (oj.toList ++ rd)⟩ := by
  refine ⟨hb, fun H' hh cx r w vals st hfr _ hrel => ?_⟩
  obtain ⟨h1, h2⟩ := hbo H' (fun q hq => hh q (List.mem_cons_of_mem _ (List.mem_append_right _ hq)))
  have hk' : hget H' k = some ⟨t, 1, 1, true, fv⟩ := by rw [← hh k (List.mem_cons_self ..)]; exact hk
  obtain ⟨x, cs, c1, c2, c3, c4, c5, c6⟩ : InCells r cx.X (wr r H') w ⟨t, 1, 1, true, fv⟩ (r k) w.heap := by
    obtain ⟨g1, g2, g3⟩ := st.blk k _ hk'
    rcases g3 with ⟨_, g4⟩ | g3 | ⟨hfit, _⟩
    · exact absurd g4 (by simp)
    · exact g3
    · have hf : true = false := hfit.1
      cases hf
  -- the slice's place
  obtain ⟨o, ho1, ho2, ho3⟩ : ∃ o : Option Bi, (∀ y, o = some y → ∃ j e0, oj = some j ∧ r j = some y ∧ hget H' j = some e0 ∧ j ≠ k ∧ j ∉ rd) ∧ EntIn (at2 x o) (fun b => cx.X b ∨ wrBut r H' (k :: oj.toList) b) (in2 x o) w e o w.heap ∧
      ∀ u, (fv 0 0).rel r cx.X (wr r H') w u → (CV.os 1 0 e.n).rel (at2 x o) (fun b => cx.X b ∨ wrBut r H' (k :: oj.toList) b) (in2 x o) w u := by
    cases oj with
    | some j =>
      obtain ⟨g1, g2, g3, e0, g4, g5, g6, g7, g8, g9⟩ := hj.at_
      have hj' : hget H' j = some e0 := by rw [← hh j (List.mem_cons_of_mem _ (List.mem_append_left _ (List.mem_singleton.2 rfl)))]; exact g4
      refine ⟨r j, fun y hy => ⟨j, e0, rfl, hy, hj', g3, g2⟩, (st.blk j e0 hj').map g5 g6 g7 g8 rfl (fun _ _ => rfl) fun i hi q hq u hu => ?_, fun u hu => ?_⟩
      · rw [g9 i (by rw [← g6]; exact hi) q (by rw [← g7]; exact hq)] at hu
        exact hfl.f _ _ _ _ _ _ _ _ _ _ _ hu
      · rw [g1] at hu
        obtain ⟨a, cap, rfl, d1, d2⟩ := hu
        refine ⟨a, cap, rfl, d1, fun h0 => ?_⟩
        obtain ⟨y, ⟨hy, hy0⟩, d3⟩ := d2 h0
        exact ⟨y, ⟨by rw [at2_1]; exact hy, hy0⟩, d3⟩
    | none =>
      obtain ⟨g1, g2, g3, g4⟩ := hj.at_
      refine ⟨none, fun y hy => (by cases hy), ⟨g3, (fun h => by rw [g4] at h; cases h), .inl ⟨rfl, g2⟩⟩, fun u hu => ?_⟩
      rw [g1] at hu
      have hu' : u = .slice none 0 0 := hu
      subst hu'
      rw [g2]
      exact ⟨none, 0, rfl, Nat.le_refl _, fun h => absurd h (Nat.lt_irrefl _)⟩
  have hdx := st.dom k x c1
  have hoy : ∀ y, o = some y → y.b < w.heap.size ∧ ¬ (cx.X y.b ∨ wrBut r H' (k :: oj.toList) y.b) ∧ y.b ≠ x.b := fun y hy => by
    obtain ⟨j, e0, g1, g2, g3, g4, g5⟩ := ho1 y hy
    obtain ⟨d1, d2, d3⟩ := st.dom j y g2
    refine ⟨d1, ?_, fun heq => g4 (st.inj j k e0 _ y x g3 hk' g2 c1 heq)⟩
    rintro (hX | ⟨k2, e2, z, he2, hz, hzb, hne⟩)
    · exact d3 hX
    · have := st.inj k2 j e2 e0 z y he2 g3 hz g2 hzb
      exact hne (by rw [this, g1]; exact List.mem_cons_of_mem _ (List.mem_singleton.2 rfl))
  have hXx : ¬ (cx.X x.b ∨ wrBut r H' (k :: oj.toList) x.b) := by
    rintro (hX | ⟨k2, e2, y, he2, hy, hyb, hne⟩)
    · exact hdx.2.2 hX
    · have := st.inj k2 k e2 _ y x he2 hk' hy c1 hyb
      exact hne (by rw [this]; exact List.mem_cons_self ..)
  have hsubX : ∀ b, (cx.X b ∨ wrBut r H' (k :: oj.toList) b) → cx.X b ∨ wr r H' b := by
    rintro b (hX | ⟨k2, e2, y, he2, hy, hyb, _⟩)
    · exact .inl hX
    · exact .inr ⟨k2, e2, y, he2, hy, hyb⟩
  have hsubW : ∀ b, in2 x o b → wr r H' b := by
    rintro b (rfl | ⟨y, hy, rfl⟩)
    · exact ⟨k, _, x, hk', c1, rfl⟩
    · obtain ⟨j, e0, g1, g2, g3, g4, g5⟩ := ho1 y hy
      exact ⟨j, e0, y, g3, g2, rfl⟩
  have hXlt : Xw (fun b => (cx.X b ∨ wrBut r H' (k :: oj.toList) b) ∨ in2 x o b) w := xw_more (st_xw st) fun b hb => hb.elim (hsubX b) fun h => .inr (hsubW b h)
  refine (h (fun b => cx.X b ∨ wrBut r H' (k :: oj.toList) b) w x o vals hdx.1 hXx hoy hXlt ⟨Nat.one_pos, fun _ => rfl, .inr (.inl ⟨x, cs, rfl, c2, c3, c4, c5, fun i hi q hq u hu => ?_⟩)⟩ ho2 ⟨by rw [hrel.1]; simp [h1], fun i y u hy hu => ?_⟩).mono fun en w' he => ?_
  · have hi' : i < 1 := hi
    have hq' : q < 1 := hq
    obtain rfl : i = 0 := by omega
    obtain rfl : q = 0 := by omega
    exact ho3 u (c6 0 Nat.one_pos 0 Nat.one_pos u hu)
  · cases i with
    | zero =>
      simp only [List.getElem?_cons_zero, Option.some.injEq] at hy
      subst hy
      obtain ⟨z, hz, hzv⟩ := hrel.2 0 _ u rfl hu
      have hz1 := hz.1
      rw [c1] at hz1; injection hz1 with hz1; subst hz1
      exact ⟨x, ⟨at2_0, hz.2⟩, hzv⟩
    | succ i =>
      have hy' : rest'[i]? = some y := by simpa using hy
      have hi : i < rest.length := by rw [h1]; exact (List.getElem?_eq_some_iff.1 hy').1
      have h3 := h2 i _ y (List.getElem?_eq_getElem hi) hy' cx r w u st (hrel.2 (i + 1) _ u (by simp [List.getElem?_eq_getElem hi]) hu)
      have h4 : y.rel (at2 x o) (fun b => cx.X b ∨ wr r H' b) (wrBut r H' rd) w u := FV.rel_ext ⟨fun _ _ h => (by cases h), Nat.le_refl _, fun _ _ _ => rfl, fun _ _ h => h⟩ _ _ h3
      have h5 : y.rel (at2 x o) (fun b => cx.X b ∨ wr r H' b) (in2 x o) w u := FV.rel_w (fun b hb => by
        rcases hb with rfl | ⟨z, hz, rfl⟩
        · exact ⟨k, _, x, hk', c1, rfl, hkr⟩
        · obtain ⟨j, e0, g1, g2, g3, g4, g5⟩ := ho1 z hz
          exact ⟨j, e0, z, g3, g2, rfl, g5⟩) _ _ h4
      cases y with
      | top => trivial
      | e y =>
        cases y with
        | c y => exact CV.rel_sub (fun b hb => .inl (hsubX b hb)) (fun b hb => hb) _ _ h5
        | agg n g => obtain ⟨cs', e1, e2, e3⟩ := h5; exact ⟨cs', e1, e2, fun i u hu => CV.rel_sub (fun b hb => .inl (hsubX b hb)) (fun b hb => hb) _ _ (e3 i u hu)⟩
      | tup l =>
        obtain ⟨vs, e1, e2, e3⟩ := h5
        refine ⟨vs, e1, e2, fun i z u hz hu => ?_⟩
        have := e3 i z u hz hu
        cases z with
        | c z => exact CV.rel_sub (fun b hb => .inl (hsubX b hb)) (fun b hb => hb) _ _ this
        | agg n g => obtain ⟨cs', e1, e2, e3⟩ := this; exact ⟨cs', e1, e2, fun i u hu => CV.rel_sub (fun b hb => .inl (hsubX b hb)) (fun b hb => hb) _ _ (e3 i u hu)⟩
  · obtain ⟨v, o', rfl, p1, p2, p3, p4, p5, p6, p7, p8, rfl⟩ := he
    obtain ⟨hr0, hh0⟩ := hfr nm (Nat.le_refl _) (by omega)
    have hnk : nm ≠ k := fun e => by rw [e, c1] at hr0; cases hr0
    have hnj : ∀ j e0, oj = some j → hget H' j = some e0 → nm ≠ j := fun j e0 _ h2 e => by rw [e, h2] at hh0; cases hh0
    have hr2 : ∀ q z, r q = some z → (if q = nm then o' else r q) = some z := fun q z hz => by
      by_cases hq : q = nm
      · subst hq; rw [hr0] at hz; cases hz
      · rw [if_neg hq]; exact hz
    -- the new names
    have lk : hget (wrNew t k nm e' oj ++ H') k = some (wvar t nm e'.n) := look_cons_eq _ _ _ _
    have lnm : hget (wrNew t k nm e' oj ++ H') nm = some e' := (look_cons_ne _ _ _ hnk).trans (look_cons_eq _ _ _ _)
    have lo : ∀ q e1, q ≠ k → q ≠ nm → hget (wrNew t k nm e' oj ++ H') q = some e1 → hget H' q = some e1 ∧ ∀ j, oj = some j → q ≠ j := fun q e1 hqk hqn hq => by
      cases oj with
      | none => exact ⟨((look_cons_ne _ _ _ hqk).trans (look_cons_ne _ _ _ hqn)).symm.trans hq, fun j hj => by cases hj⟩
      | some j =>
        by_cases hqj : q = j
        · subst hqj
          have : hget (wrNew t k nm e' (some q) ++ H') q = none := (look_cons_ne _ _ _ hqk).trans ((look_cons_ne _ _ _ hqn).trans (look_cons_eq _ _ _ _))
          rw [this] at hq; cases hq
        · refine ⟨((look_cons_ne _ _ _ hqk).trans ((look_cons_ne _ _ _ hqn).trans (look_cons_ne _ _ _ hqj))).symm.trans hq, fun j' hj' => ?_⟩
          injection hj' with hj'; subst hj'; exact hqj
    -- a live name's block is none of ours
    have apart : ∀ q e1 z, q ≠ k → hget H' q = some e1 → (∀ j, oj = some j → q ≠ j) → r q = some z → ¬ in2 x o z.b := fun q e1 z hqk hq hqj hz hin => by
      rcases hin with hin | ⟨y, hy, hyb⟩
      · exact hqk (st.inj q k e1 _ z x hq hk' hz c1 hin)
      · obtain ⟨j, e0, g1, g2, g3, g4, g5⟩ := ho1 y hy
        exact hqj j g1 (st.inj q j e1 e0 z y hq g3 hz g2 hyb.symm)
    have hdomo : ∀ y, o' = some y → y.b < w'.heap.size ∧ (cx.w0.heap.size ≤ y.b ∨ cx.D y.b) ∧ ¬ cx.X y.b := fun y hy => by
      obtain ⟨a1, a2, a3, a4⟩ := p6 y hy
      refine ⟨a2, ?_, fun hX => a4 (.inl hX)⟩
      rcases a1 with a1 | ⟨z, hz, hzb⟩
      · exact .inl (Nat.le_trans st.size a1)
      · obtain ⟨j, e0, g1, g2, g3, g4, g5⟩ := ho1 z hz
        rw [← hzb]; exact (st.dom j z g2).2.1
    have howo : ∀ y, o' = some y → cx.w0.heap.size ≤ y.b ∨ cx.E y.b := fun y hy => by
      obtain ⟨a1, a2, a3, a4⟩ := p6 y hy
      rcases a1 with a1 | ⟨z, hz, hzb⟩
      · exact .inl (Nat.le_trans st.size a1)
      · obtain ⟨j, e0, g1, g2, g3, g4, g5⟩ := ho1 z hz
        rw [← hzb]; exact st.ow j e0 z g3 g2
    have hwr2 : ∀ b, wr (fun q => if q = nm then o' else r q) (wrNew t k nm e' oj ++ H') b → (wr r H' b ∨ ∃ y, o' = some y ∧ y.b = b) := by
      rintro b ⟨q, e1, z, he, hz, hzb⟩
      by_cases hq : q = nm
      · subst hq
        have hz' : (if q = q then o' else r q) = some z := hz
        rw [if_pos rfl] at hz'
        exact .inr ⟨z, hz', hzb⟩
      · have hz' : (if q = nm then o' else r q) = some z := hz
        rw [if_neg hq] at hz'
        by_cases hqk : q = k
        · subst hqk; exact .inl ⟨q, _, z, hk', hz', hzb⟩
        · exact .inl ⟨q, e1, z, (lo q e1 hqk hq he).1, hz', hzb⟩
    have hE : Ext r (wr r H') w (fun q => if q = nm then o' else r q) (wr (fun q => if q = nm then o' else r q) (wrNew t k nm e' oj ++ H')) w' := by
      refine ⟨hr2, p4, fun b hb hw => p5 b hb fun hin => hw (hsubW b hin), fun b hb hw => ?_⟩
      rcases hwr2 b hw with hw | ⟨y, hy, hyb⟩
      · exact hw
      · obtain ⟨a1, _⟩ := p6 y hy
        rcases a1 with a1 | ⟨z, hz, hzb⟩
        · omega
        · exact hsubW b (.inr ⟨z, hz, hzb.trans hyb⟩)
    refine ⟨.tuple #[], rfl, fun q => if q = nm then o' else r q, hE, ⟨p1.trans st.os, p2.trans st.tape, p3.trans st.output, Nat.le_trans st.size p4, fun b hb hne => ?_, st.xlt, fun q z hz => ?_, fun q e1 z he hz => ?_, fun n m e1 e2 z1 z2 hn hm hz1 hz2 hzz => ?_, fun q b hq => hr2 q b (st.pin q b hq), fun q e1 he => ?_⟩, fun q hq => if_neg (by omega), fun q e1 he => ?_, ⟨#[], rfl, rfl, fun i z u hz hu => by cases hz⟩⟩
    · rw [← st.kept b hb hne]
      refine p5 b (Nat.lt_of_lt_of_le hb st.size) fun hin => ?_
      rcases hin with rfl | ⟨y, hy, rfl⟩
      · rcases st.ow k _ x hk' c1 with h | h
        · omega
        · exact hne h
      · obtain ⟨j, e0, g1, g2, g3, g4, g5⟩ := ho1 y hy
        rcases st.ow j e0 y g3 g2 with h | h
        · omega
        · exact hne h
    · by_cases hq : q = nm
      · simp only [if_pos hq] at hz; exact hdomo z hz
      · simp only [if_neg hq] at hz
        obtain ⟨a1, a2, a3⟩ := st.dom q z hz
        exact ⟨Nat.lt_of_lt_of_le a1 p4, a2, a3⟩
    · by_cases hq : q = nm
      · simp only [if_pos hq] at hz; exact howo z hz
      · simp only [if_neg hq] at hz
        have he' : hget (wrNew t k nm e' oj ++ H') q = some e1 := he
        by_cases hqk : q = k
        · subst hqk; exact st.ow q _ z hk' hz
        · exact st.ow q e1 z (lo q e1 hqk hq he').1 hz
    · have hn' : hget (wrNew t k nm e' oj ++ H') n = some e1 := hn
      have hm' : hget (wrNew t k nm e' oj ++ H') m = some e2 := hm
      have new_old : ∀ q e3 z y, q ≠ nm → hget (wrNew t k nm e' oj ++ H') q = some e3 → r q = some z → o' = some y → y.b ≠ z.b := fun q e3 z y hq he hz hy heq => by
        obtain ⟨a1, a2, a3, a4⟩ := p6 y hy
        by_cases hqk : q = k
        · subst hqk; rw [c1] at hz; injection hz with hz; subst hz; exact a3 heq
        · obtain ⟨b1, b2⟩ := lo q e3 hqk hq he
          rcases a1 with a1 | ⟨z0, hz0, hzb⟩
          · have := (st.dom q z hz).1; omega
          · exact apart q e3 z hqk b1 b2 hz (.inr ⟨z0, hz0, hzb.trans heq⟩)
      by_cases h : n = nm
      · by_cases h' : m = nm
        · rw [h, h']
        · simp only [if_pos h] at hz1
          simp only [if_neg h'] at hz2
          exact absurd hzz (new_old m e2 z2 z1 h' hm' hz2 hz1)
      · by_cases h' : m = nm
        · simp only [if_pos h'] at hz2
          simp only [if_neg h] at hz1
          exact absurd hzz.symm (new_old n e1 z1 z2 h hn' hz1 hz2)
        · simp only [if_neg h] at hz1
          simp only [if_neg h'] at hz2
          have l1 : ∃ e3, hget H' n = some e3 := by
            by_cases hq : n = k
            · exact ⟨_, by rw [hq]; exact hk'⟩
            · exact ⟨e1, (lo n e1 hq h hn').1⟩
          have l2 : ∃ e3, hget H' m = some e3 := by
            by_cases hq : m = k
            · exact ⟨_, by rw [hq]; exact hk'⟩
            · exact ⟨e2, (lo m e2 hq h' hm').1⟩
          obtain ⟨e3, l1⟩ := l1
          obtain ⟨e4, l2⟩ := l2
          exact st.inj n m e3 e4 z1 z2 l1 l2 hz1 hz2 hzz
    · have he' : hget (wrNew t k nm e' oj ++ H') q = some e1 := he
      by_cases hq : q = nm
      · subst hq
        rw [lnm] at he'; injection he' with he'; subst he'
        simp only [if_true]
        exact p8.map rfl rfl rfl rfl rfl (fun _ _ => rfl) fun i _ j _ u hu => hfl'.f _ _ _ _ _ _ _ _ _ _ _ hu
      · simp only [if_neg hq]
        by_cases hqk : q = k
        · subst hqk
          rw [lk] at he'; injection he' with he'; subst he'
          refine p7.map rfl rfl rfl rfl c1.symm (fun _ _ => rfl) fun i _ j _ u hu => ?_
          obtain ⟨a, cap, rfl, d1, d2⟩ := hu
          refine ⟨a, cap, rfl, d1, fun h0 => ?_⟩
          obtain ⟨y, ⟨hy, hy0⟩, d3⟩ := d2 h0
          rw [at2_1] at hy
          exact ⟨y, ⟨by show (if nm = nm then o' else r nm) = some y; rw [if_pos rfl]; exact hy, hy0⟩, d3⟩
        · obtain ⟨b1, b2⟩ := lo q e1 hqk hq he'
          have hold := st.old b1 rfl (w' := w') fun y hy => p5 _ (st.dom q y hy).1 (apart q e1 y hqk b1 b2 hy)
          exact hold.ext hE
    · have he' : hget (wrNew t k nm e' oj ++ H') q = some e1 := he
      by_cases hq : q = nm
      · exact .inl ⟨.inl (by omega), by omega⟩
      · by_cases hqk : q = k
        · exact .inr ⟨_, by rw [hqk]; exact hk'⟩
        · exact .inr ⟨e1, (lo q e1 hqk hq he').1⟩
end Go.Proofs.Ythbhidfohdipnaa.AX

/- Writers of byte strings: their entries. -/
namespace Go.Proofs.Ythbhidfohdipnaa.AX
open Go.RowKit
set_option linter.unusedVariables false
set_option linter.unusedSimpArgs false
abbrev entB (L : List Int) : Ent := ents eB 5 L
def wrE {α : Type} (t : TypeId) (A : AC α) (p : List Int → α → Prop) (F : List Int → α → List Int) : Entry := fun args H nm _ =>
  match args with
  | .e (.c (.ptr k 0 0 _)) :: rest =>
    match hget H k, A.dec H rest with
    | some ⟨t', n, z, v, f⟩, some (a, q, rd) =>
      match f 0 0 with
      | .nils => bif Nat.beq t' t && Nat.beq n 1 && Nat.beq z 1 && v && !(rd.any (Nat.beq k)) then some fun K => pAnd q (p [] a ∧ ∀ s, s = F [] a → K (.tup []) (wrNew t k nm (entB s) none) (k :: ([] ++ rd))) else none
      | .os j 0 n' =>
        match hget H j with
        | some ⟨tj, nj, zj, vj, g⟩ =>
          bif Nat.beq t' t && Nat.beq n 1 && Nat.beq z 1 && v && !(rd.any (Nat.beq k)) && (Nat.beq tj 5 && Nat.beq zj 1 && !vj && !(Nat.beq j k) && !(rd.any (Nat.beq j))) then
            some fun K => ∃ L, (g = rowF eB L ∧ n' = L.length ∧ nj = L.length) ∧ pAnd q (p L a ∧ ∀ s, s = F L a → K (.tup []) (wrNew t k nm (entB s) (some j)) (k :: ([j] ++ rd)))
          else none
        | none => none
      | _ => none
    | _, _ => none
  | _ => none
theorem any_no {rd : List Nat} {k : Nat} (h : rd.any (Nat.beq k) = false) : k ∉ rd := fun hm => by
  have : rd.any (Nat.beq k) = true := List.any_eq_true.2 ⟨k, hm, by simp⟩
  rw [h] at this; cases this
theorem flat_entB (L : List Int) : FlatEnt (entB L) := ⟨fun _ _ => flat_int⟩
theorem beq_no' {a b : Nat} (h : Nat.beq a b = false) : a ≠ b := fun e => by subst e; simp at h
theorem wrE_ok {α : Type} {t : TypeId} {A : AC α} {p : List Int → α → Prop} {F : List Int → α → List Int} {P : Program} {f : FuncId} (hb : hasBody P f) (h : ∀ L a, p L a → WrOk P f t (A.enc a) (entB L) (entB (F L a))) : EntOk P f (wrE t A p F) := by
  refine ⟨fun args H nm wd q hwd hq K hK => ?_, fun args H nm wd q hq K K' hKK hK => ?_⟩
  · unfold wrE at hq
    split at hq
    · rename_i k s rest
      split at hq
      · rename_i t' n z v fv a pr rd he hd
        split at hq
        · rename_i hf
          obtain ⟨hc, hq⟩ := cond_some hq
          subst hq
          simp only [Bool.and_eq_true, Bool.not_eq_true'] at hc
          obtain ⟨⟨⟨⟨b1, b2⟩, b3⟩, b4⟩, b5⟩ := hc
          have b1 := Nat.eq_of_beq_eq_true b1
          have b2 := Nat.eq_of_beq_eq_true b2
          have b3 := Nat.eq_of_beq_eq_true b3
          subst b1 b2 b3 b4
          obtain ⟨h1, h2, h3⟩ := pAnd_iff.1 hK
          exact ⟨_, _, _, callR_wr (e := entB []) (oj := none) hb hwd he (any_no b5) ⟨⟨hf, rfl, eB_sz, rfl⟩⟩ (flat_entB _) (flat_entB _) (fun H' hh => A.sound H H' rest a pr rd hd h1 hh) (h [] a h2), h3 _ rfl⟩
        · rename_i j n' hf
          split at hq
          · rename_i tj nj zj vj g hj
            obtain ⟨hc, hq⟩ := cond_some hq
            subst hq
            simp only [Bool.and_eq_true, Bool.not_eq_true'] at hc
            obtain ⟨⟨⟨⟨⟨b1, b2⟩, b3⟩, b4⟩, b5⟩, ⟨⟨⟨⟨c1, c3⟩, c4⟩, c5⟩, c6⟩⟩ := hc
            have b1 := Nat.eq_of_beq_eq_true b1
            have b2 := Nat.eq_of_beq_eq_true b2
            have b3 := Nat.eq_of_beq_eq_true b3
            have c1 := Nat.eq_of_beq_eq_true c1
            have c3 := Nat.eq_of_beq_eq_true c3
            subst b1 b2 b3 b4 c1 c3 c4
            obtain ⟨L, ⟨rfl, rfl, rfl⟩, hK⟩ := hK
            obtain ⟨h1, h2, h3⟩ := pAnd_iff.1 hK
            exact ⟨_, _, _, callR_wr (e := entB L) (oj := some j) hb hwd he (any_no b5) ⟨⟨hf, any_no c6, beq_no' c5, _, hj, rfl, rfl, rfl, rfl, fun _ _ _ _ => rfl⟩⟩ (flat_entB _) (flat_entB _) (fun H' hh => A.sound H H' rest a pr rd hd h1 hh) (h L a h2), h3 _ rfl⟩
          · cases hq
        · cases hq
      · cases hq
    · cases hq
  · unfold wrE at hq
    split at hq
    · split at hq
      · split at hq
        · obtain ⟨_, hq⟩ := cond_some hq
          subst hq
          obtain ⟨h1, h2, h3⟩ := pAnd_iff.1 hK
          exact pAnd_iff.2 ⟨h1, h2, fun s hs => hKK _ _ _ (h3 s hs)⟩
        · split at hq
          · obtain ⟨_, hq⟩ := cond_some hq
            subst hq
            obtain ⟨L, hL, hK⟩ := hK
            obtain ⟨h1, h2, h3⟩ := pAnd_iff.1 hK
            exact ⟨L, hL, pAnd_iff.2 ⟨h1, h2, fun s hs => hKK _ _ _ (h3 s hs)⟩⟩
          · cases hq
        · cases hq
      · cases hq
    · cases hq
theorem finWx {t : TypeId} {L : List Int} {H : Hp} {j : Nat} {e : Ent} {x : FV} (hx : x = .tup []) (h0 : hget H 0 = some (wvar t j e.n)) (h1 : hget H j = some e) (h2 : ∀ c, LeN c e (entB L)) :
    ∃ rho, x = .tup [] ∧ WkE ⟨H, [(0, some (wvar t 1 (entB L).n)), (1, some (entB L))], [(1, rho)], 2, true⟩ (wvar t 1 (entB L).n) (some 0) ∧ WkE ⟨H, [(0, some (wvar t 1 (entB L).n)), (1, some (entB L))], [(1, rho)], 2, true⟩ (entB L) rho := by
  refine ⟨some j, hx, ?_, ?_⟩
  · unfold WkE
    simp only
    rw [h0]
    refine ⟨rfl, rfl, rfl, rfl, fun i hi q hq => ?_⟩
    exact leC_os rfl (h2 ⟨[], [], [], 0, false⟩).n
  · unfold WkE
    simp only
    rw [h1]
    exact h2 _
end Go.Proofs.Ythbhidfohdipnaa.AX

/- Layer 20 by AX2: Sum of the program and of the reference. -/
namespace Go.Proofs.Ythbhidfohdipnaa.AX
open Go.RowKit
set_option linter.unusedVariables false
set_option linter.unusedSimpArgs false
/-- The first four bytes, from the third to the i-th one set to 0. -/
def headZ (b : List Int) (i : Nat) : List Int := (List.range (min b.length 4)).map fun k => if 2 ≤ k ∧ k < i then 0 else b.getD k default
theorem headZ_len (b : List Int) (i : Nat) : (headZ b i).length = min b.length 4 := by simp [headZ]
theorem getD_el {b : List Int} {k : Nat} (h : k < b.length) : b.getD k default = b[k] := by rw [List.getD_eq_getElem?_getD, List.getElem?_eq_getElem h]; rfl
theorem headZ_2 (b : List Int) : headZ b 2 = b.take 4 := by
  apply List.ext_getElem
  · rw [headZ_len, List.length_take]; omega
  · intro k h1 h2
    rw [headZ_len] at h1
    simp only [headZ, List.getElem_map, List.getElem_range, List.getElem_take]
    rw [if_neg (by omega), getD_el (by omega)]
theorem headZ_step (b : List Int) {i : Nat} (h2 : 2 ≤ i) : headZ b (i + 1) = (headZ b i).set i 0 := by
  apply List.ext_getElem
  · rw [List.length_set, headZ_len, headZ_len]
  · intro k h1 h3
    rw [headZ_len] at h1
    rw [List.getElem_set]
    simp only [headZ, List.getElem_map, List.getElem_range]
    by_cases hk : i = k
    · rw [if_pos hk, if_pos (by omega)]
    · rw [if_neg hk]
      by_cases hc : 2 ≤ k ∧ k < i
      · rw [if_pos hc, if_pos (by omega)]
      · rw [if_neg hc, if_neg (by omega)]
theorem headZ_z (b : List Int) {i : Nat} (h : min b.length 4 ≤ i) : headZ b i = b.take 2 ++ zs (min b.length 4 - 2) := by
  apply List.ext_getElem
  · rw [headZ_len, List.length_append, List.length_take, zs_len]; omega
  · intro k h1 h2
    rw [headZ_len] at h1
    simp only [headZ, List.getElem_map, List.getElem_range]
    by_cases hk : k < 2
    · rw [if_neg (by omega), List.getElem_append_left (by rw [List.length_take]; omega), List.getElem_take, getD_el (by omega)]
    · rw [if_pos (by omega), List.getElem_append_right (by rw [List.length_take]; omega)]
      simp [zs]
theorem headZ_end (b : List Int) {i : Nat} (h : min b.length 4 ≤ i) : headZ b i ++ b.drop 4 = zero24 b := by
  rw [headZ_z b h]
  unfold zero24
  rw [List.append_assoc]
theorem headZ_BL {b : List Int} (hb : BL b) (i : Nat) : BL (headZ b i) := ⟨fun x hx => by
  obtain ⟨k, _, rfl⟩ := List.mem_map.1 hx
  split
  · omega
  · exact hb.get k⟩
/-- What the checksum covers. -/
def covD (b : List Int) (src dst : Fin 16 → Int) : List Int := ipL src ++ (ipL dst ++ (beN b.length 4 ++ ([0, 0, 0, 58] ++ zero24 b)))
theorem zero24_len (b : List Int) : (zero24 b).length = b.length := by
  unfold zero24
  simp only [List.length_append, List.length_take, List.length_drop, zs_len]
  omega
theorem zs_BL (n : Nat) : BL (zs n) := ⟨fun x hx => by rw [List.eq_of_mem_replicate hx]; omega⟩
theorem zero24_BL {b : List Int} (hb : BL b) : BL (zero24 b) := (hb.take 2).append ((zs_BL _).append (hb.drop 4))
theorem u64_len {b : List Int} (h : b.length ≤ 140737488355000) : IntKind.u64.wrap (b.length : Int) = b.length := IntWalk.u64_in _ (by omega)
theorem ip_cells (a : Fin 16 → Int) : (toL eB (16 - 0) fun k q => (fun x : Nat => (eA .u8 16).cell a) 0 (0 + 0 * 1 + (k * 1 + q))) = ipL a := toL_ip fun k _ => congrArg (fun j => CV.int .u8 (vget a j)) (by omega)
theorem drop_head (b : List Int) (i : Nat) : b.drop (headZ b i).length = b.drop 4 := by
  rw [headZ_len]
  by_cases h : 4 ≤ b.length
  · rw [show min b.length 4 = 4 by omega]
  · rw [show min b.length 4 = b.length by omega, List.drop_of_length_le (Nat.le_refl _), List.drop_of_length_le (by omega)]
theorem cov_key {b : List Int} {src dst : Fin 16 → Int} (hb : BL b) (hs : byteOk src) (hd : byteOk dst) (hl : b.length ≤ 140737488355000) {i : Nat} (hi : min b.length 4 ≤ i) {A B C D E F : List Int} (hA : A = ipL src) (hB : B = ipL dst) (hC : C = beN b.length 4) (hD : D = [0, 0, 0, 58]) (hE : E = headZ b i) (hF : F = b.drop (headZ b i).length) :
    [A, B, C, D, E, F].flatten = covD b src dst ∧ BLL [A, B, C, D, E, F] ∧ [A, B, C, D, E, F].flatten.length ≤ 140737488355328 := by
  have e : [A, B, C, D, E, F].flatten = covD b src dst := by
    subst hA hB hC hD hE hF
    rw [drop_head]
    unfold covD
    rw [← headZ_end b hi]
    simp
  refine ⟨e, ⟨fun l h => ?_⟩, ?_⟩
  · simp only [List.mem_cons, List.not_mem_nil, or_false] at h
    rcases h with rfl | rfl | rfl | rfl | rfl | rfl
    · rw [hA]; exact ipBL hs
    · rw [hB]; exact ipBL hd
    · rw [hC]; exact beN_BL _ _
    · rw [hD]; exact BL.cons (by omega) (BL.cons (by omega) (BL.cons (by omega) (BL.cons (by omega) BL.nil)))
    · rw [hE]; exact headZ_BL hb i
    · rw [hF]; exact hb.drop _
  · rw [e]
    unfold covD
    simp only [List.length_append, ipL_len, beN_len, zero24_len, List.length_cons, List.length_nil]
    omega
set_option maxRecDepth 20000 in
set_option maxHeartbeats 4000000 in
theorem dsum_ok (b : List Int) (src dst : Fin 16 → Int) (hb : BL b) (hs : byteOk src) (hd : byteOk dst) (hl : b.length ≤ 140737488355000) : PureOk Try.prog 17 [(cSl eB eB_sz).enc b, (cE (eA .u8 16)).enc src, (cE (eA .u8 16)).enc dst] ((cI .u16).enc (sumD b src dst)) := by
  refine pure_intro (wd := 1) (Q := mkQ LSm) (by decide) tysOk (q_of LSm_ok) mixed Try.func17 rfl _ (by show 3 ≤ _; decide) _ ?_
  repeat' (first | (apply And.intro <;> intro hc <;> (first | exact Bool.noConfusion hc | (simp only [decide_eq_true_eq, decide_eq_false_iff_not, Bool.not_eq_true', Bool.not_eq_false', beq_iff_eq, beq_eq_false_iff_ne, bne_iff_ne, bne_eq_false_iff_eq, Bool.true_eq_false, Bool.false_eq_true] at hc) | skip)) | (refine And.intro (by first | exact trivial | decide | omega | (dsimp only; omega) | exact fun _ _ => rfl) ?_) | (apply And.intro) | (intro s hs))
  refine loop_intro (mono_of LSm_ok) (fun s : {i : Nat // 2 ≤ i} => (⟨[(0, one (.sl false b.length eB.sz (rowF eB b))), (4, one (.ptr 0 0 0 false)), (5, one (.ptr 1 0 0 false)), (7, one (.os 40 0 (headZ b s.1).length)), (8, one (.int .i64 (s.1 : Int)))],
    [(0, some ⟨24, 1, 16, true, fun _ => (eA .u8 16).cell src⟩), (1, some ⟨24, 1, 16, true, fun _ => (eA .u8 16).cell dst⟩), (40, some (entB (headZ b s.1)))], 41⟩ : Hd)) (fun s => 4 - s.1) (fun _ => rfl) ?_ ⟨2, by omega⟩ [(40, some 6)] ?_
  · rintro ⟨i, hi⟩
    dsimp only at hi ⊢
    have hlen := headZ_len b i
    repeat' (first | (apply And.intro <;> intro hc <;> (first | exact Bool.noConfusion hc | (simp only [decide_eq_true_eq, decide_eq_false_iff_not, Bool.not_eq_true', Bool.not_eq_false', beq_iff_eq, beq_eq_false_iff_ne, bne_iff_ne, bne_eq_false_iff_eq, Bool.true_eq_false, Bool.false_eq_true] at hc) | skip)) | (refine And.intro (by first | exact trivial | decide | omega | (dsimp only; omega) | exact fun _ _ => rfl) ?_) | (apply And.intro) | (intro s hs))
    · refine ⟨⟨i + 1, by omega⟩, [], by dsimp only <;> omega, rfl, ?_, ?_⟩
      · repeat' (first | exact trivial | exact rfl | exact leF_ptr rfl | exact leF_int rfl | exact leF_bool rfl | exact leF_cl (cl_slB _ _) | exact leF_cl (cl_slR _ _) | exact leF_cl (cl_ll _ _) | exact leF_c (leC_os rfl rfl) | refine leF_int ?_ | refine leF_bool ?_ | exact leN_varA (fun _ _ => (Elem.flat _ _ _).le) | exact leN_varA (fun _ _ => leC_top) | apply And.intro)
        · exact leF_c (leC_os rfl (by dsimp only; rw [headZ_len, headZ_len]))
        · first | (dsimp only; rw [IntWalk.i64_in _ (by omega)]; omega) | (dsimp only; rw [IntWalk.i64_in _ (by omega)]; done) | (dsimp only; exact IntWalk.i64_in _ (by omega)) | exact IntWalk.i64_in _ (by omega) | (rw [IntWalk.i64_in _ (by omega)]; omega)
      · repeat' (first | exact trivial | exact rfl | exact leF_ptr rfl | exact leF_int rfl | exact leF_bool rfl | exact leF_cl (cl_slB _ _) | exact leF_cl (cl_slR _ _) | exact leF_cl (cl_ll _ _) | exact leF_c (leC_os rfl rfl) | refine leF_int ?_ | refine leF_bool ?_ | exact leN_varA (fun _ _ => (Elem.flat _ _ _).le) | exact leN_varA (fun _ _ => leC_top) | apply And.intro)
        dsimp only
        rw [headZ_step b hi]
        rw [show 0 + (i : Int).toNat = i by omega]
        exact leN_set (E := eB) (L := headZ b i) (idx := i) (x := 0) rfl (by omega) (fun _ _ _ _ => (Elem.flat _ _ _).le) fun j hj => leC_int rfl
    · exact Nat.zero_le _
    all_goals
      have hE : min b.length 4 ≤ i := by omega
      have kC : ∀ s : List Int, s = [] ++ beB (IntKind.u64.wrap (b.length : Int)) 4 → (toL eB s.length fun k j => rowF eB s (0 + k) j) = beN b.length 4 := fun s h => by rw [toL_b0, h, u64_len hl]; rfl
      have K := fun s h => cov_key hb (by assumption : byteOk src) hd hl hE (ip_cells src) (ip_cells dst) (kC s h) rfl (toL_b0 (headZ b i)) (toL_dr b (headZ b i).length (by omega))
      clear kC
      first
        | exact rfl
        | exact (K _ (by assumption)).2.1
        | exact (K _ (by assumption)).2.2
        | exact (by decide : (6 : Nat) ≤ 16)
        | exact Done.mk (leF_int (hs.trans (congrArg inetF (K _ (by assumption)).1)))
  · have hm4 : (if (4 : Int) < (b.length : Int) then (4 : Int) else (b.length : Int)).toNat = min b.length 4 := by split <;> omega
    refine ⟨rfl, ?_, ?_⟩
    · repeat' (first | exact trivial | exact rfl | exact leF_ptr rfl | exact leF_int rfl | exact leF_bool rfl | exact leF_cl (cl_slB _ _) | exact leF_cl (cl_slR _ _) | exact leF_cl (cl_ll _ _) | exact leF_c (leC_os rfl rfl) | refine leF_int ?_ | refine leF_bool ?_ | exact leN_varA (fun _ _ => (Elem.flat _ _ _).le) | exact leN_varA (fun _ _ => leC_top) | apply And.intro)
      exact leF_c (leC_os rfl (hm4.trans (headZ_len b 2).symm))
    · repeat' (first | exact trivial | exact rfl | exact leF_ptr rfl | exact leF_int rfl | exact leF_bool rfl | exact leF_cl (cl_slB _ _) | exact leF_cl (cl_slR _ _) | exact leF_cl (cl_ll _ _) | exact leF_c (leC_os rfl rfl) | refine leF_int ?_ | refine leF_bool ?_ | exact leN_varA (fun _ _ => (Elem.flat _ _ _).le) | exact leN_varA (fun _ _ => leC_top) | apply And.intro)
      show LeN _ _ (entB (headZ b 2))
      rw [headZ_2, hm4]
      exact leN_is (by rw [List.length_take]; omega) (isRow_un (isRow_ov (by rw [List.length_take]; show _ ≤ min b.length (min b.length 4); omega) fun k hk => by
        rw [List.length_take] at hk
        show CV.int .u8 (b.getD k default) = _
        rw [List.getD_eq_getElem?_getD, List.getD_eq_getElem?_getD, List.getElem?_take, if_pos (by omega)]))
/-! ### The reference -/
theorem dip_at {a : Fin 16 → Int} {k i : Nat} (e : i = k) (hk : k < (ipL a).length) : CV.int .u8 (vget a i) = .int .u8 ((ipL a).getD k default) := by
  rw [ipL_len] at hk
  rw [e]
  unfold ipL
  rw [List.getD_eq_getElem?_getD, List.getElem?_map, List.getElem?_range hk]; rfl
def dpsB (src dst : Fin 16 → Int) (n nx : Int) : List Int := ipL src ++ ipL dst ++ beB (IntKind.u64.wrap n) 4 ++ [0, 0, 0, nx]
theorem dps_row (Z : Nat → Nat → CV) (src dst : Fin 16 → Int) : IsRow (fun k j => (fun k j => selC (k.blt (0 + (16 - 0))) ((fun k j => selC (k.blt 0) (Z k j) ((fun k q => (fun x => (eA IntKind.u8 16).cell src) 0 (0 + 0 * 1 + (k * 1 + q))) (k - 0) j)) k j) ((fun k q => (fun x => (eA IntKind.u8 16).cell dst) 0 (0 + 0 * 1 + (k * 1 + q))) (k - (0 + (16 - 0))) j)) (0 + k) j) ([] ++ ipL src ++ ipL dst) := by
  refine isRow_0 (F := fun k j => selC (k.blt (0 + (16 - 0))) (selC (k.blt 0) (Z k j) ((eA IntKind.u8 16).cell src (0 + 0 * 1 + ((k - 0) * 1 + j)))) ((eA IntKind.u8 16).cell dst (0 + 0 * 1 + ((k - (0 + (16 - 0))) * 1 + j)))) (isRow_sel (A := fun k j => selC (k.blt 0) (Z k j) ((eA IntKind.u8 16).cell src (0 + 0 * 1 + ((k - 0) * 1 + j)))) (C := fun k j => (eA IntKind.u8 16).cell dst (0 + 0 * 1 + ((k - (0 + (16 - 0))) * 1 + j))) (n := 16) rfl (isRow_sel (A := Z) (C := fun k j => (eA IntKind.u8 16).cell src (0 + 0 * 1 + ((k - 0) * 1 + j))) (n := 0) (l1 := []) rfl ⟨fun k hk => absurd hk (Nat.not_lt_zero _)⟩ fun k hk => ?_) fun k hk => ?_)
  · exact dip_at (by omega) hk
  · exact dip_at (by omega) hk
set_option maxHeartbeats 8000000 in
set_option maxRecDepth 20000 in
theorem dpseudo_ok (src dst : Fin 16 → Int) (n nx : Int) : NewOk Try.prog 45 [(cE (eA .u8 16)).enc src, (cE (eA .u8 16)).enc dst, (cI .i64).enc n, (cI .u8).enc nx] (some (dpsB src dst n nx).length) none (ents eB 5 (dpsB src dst n nx)) := by
  obtain ⟨w, eW⟩ : ∃ w, dpsB src dst n nx = w := ⟨_, rfl⟩
  rw [eW]
  refine new_intro (wd := 1) (Q := mkQ LSm) (by decide) tysOk (q_of LSm_ok) mixed Try.func45 rfl _ (by show 4 ≤ _; decide) (fun i _ j _ => row_nf eB _ i j) ?_
  repeat' (first | (apply And.intro <;> intro hc <;> (first | exact Bool.noConfusion hc | (simp only [decide_eq_true_eq, decide_eq_false_iff_not, Bool.not_eq_true', Bool.not_eq_false', beq_iff_eq, beq_eq_false_iff_ne, bne_iff_ne, bne_eq_false_iff_eq, Bool.true_eq_false, Bool.false_eq_true, ne_eq, not_true_eq_false] at hc <;> first | exact absurd rfl hc | skip) | skip)) | (refine And.intro (by first | exact trivial | decide | omega | (dsimp only; omega) | exact fun _ _ => rfl | exact ⟨by assumption, by first | exact trivial | decide | omega | (dsimp only; omega)⟩) ?_) | (apply And.intro) | (intro s hs; (have q : s = ([] ++ ipL src ++ ipL dst) ++ beB (IntKind.u64.wrap n) 4 := hs.trans (congrArg (fun l => l ++ beB (IntKind.u64.wrap n) 4) (toL_is (l := [] ++ ipL src ++ ipL dst) rfl (dps_row (fun _ => nth [CV.int IntKind.u8 0]) src dst)))); clear hs))
  all_goals first
    | exact rfl
    | (show (toL eB _ _).length ≤ _; rw [toL_len]; omega)
    | (have := congrArg List.length q; have h2 := beB_len (IntKind.u64.wrap n) 4; simp only [List.length_append, ipL_len, List.length_nil] at this; omega)
    | skip
  · exact fun i hi => ok_is (dps_row (fun _ => nth [CV.int IntKind.u8 0]) src dst) hi
  · have e : w = s ++ [0, 0, 0, nx] := by
      rw [← eW, q]; rfl
    rw [e]
    refine ⟨⟨some _, leF_c (leC_os rfl (by rw [List.length_append]; rfl)), leN_is (by rw [List.length_append]; rfl) (isRow_sel rfl (isRow_row _) fun k hk => ?_)⟩⟩
    rw [show s.length + k - s.length = k by omega]
    rcases k with _ | _ | _ | _ | k
    · rfl
    · rfl
    · rfl
    · rfl
    · exact absurd hk (by show ¬ _ < 4; omega)
abbrev dpseudoE : Entry := newE (AC.cons (cE (eA .u8 16)) (AC.cons (cE (eA .u8 16)) (AC.cons (cI .i64) (AC.cons (cI .u8) AC.nil)))) (fun _ => True) (fun a => dpsB a.1 a.2.1 a.2.2.1 a.2.2.2.1) (fun L => some L.length) (fun _ => none) (fun L => ents eB 5 L)
def LDs0 : CsL := (45, some dpseudoE) :: LSm
theorem LDs0_ok : AllOk Try.prog LDs0 := ⟨newE_ok ⟨_, Try.func45, rfl, by kernel_rfl⟩ (fun s l h => by cases h) fun a _ => dpseudo_ok a.1 a.2.1 a.2.2.1 a.2.2.2.1, LSm_ok⟩
/-- All bytes, from the third to the i-th of the first four set to 0. -/
def zB (b : List Int) (i : Nat) : List Int := headZ b i ++ b.drop 4
theorem zB_len (b : List Int) (i : Nat) : (zB b i).length = b.length := by
  unfold zB
  rw [List.length_append, headZ_len, List.length_drop]; omega
theorem zB_2 (b : List Int) : zB b 2 = b := by
  unfold zB
  rw [headZ_2, List.take_append_drop]
theorem zB_step (b : List Int) {i : Nat} (h2 : 2 ≤ i) (h : i < min b.length 4) : zB b (i + 1) = (zB b i).set i 0 := by
  unfold zB
  rw [headZ_step b h2, List.set_append_left _ _ (by rw [headZ_len]; exact h)]
theorem cov_key2 {b : List Int} {src dst : Fin 16 → Int} (hb : BL b) (hs : byteOk src) (hd : byteOk dst) (hl : b.length ≤ 140737488355000) {A B : List Int} (hA : A = dpsB src dst b.length 58) (hB : B = zero24 b) :
    [A, B].flatten = covD b src dst ∧ BLL [A, B] ∧ [A, B].flatten.length ≤ 140737488355328 := by
  have e : [A, B].flatten = covD b src dst := by
    subst hA hB
    unfold covD dpsB
    rw [u64_len hl]
    simp only [List.flatten_cons, List.flatten_nil, List.append_nil, List.append_assoc]
    rfl
  refine ⟨e, ⟨fun l h => ?_⟩, ?_⟩
  · simp only [List.mem_cons, List.not_mem_nil, or_false] at h
    rcases h with rfl | rfl
    · rw [hA]
      exact (((ipBL hs).append (ipBL hd)).append (beB_BL _ _)).append (BL.cons (by omega) (BL.cons (by omega) (BL.cons (by omega) (BL.cons (by omega) BL.nil))))
    · rw [hB]; exact zero24_BL hb
  · rw [e]
    unfold covD
    simp only [List.length_append, ipL_len, beN_len, zero24_len, List.length_cons, List.length_nil]
    omega
set_option maxRecDepth 20000 in
set_option maxHeartbeats 4000000 in
theorem drsum_ok (b : List Int) (src dst : Fin 16 → Int) (hb : BL b) (hs : byteOk src) (hd : byteOk dst) (hl : b.length ≤ 140737488355000) : PureOk Try.prog 18 [(cSl eB eB_sz).enc b, (cE (eA .u8 16)).enc src, (cE (eA .u8 16)).enc dst] ((cI .u16).enc (sumD b src dst)) := by
  refine pure_intro (wd := 1) (Q := mkQ LDs0) (by decide) tysOk (q_of LDs0_ok) mixed Try.func18 rfl _ (by show 3 ≤ _; decide) _ ?_
  repeat' (first | (apply And.intro <;> intro hc <;> (first | exact Bool.noConfusion hc | (simp only [decide_eq_true_eq, decide_eq_false_iff_not, Bool.not_eq_true', Bool.not_eq_false', beq_iff_eq, beq_eq_false_iff_ne, bne_iff_ne, bne_eq_false_iff_eq, Bool.true_eq_false, Bool.false_eq_true] at hc) | skip)) | (refine And.intro (by first | exact trivial | decide | omega | (dsimp only; omega) | exact fun _ _ => rfl) ?_) | (apply And.intro) | (intro s hs))
  refine loop_intro (mono_of LDs0_ok) (fun s : {i : Nat // 2 ≤ i ∧ i ≤ 4} => (⟨[(0, one (.os 40 0 (zB b s.1).length)), (4, one (.ptr 0 0 0 false)), (5, one (.ptr 1 0 0 false)), (7, one (.int .i64 (s.1 : Int)))],
    [(0, some ⟨24, 1, 16, true, fun _ => (eA .u8 16).cell src⟩), (1, some ⟨24, 1, 16, true, fun _ => (eA .u8 16).cell dst⟩), (40, some (entB (zB b s.1)))], 41⟩ : Hd)) (fun s => 4 - s.1) (fun _ => rfl) ?_ ⟨2, by omega, by omega⟩ [(40, some 5)] ?_
  · rintro ⟨i, hi, hi4⟩
    dsimp only at hi hi4 ⊢
    have hlen := zB_len b i
    repeat' (first | (apply And.intro <;> intro hc <;> (first | exact Bool.noConfusion hc | (simp only [decide_eq_true_eq, decide_eq_false_iff_not, Bool.not_eq_true', Bool.not_eq_false', beq_iff_eq, beq_eq_false_iff_ne, bne_iff_ne, bne_eq_false_iff_eq, Bool.true_eq_false, Bool.false_eq_true] at hc) | skip)) | (refine And.intro (by first | exact trivial | decide | omega | (dsimp only; omega) | exact fun _ _ => rfl) ?_) | (apply And.intro) | (intro s hs))
    · refine ⟨⟨i + 1, by omega, by omega⟩, [], by dsimp only <;> omega, rfl, ?_, ?_⟩
      · repeat' (first | exact trivial | exact rfl | exact leF_ptr rfl | exact leF_int rfl | exact leF_bool rfl | exact leF_cl (cl_slB _ _) | exact leF_cl (cl_slR _ _) | exact leF_cl (cl_ll _ _) | exact leF_c (leC_os rfl rfl) | refine leF_int ?_ | refine leF_bool ?_ | exact leN_varA (fun _ _ => (Elem.flat _ _ _).le) | exact leN_varA (fun _ _ => leC_top) | apply And.intro)
        · exact leF_c (leC_os rfl (by dsimp only; rw [zB_len, zB_len]))
        · first | (dsimp only; rw [IntWalk.i64_in _ (by omega)]; omega) | (dsimp only; rw [IntWalk.i64_in _ (by omega)]; done) | (dsimp only; exact IntWalk.i64_in _ (by omega)) | exact IntWalk.i64_in _ (by omega) | (rw [IntWalk.i64_in _ (by omega)]; omega)
      · repeat' (first | exact trivial | exact rfl | exact leF_ptr rfl | exact leF_int rfl | exact leF_bool rfl | exact leF_cl (cl_slB _ _) | exact leF_cl (cl_slR _ _) | exact leF_cl (cl_ll _ _) | exact leF_c (leC_os rfl rfl) | refine leF_int ?_ | refine leF_bool ?_ | exact leN_varA (fun _ _ => (Elem.flat _ _ _).le) | exact leN_varA (fun _ _ => leC_top) | apply And.intro)
        dsimp only
        rw [zB_step b hi (by omega)]
        rw [show 0 + (i : Int).toNat = i by omega]
        exact leN_set (E := eB) (L := zB b i) (idx := i) (x := 0) rfl (by omega) (fun _ _ _ _ => (Elem.flat _ _ _).le) fun j hj => leC_int rfl
    all_goals
      have hE : min b.length 4 ≤ i := by omega
      have kP : ∀ s : List Int, s = dpsB ((eA .u8 16).rd fun q => (eA .u8 16).cell src (0 + q)) ((eA .u8 16).rd fun q => (eA .u8 16).cell dst (0 + q)) ((zB b i).length : Int) 58 → (toL eB s.length fun k j => rowF eB s (0 + k) j) = dpsB src dst b.length 58 := fun s h => by rw [toL_b0, h, rd_ip, rd_ip, hlen]
      have K := fun s h => cov_key2 hb (by assumption : byteOk src) hd hl (kP s h) ((toL_b0 (zB b i)).trans (headZ_end b hE))
      clear kP
      first
        | exact rfl
        | exact (K _ (by assumption)).2.1
        | exact (K _ (by assumption)).2.2
        | exact (by decide : (2 : Nat) ≤ 16)
        | exact Done.mk (leF_int (hs.trans (congrArg inetF (K _ (by assumption)).1)))
  · refine ⟨rfl, ?_, ?_⟩
    · repeat' (first | exact trivial | exact rfl | exact leF_ptr rfl | exact leF_int rfl | exact leF_bool rfl | exact leF_cl (cl_slB _ _) | exact leF_cl (cl_slR _ _) | exact leF_cl (cl_ll _ _) | exact leF_c (leC_os rfl rfl) | refine leF_int ?_ | refine leF_bool ?_ | exact leN_varA (fun _ _ => (Elem.flat _ _ _).le) | exact leN_varA (fun _ _ => leC_top) | apply And.intro)
      exact leF_c (leC_os rfl (by dsimp only; rw [zB_2]; omega))
    · repeat' (first | exact trivial | exact rfl | exact leF_ptr rfl | exact leF_int rfl | exact leF_bool rfl | exact leF_cl (cl_slB _ _) | exact leF_cl (cl_slR _ _) | exact leF_cl (cl_ll _ _) | exact leF_c (leC_os rfl rfl) | refine leF_int ?_ | refine leF_bool ?_ | exact leN_varA (fun _ _ => (Elem.flat _ _ _).le) | exact leN_varA (fun _ _ => leC_top) | apply And.intro)
      show LeN _ _ (entB (zB b 2))
      rw [zB_2]
      exact leN_is (by omega) ⟨fun k hk => by
        show selC (Nat.blt k 0) _ (CV.int .u8 (b.getD (k - 0) default)) = _
        rw [blt_no (Nat.zero_le k), selC_false]; rfl⟩
abbrev dsumE : Entry := pureE (AC.cons (cSl eB eB_sz) (AC.cons (cE (eA .u8 16)) (AC.cons (cE (eA .u8 16)) AC.nil))) (fun a => BL a.1 ∧ byteOk a.2.1 ∧ byteOk a.2.2.1 ∧ a.1.length ≤ 140737488355000) (fun a => sumD a.1 a.2.1 a.2.2.1) (cI .u16).enc
def LDs : CsL := (17, some dsumE) :: (18, some dsumE) :: LDs0
theorem LDs_ok : AllOk Try.prog LDs := ⟨pureE_ok ⟨_, Try.func17, rfl, by kernel_rfl⟩ fun a h => dsum_ok a.1 a.2.1 a.2.2.1 h.1 h.2.1 h.2.2.1 h.2.2.2, pureE_ok ⟨_, Try.func18, rfl, by kernel_rfl⟩ fun a h => drsum_ok a.1 a.2.1 a.2.2.1 h.1 h.2.1 h.2.2.1 h.2.2.2, LDs0_ok⟩
end Go.Proofs.Ythbhidfohdipnaa.AX

/- The writer of discovery messages: flag, number, ip, row. -/
namespace Go.Proofs.Ythbhidfohdipnaa.AX
open Go.RowKit
set_option linter.unusedVariables false
set_option linter.unusedSimpArgs false
theorem flag_ok (b : Bool) (v : Int) : PureOk Try.prog 59 [cB.enc b, (cI .u8).enc v] ((cI .u8).enc (fB b v)) := by
  refine pure_intro (wd := 1) (Q := mkQ LE0) (by decide) tysOk (q_of LE0_ok) mixed Try.func59 rfl _ (by show 2 ≤ _; decide) _ ?_
  repeat' (first | (apply And.intro <;> intro hc <;> (first | exact Bool.noConfusion hc | (simp only [decide_eq_true_eq, decide_eq_false_iff_not, Bool.not_eq_true', Bool.not_eq_false', beq_iff_eq, beq_eq_false_iff_ne, bne_iff_ne, bne_eq_false_iff_eq, Bool.true_eq_false, Bool.false_eq_true] at hc) | skip)) | (refine And.intro (by first | exact trivial | decide | omega | (dsimp only; omega) | exact fun _ _ => rfl) ?_) | (apply And.intro) | (intro s hs))
  all_goals (refine Done.mk (leF_int ?_); simp [fB, *])
abbrev flagE : Entry := pureE (AC.cons cB (AC.cons (cI .u8) AC.nil)) (fun _ => True) (fun a => fB a.1 a.2.1) (cI .u8).enc
abbrev tW : TypeId := 86
theorem ipat {a : Fin 16 → Int} {k i : Nat} (e : i = k) (hk : k < 16) : CV.int .u8 (vget a i) = .int .u8 ((ipL a).getD k default) := by
  subst e
  unfold ipL
  rw [List.getD_eq_getElem?_getD, List.getElem?_map, List.getElem?_range hk]; rfl
set_option maxRecDepth 20000 in
theorem wnum_ok (L : List Int) (v n : Int) (hl : L.length ≤ 1048576) : WrOk Try.prog 56 tW [(cI .u64).enc v, (cI .i64).enc n] (entB L) (entB (L ++ beB v n)) := by
  refine wr_intro (wd := 1) (Q := mkQ LSm) (by decide) tysOk (q_of LSm_ok) mixed Try.func56 rfl _ (by show 2 + 1 ≤ _; decide) ⟨fun _ _ => flat_int⟩ rfl ?_; dsimp only [entB, ents]
  repeat' (first | (apply And.intro <;> intro hc <;> (first | exact Bool.noConfusion hc | (simp only [decide_eq_true_eq, decide_eq_false_iff_not, Bool.not_eq_true', Bool.not_eq_false', beq_iff_eq, beq_eq_false_iff_ne, bne_iff_ne, bne_eq_false_iff_eq, Bool.true_eq_false, Bool.false_eq_true, ne_eq, not_true_eq_false] at hc <;> first | exact absurd rfl hc | skip) | skip)) | (refine And.intro (by first | exact trivial | decide | omega | (dsimp only; omega) | exact fun _ _ => rfl | exact ⟨by assumption, by first | exact trivial | decide | omega | (dsimp only; omega)⟩) ?_) | (apply And.intro) | (intro s hs; (have q : s = L ++ beB v n := hs.trans (congrArg (fun l => l ++ beB v n) (toL_b0 L)); clear hs; subst q)))
  · exact fun _ _ => rfl
  · exact Nat.le_trans (Nat.le_of_eq (congrArg List.length (toL_b0 L))) (by omega)
  · exact ⟨finWx (j := 9) rfl rfl rfl fun c => leN_ents⟩
set_option maxRecDepth 20000 in
theorem wip_ok2 (L : List Int) (a : Fin 16 → Int) (hl : L.length ≤ 1048576) : WrOk Try.prog 58 tW [(cE (eA .u8 16)).enc a] (entB L) (entB (L ++ ipL a)) := by
  refine wr_intro (wd := 1) (Q := mkQ LSm) (by decide) tysOk (q_of LSm_ok) mixed Try.func58 rfl _ (by show 1 + 1 ≤ _; decide) ⟨fun _ _ => flat_int⟩ rfl ?_; dsimp only [entB, ents]
  repeat' (first | (apply And.intro <;> intro hc <;> (first | exact Bool.noConfusion hc | (simp only [decide_eq_true_eq, decide_eq_false_iff_not, Bool.not_eq_true', Bool.not_eq_false', beq_iff_eq, beq_eq_false_iff_ne, bne_iff_ne, bne_eq_false_iff_eq, Bool.true_eq_false, Bool.false_eq_true] at hc) | skip)) | (refine And.intro (by first | exact trivial | decide | omega | (dsimp only; omega) | exact fun _ _ => rfl) ?_) | (apply And.intro) | (intro s hs))
  · omega
  · exact ⟨finWx rfl rfl rfl fun c => leN_is (by rw [List.length_append, ipL_len]) (isRow_sel rfl (isRow_row _) fun k hk => ipat (by show 0 + 0 * 1 + ((L.length + k - L.length) * 1 + 0) = k; omega) (by rw [ipL_len] at hk; exact hk))⟩
set_option maxRecDepth 20000 in
theorem wrow_ok (L l : List Int) (hl : L.length ≤ 1048576) (hl2 : l.length ≤ 1048576) : WrOk Try.prog 57 tW [(cSl eB eB_sz).enc l] (entB L) (entB (L ++ l)) := by
  refine wr_intro (wd := 1) (Q := mkQ LSm) (by decide) tysOk (q_of LSm_ok) mixed Try.func57 rfl _ (by show 1 + 1 ≤ _; decide) ⟨fun _ _ => flat_int⟩ rfl ?_; dsimp only [entB, ents]
  repeat' (first | (apply And.intro <;> intro hc <;> (first | exact Bool.noConfusion hc | (simp only [decide_eq_true_eq, decide_eq_false_iff_not, Bool.not_eq_true', Bool.not_eq_false', beq_iff_eq, beq_eq_false_iff_ne, bne_iff_ne, bne_eq_false_iff_eq, Bool.true_eq_false, Bool.false_eq_true] at hc) | skip)) | (refine And.intro (by first | exact trivial | decide | omega | (dsimp only; omega) | exact fun _ _ => rfl) ?_) | (apply And.intro) | (intro s hs))
  all_goals first
    | exact ⟨finWx rfl rfl rfl fun c => leN_is (by rw [List.length_append]) (isRow_sel rfl (isRow_row _) fun k hk => by show CV.int .u8 _ = _; congr 2; omega)⟩
    | omega
abbrev wnumE : Entry := wrE tW (AC.cons (cI .u64) (AC.cons (cI .i64) AC.nil)) (fun L _ => L.length ≤ 1048576) (fun L a => L ++ beB a.1 a.2.1)
abbrev wipE2 : Entry := wrE tW (AC.cons (cE (eA .u8 16)) AC.nil) (fun L _ => L.length ≤ 1048576) (fun L a => L ++ ipL a.1)
abbrev wrowE : Entry := wrE tW (AC.cons (cSl eB eB_sz) AC.nil) (fun L a => L.length ≤ 1048576 ∧ a.1.length ≤ 1048576) (fun L a => L ++ a.1)
def LDw : CsL := (59, some flagE) :: (56, some wnumE) :: (58, some wipE2) :: (57, some wrowE) :: LSm
theorem LDw_ok : AllOk Try.prog LDw := ⟨pureE_ok ⟨_, Try.func59, rfl, by kernel_rfl⟩ fun a _ => flag_ok a.1 a.2.1, wrE_ok ⟨_, Try.func56, rfl, by kernel_rfl⟩ fun L a h => wnum_ok L a.1 a.2.1 h, wrE_ok ⟨_, Try.func58, rfl, by kernel_rfl⟩ fun L a h => wip_ok2 L a.1 h,
  wrE_ok ⟨_, Try.func57, rfl, by kernel_rfl⟩ fun L a h => wrow_ok L a.1 h.1 h.2, LSm_ok⟩
end Go.Proofs.Ythbhidfohdipnaa.AX

/- Discovery messages: layoutOf, validLists and Valid of the program. -/
namespace Go.Proofs.Ythbhidfohdipnaa.AX
open Go.RowKit
set_option linter.unusedVariables false
set_option linter.unusedSimpArgs false
theorem zeq3 (b : Adr) (h : b.mode = 0) : eqFrom (fun q => eAdr.cell b q) (nth [CV.int .i64 0, .int .u16 0, .int .u64 0]) 3 0 = ((b.short == 0) && (b.eui == 0)) := by
  show ((b.mode == 0) && ((b.short == 0) && ((b.eui == 0) && true))) = _
  rw [h]; simp
theorem davalid_ok (a : Adr) : PureOk Try.prog 37 [(cE eAdr).enc a] (cB.enc (adrValid a)) := by
  refine pure_intro (wd := 1) (Q := mkQ LE0) (by decide) tysOk (q_of LE0_ok) mixed Try.func37 rfl _ (by show 1 ≤ _; decide) _ ?_
  repeat' (first | (apply And.intro <;> intro hc <;> (first | exact Bool.noConfusion hc | (simp only [decide_eq_true_eq, decide_eq_false_iff_not, Bool.not_eq_true', Bool.not_eq_false', beq_iff_eq, beq_eq_false_iff_ne, bne_iff_ne, bne_eq_false_iff_eq, Bool.true_eq_false, Bool.false_eq_true] at hc) | skip)) | (refine And.intro (by first | exact trivial | decide | omega | (dsimp only; omega) | exact fun _ _ => rfl) ?_) | (apply And.intro) | (intro s hs))
  all_goals first
    | (refine Done.mk (leF_bool ?_); simp [adrValid, *]; done)
    | (refine Done.mk (leF_bool ((zeq3 a (by assumption)).trans ?_)); simp [adrValid, *])
structure Lay where
  router : Bool
  target : Bool
  source : Bool
  option : Bool
  owner : Bool
  size : Int
def eLayC (x : Lay) (j : Nat) : CV := bif Nat.beq j 0 then .bool x.router else bif Nat.beq j 1 then .bool x.target else bif Nat.beq j 2 then .bool x.source else bif Nat.beq j 3 then .bool x.option else bif Nat.beq j 4 then .bool x.owner else (.int .i64 x.size)
def eLay : Elem Lay where
  sz := 6
  cell := eLayC
  rd g := ⟨valB (g 0), valB (g 1), valB (g 2), valB (g 3), valB (g 4), valI (g 5)⟩
  ok g := isB (g 0) && isB (g 1) && isB (g 2) && isB (g 3) && isB (g 4) && isK .i64 (g 5)
  ok_eq g h j hj := by
    simp only [Bool.and_eq_true] at h
    unfold eLayC
    by_cases c0 : j < 1
    · have e : j = 0 := by omega
      subst e
      exact isB_eq h.1.1.1.1.1
    by_cases c1 : j < 2
    · have e : j = 1 := by omega
      subst e
      exact isB_eq h.1.1.1.1.2
    by_cases c2 : j < 3
    · have e : j = 2 := by omega
      subst e
      exact isB_eq h.1.1.1.2
    by_cases c3 : j < 4
    · have e : j = 3 := by omega
      subst e
      exact isB_eq h.1.1.2
    by_cases c4 : j < 5
    · have e : j = 4 := by omega
      subst e
      exact isB_eq h.1.2
    by_cases c5 : j < 6
    · have e : j = 5 := by omega
      subst e
      exact isK_eq h.2
    omega
  flat a j := by
    unfold eLayC
    cases Nat.beq j 0 with
    | true => exact flat_bool
    | false =>
    cases Nat.beq j 1 with
    | true => exact flat_bool
    | false =>
    cases Nat.beq j 2 with
    | true => exact flat_bool
    | false =>
    cases Nat.beq j 3 with
    | true => exact flat_bool
    | false =>
    cases Nat.beq j 4 with
    | true => exact flat_bool
    | false =>
    exact flat_int
def layF (t : Int) : Lay := if t = 133 then ⟨false, false, true, false, false, 8⟩ else if t = 134 then ⟨true, false, true, false, false, 16⟩ else if isNb t then ⟨false, true, true, true, false, 24⟩ else if isDup t then ⟨false, true, false, false, true, 32⟩ else ⟨false, false, false, false, false, 0⟩
def encLay (r : Lay × Bool) : FV := .tup [.agg 6 (eLay.cell r.1), .c (.bool r.2)]
set_option maxRecDepth 20000 in
theorem layout_133 : PureOk Try.prog 30 [(cI .u8).enc 133] (encLay (⟨false, false, true, false, false, 8⟩, true)) := by
  refine pure_intro (wd := 1) (Q := mkQ LE0) (by decide) tysOk (q_of LE0_ok) mixed Try.func30 rfl _ (by show 1 ≤ _; decide) _ ?_
  repeat' (first | (apply And.intro <;> intro hc <;> (first | exact Bool.noConfusion hc | (simp only [decide_eq_true_eq, decide_eq_false_iff_not, Bool.not_eq_true', Bool.not_eq_false', beq_iff_eq, beq_eq_false_iff_ne, bne_iff_ne, bne_eq_false_iff_eq, Bool.true_eq_false, Bool.false_eq_true] at hc) | skip)) | (refine And.intro (by first | exact trivial | decide | omega | (dsimp only; omega) | exact fun _ _ => rfl) ?_) | (apply And.intro) | (intro s hs))
  refine Done.mk (leF_tup ⟨leE_all ?_, leE_c (leC_bool rfl), trivial⟩)
  repeat' (first | exact trivial | exact leC_int rfl | exact leC_bool rfl | apply And.intro)
set_option maxRecDepth 20000 in
theorem layout_134 : PureOk Try.prog 30 [(cI .u8).enc 134] (encLay (⟨true, false, true, false, false, 16⟩, true)) := by
  refine pure_intro (wd := 1) (Q := mkQ LE0) (by decide) tysOk (q_of LE0_ok) mixed Try.func30 rfl _ (by show 1 ≤ _; decide) _ ?_
  repeat' (first | (apply And.intro <;> intro hc <;> (first | exact Bool.noConfusion hc | (simp only [decide_eq_true_eq, decide_eq_false_iff_not, Bool.not_eq_true', Bool.not_eq_false', beq_iff_eq, beq_eq_false_iff_ne, bne_iff_ne, bne_eq_false_iff_eq, Bool.true_eq_false, Bool.false_eq_true] at hc) | skip)) | (refine And.intro (by first | exact trivial | decide | omega | (dsimp only; omega) | exact fun _ _ => rfl) ?_) | (apply And.intro) | (intro s hs))
  refine Done.mk (leF_tup ⟨leE_all ?_, leE_c (leC_bool rfl), trivial⟩)
  repeat' (first | exact trivial | exact leC_int rfl | exact leC_bool rfl | apply And.intro)
set_option maxRecDepth 20000 in
theorem layout_135 : PureOk Try.prog 30 [(cI .u8).enc 135] (encLay (⟨false, true, true, true, false, 24⟩, true)) := by
  refine pure_intro (wd := 1) (Q := mkQ LE0) (by decide) tysOk (q_of LE0_ok) mixed Try.func30 rfl _ (by show 1 ≤ _; decide) _ ?_
  repeat' (first | (apply And.intro <;> intro hc <;> (first | exact Bool.noConfusion hc | (simp only [decide_eq_true_eq, decide_eq_false_iff_not, Bool.not_eq_true', Bool.not_eq_false', beq_iff_eq, beq_eq_false_iff_ne, bne_iff_ne, bne_eq_false_iff_eq, Bool.true_eq_false, Bool.false_eq_true] at hc) | skip)) | (refine And.intro (by first | exact trivial | decide | omega | (dsimp only; omega) | exact fun _ _ => rfl) ?_) | (apply And.intro) | (intro s hs))
  refine Done.mk (leF_tup ⟨leE_all ?_, leE_c (leC_bool rfl), trivial⟩)
  repeat' (first | exact trivial | exact leC_int rfl | exact leC_bool rfl | apply And.intro)
set_option maxRecDepth 20000 in
theorem layout_136 : PureOk Try.prog 30 [(cI .u8).enc 136] (encLay (⟨false, true, true, true, false, 24⟩, true)) := by
  refine pure_intro (wd := 1) (Q := mkQ LE0) (by decide) tysOk (q_of LE0_ok) mixed Try.func30 rfl _ (by show 1 ≤ _; decide) _ ?_
  repeat' (first | (apply And.intro <;> intro hc <;> (first | exact Bool.noConfusion hc | (simp only [decide_eq_true_eq, decide_eq_false_iff_not, Bool.not_eq_true', Bool.not_eq_false', beq_iff_eq, beq_eq_false_iff_ne, bne_iff_ne, bne_eq_false_iff_eq, Bool.true_eq_false, Bool.false_eq_true] at hc) | skip)) | (refine And.intro (by first | exact trivial | decide | omega | (dsimp only; omega) | exact fun _ _ => rfl) ?_) | (apply And.intro) | (intro s hs))
  refine Done.mk (leF_tup ⟨leE_all ?_, leE_c (leC_bool rfl), trivial⟩)
  repeat' (first | exact trivial | exact leC_int rfl | exact leC_bool rfl | apply And.intro)
set_option maxRecDepth 20000 in
theorem layout_157 : PureOk Try.prog 30 [(cI .u8).enc 157] (encLay (⟨false, true, false, false, true, 32⟩, true)) := by
  refine pure_intro (wd := 1) (Q := mkQ LE0) (by decide) tysOk (q_of LE0_ok) mixed Try.func30 rfl _ (by show 1 ≤ _; decide) _ ?_
  repeat' (first | (apply And.intro <;> intro hc <;> (first | exact Bool.noConfusion hc | (simp only [decide_eq_true_eq, decide_eq_false_iff_not, Bool.not_eq_true', Bool.not_eq_false', beq_iff_eq, beq_eq_false_iff_ne, bne_iff_ne, bne_eq_false_iff_eq, Bool.true_eq_false, Bool.false_eq_true] at hc) | skip)) | (refine And.intro (by first | exact trivial | decide | omega | (dsimp only; omega) | exact fun _ _ => rfl) ?_) | (apply And.intro) | (intro s hs))
  refine Done.mk (leF_tup ⟨leE_all ?_, leE_c (leC_bool rfl), trivial⟩)
  repeat' (first | exact trivial | exact leC_int rfl | exact leC_bool rfl | apply And.intro)
set_option maxRecDepth 20000 in
theorem layout_158 : PureOk Try.prog 30 [(cI .u8).enc 158] (encLay (⟨false, true, false, false, true, 32⟩, true)) := by
  refine pure_intro (wd := 1) (Q := mkQ LE0) (by decide) tysOk (q_of LE0_ok) mixed Try.func30 rfl _ (by show 1 ≤ _; decide) _ ?_
  repeat' (first | (apply And.intro <;> intro hc <;> (first | exact Bool.noConfusion hc | (simp only [decide_eq_true_eq, decide_eq_false_iff_not, Bool.not_eq_true', Bool.not_eq_false', beq_iff_eq, beq_eq_false_iff_ne, bne_iff_ne, bne_eq_false_iff_eq, Bool.true_eq_false, Bool.false_eq_true] at hc) | skip)) | (refine And.intro (by first | exact trivial | decide | omega | (dsimp only; omega) | exact fun _ _ => rfl) ?_) | (apply And.intro) | (intro s hs))
  refine Done.mk (leF_tup ⟨leE_all ?_, leE_c (leC_bool rfl), trivial⟩)
  repeat' (first | exact trivial | exact leC_int rfl | exact leC_bool rfl | apply And.intro)
theorem find_no {p : Nat → Bool} (h0 : p 0 = false) (h1 : p 1 = false) (h2 : p 2 = false) (h3 : p 3 = false) (h4 : p 4 = false) (h5 : p 5 = false) : Nat.blt (findI p 6 0) 6 = false := by
  have e : findI p 6 0 = 6 := by
    show (bif p 0 then 0 else bif p 1 then 1 else bif p 2 then 2 else bif p 3 then 3 else bif p 4 then 4 else bif p 5 then 5 else 6) = 6
    rw [h0, h1, h2, h3, h4, h5]; rfl
  rw [e]; rfl
set_option maxRecDepth 20000 in
theorem layout_no {t : Int} (h0 : ((t == 133) && true) = false) (h1 : ((t == 134) && true) = false) (h2 : ((t == 135) && true) = false) (h3 : ((t == 136) && true) = false) (h4 : ((t == 157) && true) = false) (h5 : ((t == 158) && true) = false) :
    PureOk Try.prog 30 [(cI .u8).enc t] (encLay (⟨false, false, false, false, false, 0⟩, false)) := by
  refine pure_intro (wd := 1) (Q := mkQ LE0) (by decide) tysOk (q_of LE0_ok) mixed Try.func30 rfl _ (by show 1 ≤ _; decide) _ ?_
  repeat' (first | (apply And.intro <;> intro hc <;> (first | exact Bool.noConfusion hc | (simp only [decide_eq_true_eq, decide_eq_false_iff_not, Bool.not_eq_true', Bool.not_eq_false', beq_iff_eq, beq_eq_false_iff_ne, bne_iff_ne, bne_eq_false_iff_eq, Bool.true_eq_false, Bool.false_eq_true] at hc) | skip)) | (refine And.intro (by first | exact trivial | decide | omega | (dsimp only; omega) | exact fun _ _ => rfl) ?_) | (apply And.intro) | (intro s hs))
  · iterate 6 (rcases s with _ | s; · exact rfl)
    exact absurd (show s + 6 < 6 from hs) (by omega)
  refine Done.mk (leF_tup ?_)
  refine ⟨leE_all ?_, leE_c (leC_bool ?_), trivial⟩
  case refine_2 => exact find_no h0 h1 h2 h3 h4 h5
  repeat' (first | exact trivial | exact selC_out (find_no h0 h1 h2 h3 h4 h5) (leC_bool rfl) | exact selC_out (find_no h0 h1 h2 h3 h4 h5) (leC_int rfl) | apply And.intro)
theorem layout_ok (t : Int) : PureOk Try.prog 30 [(cI .u8).enc t] (encLay (layF t, decide (tyOk t))) := by
  by_cases h0 : t = 133
  · subst h0; exact layout_133
  by_cases h1 : t = 134
  · subst h1; exact layout_134
  by_cases h2 : t = 135
  · subst h2; exact layout_135
  by_cases h3 : t = 136
  · subst h3; exact layout_136
  by_cases h4 : t = 157
  · subst h4; exact layout_157
  by_cases h5 : t = 158
  · subst h5; exact layout_158
  have e1 : ¬ isNb t := by unfold isNb; omega
  have e2 : ¬ isDup t := by unfold isDup; omega
  have e3 : ¬ tyOk t := by unfold tyOk; rintro (h | h | h | h) <;> contradiction
  have e : (layF t, decide (tyOk t)) = ((⟨false, false, false, false, false, 0⟩ : Lay), false) := by
    rw [decide_eq_false e3]
    unfold layF
    rw [if_neg h0, if_neg h1, if_neg e1, if_neg e2]
  rw [e]
  exact layout_no (by simp [h0]) (by simp [h1]) (by simp [h2]) (by simp [h3]) (by simp [h4]) (by simp [h5])
abbrev layE : Entry := pureE (AC.cons (cI .u8) AC.nil) (fun _ => True) (fun a => (layF a.1, decide (tyOk a.1))) encLay
abbrev davE : Entry := pureE (AC.cons (cE eAdr) AC.nil) (fun _ => True) (fun a => adrValid a.1) cB.enc
abbrev vpfE : Entry := pureE (AC.cons (cE ePfx) AC.nil) (fun _ => True) (fun a => vpf a.1) cB.enc
def LDv0 : CsL := (30, some layE) :: (37, some davE) :: (38, some bcE) :: (62, some vpfE) :: []
theorem LDv0_ok : AllOk Try.prog LDv0 := ⟨pureE_ok ⟨_, Try.func30, rfl, by kernel_rfl⟩ fun a _ => layout_ok a.1, pureE_ok ⟨_, Try.func37, rfl, by kernel_rfl⟩ fun a _ => davalid_ok a.1, pureE_ok ⟨_, Try.func38, rfl, by kernel_rfl⟩ fun a _ => abc_ok a.1, pureE_ok ⟨_, Try.func62, rfl, by kernel_rfl⟩ fun a _ => vpf_ok a.1, trivial⟩
/-! ### validLists -/
def vlF (m : Msg) : Bool := decide (m.p.length ≤ 16) && decide (m.c.length ≤ 16) && (m.p.all fun p => vpf (pfxP p)) && m.c.all okC
theorem all_step {α : Type} [Inhabited α] {f : α → Bool} {l : List α} {i : Nat} (h : i < l.length) (h1 : (l.take i).all f = true) (h2 : f (l.getD i default) = true) : (l.take (i + 1)).all f = true := by
  rw [List.take_succ_eq_append_getElem h, List.all_append, h1]
  have : l.getD i default = l[i] := by rw [List.getD_eq_getElem?_getD, List.getElem?_eq_getElem h]; rfl
  rw [this] at h2
  simp [h2]
theorem all_no {α : Type} [Inhabited α] {f : α → Bool} {l : List α} {i : Nat} (h : i < l.length) (h2 : f (l.getD i default) = false) : l.all f = false := by
  have : l.getD i default = l[i] := by rw [List.getD_eq_getElem?_getD, List.getElem?_eq_getElem h]; rfl
  rw [this] at h2
  cases hb : l.all f with
  | false => rfl
  | true =>
    have := List.all_eq_true.1 hb _ (List.getElem_mem h)
    rw [h2] at this; cases this
theorem pfx_P (x : PI) : ePfx.rd (fun q => ePI.cell x (0 + 0 + q)) = pfxP x := by
  show (⟨fun q => valI (ePI.cell x (0 + 0 + (0 + q.1))), valI (ePI.cell x (0 + 0 + 16))⟩ : Pfx) = _
  have := ePI_ip x
  simp only [Nat.zero_add] at this ⊢
  rw [this]; rfl
theorem pfx_C (x : CI) : ePfx.rd (fun q => eCI.cell x (0 + 1 + q)) = pfxC x := by
  show (⟨fun q => valI (eCI.cell x (0 + 1 + (0 + q.1))), valI (eCI.cell x (0 + 1 + 16))⟩ : Pfx) = _
  have := eCI_ip x
  simp only [Nat.zero_add] at this ⊢
  rw [this]; rfl
set_option maxRecDepth 20000 in
set_option maxHeartbeats 4000000 in
theorem vl_ok (m : Msg) (hp : m.p.length ≤ 9223372036854775807) (hn : m.c.length ≤ 9223372036854775807) : PureOk Try.prog 36 [cMsg.enc m] (cB.enc (vlF m)) := by
  refine pure_intro (wd := 1) (Q := mkQ LDv0) (by decide) tysOk (q_of LDv0_ok) mixed Try.func36 rfl _ (by show 1 ≤ _; decide) _ ?_
  repeat' (first | (apply And.intro <;> intro hc <;> (first | exact Bool.noConfusion hc | (simp only [decide_eq_true_eq, decide_eq_false_iff_not, Bool.not_eq_true', Bool.not_eq_false', beq_iff_eq, beq_eq_false_iff_ne, bne_iff_ne, bne_eq_false_iff_eq, Bool.true_eq_false, Bool.false_eq_true] at hc) | skip)) | (refine And.intro (by first | exact trivial | decide | omega | (dsimp only; omega) | exact fun _ _ => rfl) ?_) | (apply And.intro) | (intro s hs))
  · refine Done.mk (leF_bool ?_)
    unfold vlF
    rw [decide_eq_false (by omega)]; rfl
  · refine Done.mk (leF_bool ?_)
    unfold vlF
    rw [decide_eq_false (p := m.c.length ≤ 16) (by omega), Bool.and_false]; rfl
  refine loop_intro (mono_of LDv0_ok) (fun s : {i : Nat // i ≤ m.p.length ∧ (m.p.take i).all (fun p => vpf (pfxP p)) = true} => (⟨[(1, one (.ptr 0 0 0 false)), (18, one (.sl false m.p.length ePI.sz (rowF ePI m.p))), (19, one (.int .i64 (m.p.length : Int))), (20, one (.int .i64 (s.1 : Int)))],
    [(0, some ⟨38, 1, 48, true, fun _ => msgC m.a (slP m.p) (slC m.c) m.z⟩)], 1⟩ : Hd)) (fun s => m.p.length - s.1) (fun _ => rfl) ?_ ⟨0, by omega, rfl⟩ [] ?_
  · rintro ⟨i, hi, hv⟩
    dsimp only at hi hv ⊢
    repeat' (first | (apply And.intro <;> intro hc <;> (first | exact Bool.noConfusion hc | (simp only [decide_eq_true_eq, decide_eq_false_iff_not, Bool.not_eq_true', Bool.not_eq_false', beq_iff_eq, beq_eq_false_iff_ne, bne_iff_ne, bne_eq_false_iff_eq, Bool.true_eq_false, Bool.false_eq_true, ne_eq, not_true_eq_false] at hc <;> first | exact absurd rfl hc | skip) | skip)) | (refine And.intro (by first | exact trivial | decide | omega | (dsimp only; omega) | exact fun _ _ => rfl | exact ⟨by assumption, by first | exact trivial | decide | omega | (dsimp only; omega)⟩) ?_) | (apply And.intro) | (intro s hs; (have q : s = vpf (pfxP (m.p.getD i default)) := hs.trans (congrArg vpf (by rw [← pfx_P]; rfl)); clear hs)))
    · have hlt : i < m.p.length := by omega
      refine Done.mk (leF_bool ?_)
      have hf : vpf (pfxP (m.p.getD i default)) = false := q.symm.trans (by assumption)
      unfold vlF
      rw [all_no (f := fun p => vpf (pfxP p)) hlt hf]; simp
    · have hlt : i < m.p.length := by omega
      refine ⟨⟨i + 1, by omega, all_step hlt hv (q.symm.trans (by assumption))⟩, [], by dsimp only <;> omega, rfl, ?_, ?_⟩
      · repeat' (first | exact trivial | exact rfl | exact leF_ptr rfl | exact leF_int rfl | exact leF_bool rfl | exact leF_cl (cl_slB _ _) | exact leF_cl (cl_slR _ _) | exact leF_cl (cl_ll _ _) | exact leF_c (leC_os rfl rfl) | refine leF_int ?_ | refine leF_bool ?_ | exact leN_varA (fun _ _ => (Elem.flat _ _ _).le) | exact leN_varA (fun _ _ => leC_top) | apply And.intro)
        first | (dsimp only; rw [IntWalk.i64_in _ (by omega)]; omega) | (dsimp only; rw [IntWalk.i64_in _ (by omega)]; done) | (dsimp only; exact IntWalk.i64_in _ (by omega)) | exact IntWalk.i64_in _ (by omega) | (rw [IntWalk.i64_in _ (by omega)]; omega)
      · repeat' (first | exact trivial | exact rfl | exact leF_ptr rfl | exact leF_int rfl | exact leF_bool rfl | exact leF_cl (cl_slB _ _) | exact leF_cl (cl_slR _ _) | exact leF_cl (cl_ll _ _) | exact leF_c (leC_os rfl rfl) | refine leF_int ?_ | refine leF_bool ?_ | exact leN_varA (fun _ _ => (Elem.flat _ _ _).le) | exact leN_varA (fun _ _ => leC_top) | apply And.intro)
        exact leN_msg
    · have hpa : m.p.all (fun p => vpf (pfxP p)) = true := by rw [List.take_of_length_le (by omega)] at hv; exact hv
      refine loop_intro (mono_of LDv0_ok) (fun s : {i : Nat // i ≤ m.c.length ∧ (m.c.take i).all okC = true} => (⟨[(30, one (.sl false m.c.length eCI.sz (rowF eCI m.c))), (31, one (.int .i64 (m.c.length : Int))), (32, one (.int .i64 (s.1 : Int)))],
        [], 1⟩ : Hd)) (fun s => m.c.length - s.1) (fun _ => rfl) ?_ ⟨0, by omega, rfl⟩ [] ?_
      · rintro ⟨i, hi, hw⟩
        dsimp only at hi hw ⊢
        repeat' (first | (apply And.intro <;> intro hc <;> (first | exact Bool.noConfusion hc | (simp only [decide_eq_true_eq, decide_eq_false_iff_not, Bool.not_eq_true', Bool.not_eq_false', beq_iff_eq, beq_eq_false_iff_ne, bne_iff_ne, bne_eq_false_iff_eq, Bool.true_eq_false, Bool.false_eq_true, ne_eq, not_true_eq_false] at hc <;> first | exact absurd rfl hc | skip) | skip)) | (refine And.intro (by first | exact trivial | decide | omega | (dsimp only; omega) | exact fun _ _ => rfl | exact ⟨by assumption, by first | exact trivial | decide | omega | (dsimp only; omega)⟩) ?_) | (apply And.intro) | (intro s hs; (have q : s = vpf (pfxC (m.c.getD i default)) := hs.trans (congrArg vpf (by rw [← pfx_C]; rfl)); clear hs)))
        · have hlt : i < m.c.length := by omega
          refine Done.mk (leF_bool ?_)
          have hf : vpf (pfxC (m.c.getD i default)) = false := q.symm.trans (by assumption)
          unfold vlF
          rw [all_no (f := okC) hlt (by unfold okC; rw [hf]; rfl)]; simp
        · have hlt : i < m.c.length := by omega
          have hx : (m.c.getD i default).id < 0 := by assumption
          refine Done.mk (leF_bool ?_)
          unfold vlF
          rw [all_no (f := okC) hlt (by unfold okC; rw [decide_eq_false (p := 0 ≤ (m.c.getD i default).id) (by omega)]; simp)]; simp
        · have hlt : i < m.c.length := by omega
          have hx : 16 ≤ (m.c.getD i default).id := by assumption
          refine Done.mk (leF_bool ?_)
          unfold vlF
          rw [all_no (f := okC) hlt (by unfold okC; rw [decide_eq_false (p := (m.c.getD i default).id < 16) (by omega)]; simp)]; simp
        · have hlt : i < m.c.length := by omega
          have ht : vpf (pfxC (m.c.getD i default)) = true := q.symm.trans (by assumption)
          have h1 : ¬ (m.c.getD i default).id < 0 := by assumption
          have h2 : ¬ 16 ≤ (m.c.getD i default).id := by assumption
          refine ⟨⟨i + 1, by omega, all_step hlt hw (by unfold okC; rw [ht, decide_eq_true (p := 0 ≤ (m.c.getD i default).id) (by omega), decide_eq_true (p := (m.c.getD i default).id < 16) (by omega)]; rfl)⟩, [], by dsimp only <;> omega, rfl, ?_, ?_⟩
          · repeat' (first | exact trivial | exact rfl | exact leF_ptr rfl | exact leF_int rfl | exact leF_bool rfl | exact leF_cl (cl_slB _ _) | exact leF_cl (cl_slR _ _) | exact leF_cl (cl_ll _ _) | exact leF_c (leC_os rfl rfl) | refine leF_int ?_ | refine leF_bool ?_ | exact leN_varA (fun _ _ => (Elem.flat _ _ _).le) | exact leN_varA (fun _ _ => leC_top) | apply And.intro)
            first | (dsimp only; rw [IntWalk.i64_in _ (by omega)]; omega) | (dsimp only; rw [IntWalk.i64_in _ (by omega)]; done) | (dsimp only; exact IntWalk.i64_in _ (by omega)) | exact IntWalk.i64_in _ (by omega) | (rw [IntWalk.i64_in _ (by omega)]; omega)
          · repeat' (first | exact trivial | exact rfl | exact leF_ptr rfl | exact leF_int rfl | exact leF_bool rfl | exact leF_cl (cl_slB _ _) | exact leF_cl (cl_slR _ _) | exact leF_cl (cl_ll _ _) | exact leF_c (leC_os rfl rfl) | refine leF_int ?_ | refine leF_bool ?_ | exact leN_varA (fun _ _ => (Elem.flat _ _ _).le) | exact leN_varA (fun _ _ => leC_top) | apply And.intro)
        · refine Done.mk (leF_bool ?_)
          have hca : m.c.all okC = true := by rw [List.take_of_length_le (by omega)] at hw; exact hw
          unfold vlF
          rw [hpa, hca, decide_eq_true (p := m.p.length ≤ 16) (by omega), decide_eq_true (p := m.c.length ≤ 16) (by omega)]; rfl
      · refine ⟨rfl, ?_, ?_⟩
        · repeat' (first | exact trivial | exact rfl | exact leF_ptr rfl | exact leF_int rfl | exact leF_bool rfl | exact leF_cl (cl_slB _ _) | exact leF_cl (cl_slR _ _) | exact leF_cl (cl_ll _ _) | exact leF_c (leC_os rfl rfl) | refine leF_int ?_ | refine leF_bool ?_ | exact leN_varA (fun _ _ => (Elem.flat _ _ _).le) | exact leN_varA (fun _ _ => leC_top) | apply And.intro)
        · repeat' (first | exact trivial | exact rfl | exact leF_ptr rfl | exact leF_int rfl | exact leF_bool rfl | exact leF_cl (cl_slB _ _) | exact leF_cl (cl_slR _ _) | exact leF_cl (cl_ll _ _) | exact leF_c (leC_os rfl rfl) | refine leF_int ?_ | refine leF_bool ?_ | exact leN_varA (fun _ _ => (Elem.flat _ _ _).le) | exact leN_varA (fun _ _ => leC_top) | apply And.intro)
  · refine ⟨rfl, ?_, ?_⟩
    · repeat' (first | exact trivial | exact rfl | exact leF_ptr rfl | exact leF_int rfl | exact leF_bool rfl | exact leF_cl (cl_slB _ _) | exact leF_cl (cl_slR _ _) | exact leF_cl (cl_ll _ _) | exact leF_c (leC_os rfl rfl) | refine leF_int ?_ | refine leF_bool ?_ | exact leN_varA (fun _ _ => (Elem.flat _ _ _).le) | exact leN_varA (fun _ _ => leC_top) | apply And.intro)
    · repeat' (first | exact trivial | exact rfl | exact leF_ptr rfl | exact leF_int rfl | exact leF_bool rfl | exact leF_cl (cl_slB _ _) | exact leF_cl (cl_slR _ _) | exact leF_cl (cl_ll _ _) | exact leF_c (leC_os rfl rfl) | refine leF_int ?_ | refine leF_bool ?_ | exact leN_varA (fun _ _ => (Elem.flat _ _ _).le) | exact leN_varA (fun _ _ => leC_top) | apply And.intro)
      exact leN_msg
abbrev mA : AC (Msg × Unit) := AC.cons cMsg AC.nil
abbrev vlE : Entry := pureE mA (fun a => a.1.p.length ≤ 9223372036854775807 ∧ a.1.c.length ≤ 9223372036854775807) (fun a => vlF a.1) cB.enc
def LDv1 : CsL := (36, some vlE) :: LDv0
theorem LDv1_ok : AllOk Try.prog LDv1 := ⟨pureE_ok ⟨_, Try.func36, rfl, by kernel_rfl⟩ fun a h => vl_ok a.1 h.1 h.2, LDv0_ok⟩
end Go.Proofs.Ythbhidfohdipnaa.AX

/- Discovery messages: Valid of the program, cut between its statements. -/
namespace Go.Proofs.Ythbhidfohdipnaa.AX
open Go.RowKit
set_option linter.unusedVariables false
set_option linter.unusedSimpArgs false
theorem msg_rd {a : MA} {p : List PI} {c : List CI} {z : MZ} {P C : CV} : (⟨eMA.rd fun q => msgC a P C z (0 + q), toL ePI p.length (rowF ePI p), toL eCI c.length (rowF eCI c), eMZ.rd fun q => msgC a P C z (0 + (29 + q))⟩ : Msg) = ⟨a, p, c, z⟩ :=
  msg_is (fun j hj => by rw [Nat.zero_add]; exact msgC_a hj) (toL_P p) (toL_C c) fun j hj => by rw [Nat.zero_add, msgC_z (by omega), show 29 + j - 29 = j by omega]
theorem adr_M {a : MA} {P C : CV} {z : MZ} : eAdr.rd (fun q => msgC a P C z (0 + 19 + q)) = adrOf a := rfl
theorem val_no {m : Msg} (h : ¬ ValM m) : false = validM m := by
  cases hb : validM m with
  | false => rfl
  | true => exact absurd (valM_iff.1 hb) h
theorem val_yes {m : Msg} (h : ValM m) : true = validM m := (valM_iff.2 h).symm
theorem vl_of {m : Msg} (h : ValM m) : vlF m = true := by
  unfold vlF
  rw [decide_eq_true h.np, decide_eq_true h.nc, List.all_eq_true.2 h.p, List.all_eq_true.2 h.c]; rfl
theorem own_z {a : MA} {P C : CV} {z : MZ} {b : Bool} (h : eqFrom (fun q => msgC a P C z (0 + 22 + q)) (nth [CV.int .u64 0, CV.int .u8 0, CV.int .u8 0, CV.int .u16 0]) 4 0 = b) : ownZ a = b := by
  have e : ((a.oeui == 0) && ((a.oseq == 0) && ((a.ostat == 0) && ((a.olife == 0) && true)))) = b := h
  rw [← e]
  simp [ownZ, Bool.and_assoc]
abbrev z16C : List CV := [CV.int .u8 0, CV.int .u8 0, CV.int .u8 0, CV.int .u8 0, CV.int .u8 0, CV.int .u8 0, CV.int .u8 0, CV.int .u8 0, CV.int .u8 0, CV.int .u8 0, CV.int .u8 0, CV.int .u8 0, CV.int .u8 0, CV.int .u8 0, CV.int .u8 0, CV.int .u8 0]
theorem bor_z {a : MA} {P C : CV} {z : MZ} {b : Bool} (h : eqFrom (fun q => msgC a P C z (0 + 29 + q)) (nth (CV.int .u32 0 :: CV.int .u16 0 :: z16C)) 18 0 = b) : borZ z = b := by
  have e : ((z.bver == 0) && ((z.blife == 0) && ipEq z.brt zA)) = b := h
  rw [← e]
  simp [borZ, Bool.and_assoc]
theorem tgt_z {a : MA} {P C : CV} {z : MZ} {b : Bool} (h : eqFrom (fun q => msgC a P C z (0 + 3 + q)) (nth z16C) 16 0 = b) : ipEq a.tgt zA = b := h
theorem src_z {a : MA} {P C : CV} {z : MZ} {b : Bool} (h : eqFrom (fun q => msgC a P C z (0 + 19 + q)) (nth [CV.int .i64 0, CV.int .u16 0, CV.int .u64 0]) 3 0 = b) : srcZ a = b := by
  have e : ((a.mode == 0) && ((a.short == 0) && ((a.eui == 0) && true))) = b := h
  rw [← e]
  simp [srcZ, Bool.and_assoc]
def mEnt (m : Msg) : Ent := ⟨38, 1, 48, true, fun _ => msgC m.a (slP m.p) (slC m.c) m.z⟩
def lEnt (m : Msg) : Ent := ⟨81, 1, 6, true, fun _ => eLay.cell (layF m.a.ty)⟩
structure V1 (m : Msg) : Prop where
  ty : tyOk m.a.ty
  vl : vlF m = true
  adr : adrValid (adrOf m.a) = true
  bc : bcast (adrOf m.a) = false
structure V2 (m : Msg) : Prop extends V1 m where
  own : m.a.hasO = true ∨ ownZ m.a = true
  bor : m.z.hasB = true ∨ borZ m.z = true
structure V3 (m : Msg) : Prop extends V2 m where
  dup : isDup m.a.ty → m.a.hasO = true
  rs : m.a.hasO = true → isNb m.a.ty ∨ isDup m.a.ty
structure V4 (m : Msg) : Prop extends V3 m where
  router : m.a.ty = 134 ∨ (m.a.hops = 0 ∧ m.a.life = 0 ∧ m.p = [] ∧ m.c = [] ∧ m.z.hasB = false)
theorem lay_owner (t : Int) : (layF t).owner = decide (isDup t) := by
  unfold layF
  by_cases h0 : t = 133
  · rw [if_pos h0, decide_eq_false (by unfold isDup; omega)]
  · rw [if_neg h0]
    by_cases h1 : t = 134
    · rw [if_pos h1, decide_eq_false (by unfold isDup; omega)]
    · rw [if_neg h1]
      by_cases h2 : isNb t
      · rw [if_pos h2, decide_eq_false (not_dup_nb h2)]
      · rw [if_neg h2]
        by_cases h3 : isDup t
        · rw [if_pos h3, decide_eq_true h3]
        · rw [if_neg h3, decide_eq_false h3]
theorem lay_option (t : Int) : (layF t).option = decide (isNb t) := by
  unfold layF
  by_cases h0 : t = 133
  · rw [if_pos h0, decide_eq_false (by unfold isNb; omega)]
  · rw [if_neg h0]
    by_cases h1 : t = 134
    · rw [if_pos h1, decide_eq_false (by unfold isNb; omega)]
    · rw [if_neg h1]
      by_cases h2 : isNb t
      · rw [if_pos h2, decide_eq_true h2]
      · rw [if_neg h2, decide_eq_false h2]
        split <;> rfl
theorem lay_router (t : Int) : (layF t).router = decide (t = 134) := by
  unfold layF
  by_cases h0 : t = 133
  · rw [if_pos h0, decide_eq_false (by omega)]
  · rw [if_neg h0]
    by_cases h1 : t = 134
    · rw [if_pos h1, decide_eq_true h1]
    · rw [if_neg h1, decide_eq_false h1]
      split
      · rfl
      · split <;> rfl
theorem lay_target (t : Int) : (layF t).target = (decide (isNb t) || decide (isDup t)) := by
  unfold layF
  by_cases h0 : t = 133
  · rw [if_pos h0, decide_eq_false (by unfold isNb; omega), decide_eq_false (by unfold isDup; omega)]; rfl
  · rw [if_neg h0]
    by_cases h1 : t = 134
    · rw [if_pos h1, decide_eq_false (by unfold isNb; omega), decide_eq_false (by unfold isDup; omega)]; rfl
    · rw [if_neg h1]
      by_cases h2 : isNb t
      · rw [if_pos h2, decide_eq_true h2]; rfl
      · rw [if_neg h2]
        by_cases h3 : isDup t
        · rw [if_pos h3, decide_eq_false h2, decide_eq_true h3, Bool.false_or]
        · rw [if_neg h3, decide_eq_false h2, decide_eq_false h3]; rfl
theorem lay_source {t : Int} (h : tyOk t) : (layF t).source = !decide (isDup t) := by
  unfold layF
  by_cases h0 : t = 133
  · rw [if_pos h0, decide_eq_false (by unfold isDup; omega)]; rfl
  · rw [if_neg h0]
    by_cases h1 : t = 134
    · rw [if_pos h1, decide_eq_false (by unfold isDup; omega)]; rfl
    · rw [if_neg h1]
      by_cases h2 : isNb t
      · rw [if_pos h2, decide_eq_false (not_dup_nb h2)]; rfl
      · rw [if_neg h2]
        by_cases h3 : isDup t
        · rw [if_pos h3, decide_eq_true h3]; rfl
        · exfalso
          rcases h with h | h | h | h <;> contradiction
def HV (m : Msg) (F : Prop) (_ : {_u : Unit // F}) : Hd := ⟨[(1, one (.ptr 0 0 0 false)), (3, one (.ptr 1 0 0 false))], [(0, some (mEnt m)), (1, some (lEnt m))], 2⟩
def lisB (m : Msg) : Bool := !m.p.isEmpty || !m.c.isEmpty || m.z.hasB
def HVl (m : Msg) (F : Prop) (_ : {_u : Unit // F}) : Hd := ⟨[(1, one (.ptr 0 0 0 false)), (3, one (.ptr 1 0 0 false)), (5, one (.bool (lisB m)))], [(0, some (mEnt m)), (1, some (lEnt m))], 2⟩
theorem leN_lay {c : Wc} {t : TypeId} {x : Lay} : LeN c ⟨t, 1, 6, true, fun _ => eLay.cell x⟩ ⟨t, 1, 6, true, fun _ => eLay.cell x⟩ := leN_varA fun j _ => (eLay.flat _ _).le
theorem lis_no {m : Msg} (h : lisB m = false) : m.p = [] ∧ m.c = [] ∧ m.z.hasB = false := by
  unfold lisB at h
  simp only [Bool.or_eq_false_iff, Bool.not_eq_false', List.isEmpty_iff] at h
  exact ⟨h.1.1, h.1.2, h.2⟩
theorem lis_yes {m : Msg} (h : lisB m = true) : ¬ (m.p = [] ∧ m.c = [] ∧ m.z.hasB = false) := by
  rintro ⟨h1, h2, h3⟩
  unfold lisB at h
  rw [h1, h2, h3] at h
  cases h
theorem val_b {m : Msg} {b : Bool} (h1 : b = true → ValM m) (h0 : b = false → ¬ ValM m) : b = validM m := by
  cases b with
  | true => exact val_yes (h1 rfl)
  | false => exact val_no (h0 rfl)
theorem val_mk {m : Msg} (v : V4 m) (ht : isNb m.a.ty ∨ isDup m.a.ty ∨ (m.a.hasO = false ∧ m.a.tgt = zA)) (hd : ¬ isDup m.a.ty ∨ (m.a.hasO = true ∧ srcZ m.a = true)) : ValM m := by
  have h := v.vl
  unfold vlF at h
  simp only [Bool.and_eq_true, decide_eq_true_eq, List.all_eq_true] at h
  exact ⟨v.ty, v.adr, v.bc, h.1.1.1, h.1.1.2, h.1.2, h.2, v.own, v.bor, v.router, ht, hd⟩
theorem t_of {m : Msg} (h : (layF m.a.ty).target = true) : isNb m.a.ty ∨ isDup m.a.ty ∨ (m.a.hasO = false ∧ m.a.tgt = zA) := by
  rw [lay_target] at h
  simp only [Bool.or_eq_true, decide_eq_true_eq] at h
  exact h.imp id .inl
theorem t_no {m : Msg} (h : (layF m.a.ty).target = false) : ¬ isNb m.a.ty ∧ ¬ isDup m.a.ty := by
  rw [lay_target] at h
  simpa using h
theorem t_of0 {m : Msg} (v : V3 m) (h : (layF m.a.ty).target = false) (hz : ipEq m.a.tgt zA = true) : isNb m.a.ty ∨ isDup m.a.ty ∨ (m.a.hasO = false ∧ m.a.tgt = zA) := by
  obtain ⟨h1, h2⟩ := t_no h
  refine .inr (.inr ⟨?_, ipEq_iff.1 hz⟩)
  cases hb : m.a.hasO with
  | false => rfl
  | true => rcases v.rs hb with g | g <;> contradiction
theorem no_t {m : Msg} (h : (layF m.a.ty).target = false) (hz : ipEq m.a.tgt zA = false) : ¬ ValM m := fun hv => by
  obtain ⟨h1, h2⟩ := t_no h
  rcases hv.target with g | g | g
  · exact h1 g
  · exact h2 g
  · rw [ipEq_iff.2 g.2] at hz; cases hz
theorem s_of {m : Msg} (ht : tyOk m.a.ty) (h : (layF m.a.ty).source = true) : ¬ isDup m.a.ty ∨ (m.a.hasO = true ∧ srcZ m.a = true) := by
  rw [lay_source ht] at h
  exact .inl (by simpa using h)
theorem s_dup {m : Msg} (ht : tyOk m.a.ty) (h : (layF m.a.ty).source = false) : isDup m.a.ty := by
  rw [lay_source ht] at h
  simpa using h
theorem s_of0 {m : Msg} (v : V3 m) (h : (layF m.a.ty).source = false) (hz : srcZ m.a = true) : ¬ isDup m.a.ty ∨ (m.a.hasO = true ∧ srcZ m.a = true) := .inr ⟨v.dup (s_dup v.ty h), hz⟩
theorem no_s {m : Msg} (ht : tyOk m.a.ty) (h : (layF m.a.ty).source = false) (hz : srcZ m.a = false) : ¬ ValM m := fun hv => by
  rcases hv.dup with g | g
  · exact g (s_dup ht h)
  · rw [g.2] at hz; cases hz
theorem len_p {α : Type} {l : List α} (h : (0 : Int) < l.length) : (!l.isEmpty) = true := by
  cases l with
  | nil => simp at h
  | cons => rfl
theorem len_0 {α : Type} {l : List α} (h : ¬ (0 : Int) < l.length) : l.isEmpty = true := by
  cases l with
  | nil => rfl
  | cons => simp at h
set_option maxRecDepth 20000 in
set_option maxHeartbeats 8000000 in
theorem valid_ok2 (m : Msg) (hp : m.p.length ≤ 9223372036854775807) (hn : m.c.length ≤ 9223372036854775807) : PureOk Try.prog 13 [cMsg.enc m] (cB.enc (validM m)) := by
  have g1 : True := trivial
  have g2 : True := trivial
  have g3 : True := trivial
  have g4 : True := trivial
  refine pure_introS tysOk Try.func13 rfl _ (by show 1 ≤ _; decide) _ ?_
  refine sem_step (wd := 1) (Q := mkQ LDv1) (by decide) tysOk (q_of LDv1_ok) mixed ?_
  repeat' (first | (apply And.intro <;> intro hc <;> (first | exact Bool.noConfusion hc | (simp only [decide_eq_true_eq, decide_eq_false_iff_not, Bool.not_eq_true', Bool.not_eq_false', beq_iff_eq, beq_eq_false_iff_ne, bne_iff_ne, bne_eq_false_iff_eq, Bool.true_eq_false, Bool.false_eq_true] at hc) | skip)) | (refine And.intro (by first | exact trivial | decide | omega | (dsimp only; omega) | exact fun _ _ => rfl) ?_) | (apply And.intro) | (intro s hs))
  refine sem_step (wd := 1) (Q := mkQ LDv1) (by decide) tysOk (q_of LDv1_ok) mixed ?_
  repeat' (first | (apply And.intro <;> intro hc <;> (first | exact Bool.noConfusion hc | (simp only [decide_eq_true_eq, decide_eq_false_iff_not, Bool.not_eq_true', Bool.not_eq_false', beq_iff_eq, beq_eq_false_iff_ne, bne_iff_ne, bne_eq_false_iff_eq, Bool.true_eq_false, Bool.false_eq_true, ne_eq, not_true_eq_false] at hc <;> first | exact absurd rfl hc | skip) | skip)) | (refine And.intro (by first | exact trivial | decide | omega | (dsimp only; omega) | exact fun _ _ => rfl | exact ⟨by assumption, by first | exact trivial | decide | omega | (dsimp only; omega)⟩) ?_) | (apply And.intro) | (intro s hs; (clear g1; have q : s = (layF m.a.ty, decide (tyOk m.a.ty)) := hs; clear hs; subst q)))
  refine sem_cut (wd := 1) (Q := mkQ LDv1) (by decide) tysOk (q_of LDv1_ok) (mono_of LDv1_ok) mixed (HV m (V1 m)) (fun _ => rfl) ?_ ?_
  · repeat' (first | (apply And.intro <;> intro hc <;> (first | exact Bool.noConfusion hc | (simp only [decide_eq_true_eq, decide_eq_false_iff_not, Bool.not_eq_true', Bool.not_eq_false', beq_iff_eq, beq_eq_false_iff_ne, bne_iff_ne, bne_eq_false_iff_eq, Bool.true_eq_false, Bool.false_eq_true, ne_eq, not_true_eq_false] at hc <;> first | exact absurd rfl hc | skip) | skip)) | (refine And.intro (by first | exact trivial | decide | omega | (dsimp only; omega) | exact fun _ _ => rfl | exact ⟨by assumption, by first | exact trivial | decide | omega | (dsimp only; omega)⟩) ?_) | (apply And.intro) | (intro s hs; (first | (clear g2; have q : s = vlF m := hs.trans (congrArg vlF msg_rd); clear hs; subst q) | (clear g3; have q : s = adrValid (adrOf m.a) := hs.trans (congrArg adrValid adr_M); clear hs; subst q) | (clear g4; have q : s = bcast (adrOf m.a) := hs.trans (congrArg bcast adr_M); clear hs; subst q))))
    · exact Done.mk (leF_bool (val_no fun h => absurd h.ty (by assumption)))
    · exact fun _ => rfl
    · exact fun _ => rfl
    · exact Nat.le_trans (Nat.le_of_eq (toL_len _ _ _)) hp
    · exact Nat.le_trans (Nat.le_of_eq (toL_len _ _ _)) hn
    · exact Done.mk (leF_bool (val_no fun h => Bool.noConfusion ((vl_of h).symm.trans (by assumption))))
    · exact Done.mk (leF_bool (val_no fun h => Bool.noConfusion (h.adr.symm.trans (by assumption))))
    · exact Done.mk (leF_bool (val_no fun h => Bool.noConfusion (h.bc.symm.trans (by assumption))))
    · refine ⟨⟨(), ⟨by assumption, by assumption, by assumption, by assumption⟩⟩, [(1, some 8)], rfl, ?_, ?_⟩
      · repeat' (first | exact trivial | exact rfl | exact leF_ptr rfl | exact leF_int rfl | exact leF_bool rfl | exact leF_cl (cl_slB _ _) | exact leF_cl (cl_slR _ _) | exact leF_cl (cl_ll _ _) | exact leF_c (leC_os rfl rfl) | refine leF_int ?_ | refine leF_bool ?_ | exact leN_varA (fun _ _ => (Elem.flat _ _ _).le) | exact leN_varA (fun _ _ => leC_top) | apply And.intro)
      · repeat' (first | exact trivial | exact rfl | exact leF_ptr rfl | exact leF_int rfl | exact leF_bool rfl | exact leF_cl (cl_slB _ _) | exact leF_cl (cl_slR _ _) | exact leF_cl (cl_ll _ _) | exact leF_c (leC_os rfl rfl) | refine leF_int ?_ | refine leF_bool ?_ | exact leN_varA (fun _ _ => (Elem.flat _ _ _).le) | exact leN_varA (fun _ _ => leC_top) | apply And.intro)
        all_goals first
          | exact leN_msg
          | (refine leN_var ?_; repeat' (first | exact trivial | exact leC_bool rfl | exact leC_int rfl | apply And.intro))
  · rintro ⟨⟨⟩, v⟩
    refine sem_cut (wd := 1) (Q := mkQ LDv1) (by decide) tysOk (q_of LDv1_ok) (mono_of LDv1_ok) mixed (HV m (V2 m)) (fun _ => rfl) ?_ ?_
    · unfold HV
      dsimp only
      repeat' (first | (apply And.intro <;> intro hc <;> (first | exact Bool.noConfusion hc | (simp only [decide_eq_true_eq, decide_eq_false_iff_not, Bool.not_eq_true', Bool.not_eq_false', beq_iff_eq, beq_eq_false_iff_ne, bne_iff_ne, bne_eq_false_iff_eq, Bool.true_eq_false, Bool.false_eq_true] at hc) | skip)) | (refine And.intro (by first | exact trivial | decide | omega | (dsimp only; omega) | exact fun _ _ => rfl) ?_) | (apply And.intro) | (intro s hs))
      all_goals first
        | exact Done.mk (leF_bool (val_no fun h => by
            have g1 := h.own
            have g2 : ownZ m.a = false := own_z (by assumption)
            simp_all; done))
        | exact Done.mk (leF_bool (val_no fun h => by
            have g1 := h.bor
            have g2 : borZ m.z = false := bor_z (by assumption)
            simp_all; done))
        | skip
      all_goals
        refine ⟨⟨(), ⟨v, ?_, ?_⟩⟩, [], rfl, ?_, ?_⟩
        · first | exact .inl (by assumption) | exact .inr (own_z (by assumption))
        · first | exact .inl (by assumption) | exact .inr (bor_z (by assumption))
        · repeat' (first | exact trivial | exact rfl | exact leF_ptr rfl | exact leF_int rfl | exact leF_bool rfl | exact leF_cl (cl_slB _ _) | exact leF_cl (cl_slR _ _) | exact leF_cl (cl_ll _ _) | exact leF_c (leC_os rfl rfl) | refine leF_int ?_ | refine leF_bool ?_ | exact leN_varA (fun _ _ => (Elem.flat _ _ _).le) | exact leN_varA (fun _ _ => leC_top) | apply And.intro)
        · repeat' (first | exact trivial | exact rfl | exact leF_ptr rfl | exact leF_int rfl | exact leF_bool rfl | exact leF_cl (cl_slB _ _) | exact leF_cl (cl_slR _ _) | exact leF_cl (cl_ll _ _) | exact leF_c (leC_os rfl rfl) | refine leF_int ?_ | refine leF_bool ?_ | exact leN_varA (fun _ _ => (Elem.flat _ _ _).le) | exact leN_varA (fun _ _ => leC_top) | apply And.intro)
          exact leN_msg
    · rintro ⟨⟨⟩, v⟩
      have e1 := lay_owner m.a.ty
      have e2 := lay_option m.a.ty
      refine sem_cut (wd := 1) (Q := mkQ LDv1) (by decide) tysOk (q_of LDv1_ok) (mono_of LDv1_ok) mixed (HV m (V3 m)) (fun _ => rfl) ?_ ?_
      · unfold HV
        dsimp only
        repeat' (first | (apply And.intro <;> intro hc <;> (first | exact Bool.noConfusion hc | (simp only [decide_eq_true_eq, decide_eq_false_iff_not, Bool.not_eq_true', Bool.not_eq_false', beq_iff_eq, beq_eq_false_iff_ne, bne_iff_ne, bne_eq_false_iff_eq, Bool.true_eq_false, Bool.false_eq_true] at hc) | skip)) | (refine And.intro (by first | exact trivial | decide | omega | (dsimp only; omega) | exact fun _ _ => rfl) ?_) | (apply And.intro) | (intro s hs))
        all_goals first
          | (exfalso; simp_all; done)
          | exact Done.mk (leF_bool (val_no fun h => by
              have g1 := h.dup
              have g2 := h.target
              simp_all; done))
          | skip
        all_goals
          refine ⟨⟨(), ⟨v, ?_, ?_⟩⟩, [], rfl, ?_, ?_⟩
          · intro h; simp_all
          · intro h; simp_all
          · repeat' (first | exact trivial | exact rfl | exact leF_ptr rfl | exact leF_int rfl | exact leF_bool rfl | exact leF_cl (cl_slB _ _) | exact leF_cl (cl_slR _ _) | exact leF_cl (cl_ll _ _) | exact leF_c (leC_os rfl rfl) | refine leF_int ?_ | refine leF_bool ?_ | exact leN_varA (fun _ _ => (Elem.flat _ _ _).le) | exact leN_varA (fun _ _ => leC_top) | apply And.intro)
          · repeat' (first | exact trivial | exact rfl | exact leF_ptr rfl | exact leF_int rfl | exact leF_bool rfl | exact leF_cl (cl_slB _ _) | exact leF_cl (cl_slR _ _) | exact leF_cl (cl_ll _ _) | exact leF_c (leC_os rfl rfl) | refine leF_int ?_ | refine leF_bool ?_ | exact leN_varA (fun _ _ => (Elem.flat _ _ _).le) | exact leN_varA (fun _ _ => leC_top) | apply And.intro)
            exact leN_msg
      · rintro ⟨⟨⟩, v⟩
        refine sem_cut (wd := 1) (Q := mkQ LDv1) (by decide) tysOk (q_of LDv1_ok) (mono_of LDv1_ok) mixed (HVl m (V3 m)) (fun _ => rfl) ?_ ?_
        · unfold HV
          dsimp only
          repeat' (first | (apply And.intro <;> intro hc <;> (first | exact Bool.noConfusion hc | (simp only [decide_eq_true_eq, decide_eq_false_iff_not, Bool.not_eq_true', Bool.not_eq_false', beq_iff_eq, beq_eq_false_iff_ne, bne_iff_ne, bne_eq_false_iff_eq, Bool.true_eq_false, Bool.false_eq_true] at hc) | skip)) | (refine And.intro (by first | exact trivial | decide | omega | (dsimp only; omega) | exact fun _ _ => rfl) ?_) | (apply And.intro) | (intro s hs))
          all_goals
            refine ⟨⟨(), v⟩, [], rfl, ?_, ?_⟩
            · repeat' (first | exact trivial | exact rfl | exact leF_ptr rfl | exact leF_int rfl | exact leF_bool rfl | exact leF_cl (cl_slB _ _) | exact leF_cl (cl_slR _ _) | exact leF_cl (cl_ll _ _) | exact leF_c (leC_os rfl rfl) | refine leF_int ?_ | refine leF_bool ?_ | exact leN_varA (fun _ _ => (Elem.flat _ _ _).le) | exact leN_varA (fun _ _ => leC_top) | apply And.intro)
              all_goals (unfold lisB; first | (rw [len_p (by assumption)]; done) | (rw [len_p (by assumption)]; rfl) | (rw [len_p (l := m.c) (by assumption), Bool.or_true]; rfl) | (rw [len_0 (l := m.p) (by assumption), len_0 (l := m.c) (by assumption)]; rfl))
            · repeat' (first | exact trivial | exact rfl | exact leF_ptr rfl | exact leF_int rfl | exact leF_bool rfl | exact leF_cl (cl_slB _ _) | exact leF_cl (cl_slR _ _) | exact leF_cl (cl_ll _ _) | exact leF_c (leC_os rfl rfl) | refine leF_int ?_ | refine leF_bool ?_ | exact leN_varA (fun _ _ => (Elem.flat _ _ _).le) | exact leN_varA (fun _ _ => leC_top) | apply And.intro)
              exact leN_msg
        · rintro ⟨⟨⟩, v⟩
          have e3 := lay_router m.a.ty
          refine sem_cut (wd := 1) (Q := mkQ LDv1) (by decide) tysOk (q_of LDv1_ok) (mono_of LDv1_ok) mixed (HV m (V4 m)) (fun _ => rfl) ?_ ?_
          · unfold HVl
            dsimp only
            repeat' (first | (apply And.intro <;> intro hc <;> (first | exact Bool.noConfusion hc | (simp only [decide_eq_true_eq, decide_eq_false_iff_not, Bool.not_eq_true', Bool.not_eq_false', beq_iff_eq, beq_eq_false_iff_ne, bne_iff_ne, bne_eq_false_iff_eq, Bool.true_eq_false, Bool.false_eq_true] at hc) | skip)) | (refine And.intro (by first | exact trivial | decide | omega | (dsimp only; omega) | exact fun _ _ => rfl) ?_) | (apply And.intro) | (intro s hs))
            all_goals first
              | exact Done.mk (leF_bool (val_no fun h => by
                  have g1 := h.router
                  have g2 := @lis_yes m
                  simp_all; done))
              | skip
            · have hl := lis_no (m := m) (by assumption)
              refine ⟨⟨(), ⟨v, .inr ⟨by assumption, by assumption, hl.1, hl.2.1, hl.2.2⟩⟩⟩, [], rfl, ?_, ?_⟩
              · repeat' (first | exact trivial | exact rfl | exact leF_ptr rfl | exact leF_int rfl | exact leF_bool rfl | exact leF_cl (cl_slB _ _) | exact leF_cl (cl_slR _ _) | exact leF_cl (cl_ll _ _) | exact leF_c (leC_os rfl rfl) | refine leF_int ?_ | refine leF_bool ?_ | exact leN_varA (fun _ _ => (Elem.flat _ _ _).le) | exact leN_varA (fun _ _ => leC_top) | apply And.intro)
              · repeat' (first | exact trivial | exact rfl | exact leF_ptr rfl | exact leF_int rfl | exact leF_bool rfl | exact leF_cl (cl_slB _ _) | exact leF_cl (cl_slR _ _) | exact leF_cl (cl_ll _ _) | exact leF_c (leC_os rfl rfl) | refine leF_int ?_ | refine leF_bool ?_ | exact leN_varA (fun _ _ => (Elem.flat _ _ _).le) | exact leN_varA (fun _ _ => leC_top) | apply And.intro)
                exact leN_msg
            · have h134 : m.a.ty = 134 := of_decide_eq_true (e3.symm.trans (by assumption))
              refine ⟨⟨(), ⟨v, .inl h134⟩⟩, [], rfl, ?_, ?_⟩
              · repeat' (first | exact trivial | exact rfl | exact leF_ptr rfl | exact leF_int rfl | exact leF_bool rfl | exact leF_cl (cl_slB _ _) | exact leF_cl (cl_slR _ _) | exact leF_cl (cl_ll _ _) | exact leF_c (leC_os rfl rfl) | refine leF_int ?_ | refine leF_bool ?_ | exact leN_varA (fun _ _ => (Elem.flat _ _ _).le) | exact leN_varA (fun _ _ => leC_top) | apply And.intro)
              · repeat' (first | exact trivial | exact rfl | exact leF_ptr rfl | exact leF_int rfl | exact leF_bool rfl | exact leF_cl (cl_slB _ _) | exact leF_cl (cl_slR _ _) | exact leF_cl (cl_ll _ _) | exact leF_c (leC_os rfl rfl) | refine leF_int ?_ | refine leF_bool ?_ | exact leN_varA (fun _ _ => (Elem.flat _ _ _).le) | exact leN_varA (fun _ _ => leC_top) | apply And.intro)
                exact leN_msg
          · rintro ⟨⟨⟩, v⟩
            unfold HV
            dsimp only
            refine sem_exec (wd := 1) (Q := mkQ LDv1) (by decide) tysOk (q_of LDv1_ok) mixed ?_
            repeat' (first | (apply And.intro <;> intro hc <;> (first | exact Bool.noConfusion hc | (simp only [decide_eq_true_eq, decide_eq_false_iff_not, Bool.not_eq_true', Bool.not_eq_false', beq_iff_eq, beq_eq_false_iff_ne, bne_iff_ne, bne_eq_false_iff_eq, Bool.true_eq_false, Bool.false_eq_true] at hc) | skip)) | (refine And.intro (by first | exact trivial | decide | omega | (dsimp only; omega) | exact fun _ _ => rfl) ?_) | (apply And.intro) | (intro s hs))
            · exact Done.mk (leF_bool (val_yes (val_mk v (t_of (by assumption)) (s_of v.ty (by assumption)))))
            · exact Done.mk (leF_bool (val_b (fun h => val_mk v (t_of (by assumption)) (s_of0 v.toV3 (by assumption) (src_z h))) fun h => no_s v.ty (by assumption) (src_z h)))
            · exact Done.mk (leF_bool (val_yes (val_mk v (t_of0 v.toV3 (by assumption) (tgt_z (by assumption))) (s_of v.ty (by assumption)))))
            · exact Done.mk (leF_bool (val_b (fun h => val_mk v (t_of0 v.toV3 (by assumption) (tgt_z (by assumption))) (s_of0 v.toV3 (by assumption) (src_z h))) fun h => no_s v.ty (by assumption) (src_z h)))
            · exact Done.mk (leF_bool (val_no (no_t (by assumption) (tgt_z (by assumption)))))
abbrev valE2 : Entry := pureE mA (fun a => a.1.p.length ≤ 9223372036854775807 ∧ a.1.c.length ≤ 9223372036854775807) (fun a => validM a.1) cB.enc
end Go.Proofs.Ythbhidfohdipnaa.AX

/- The writer of discovery messages: body. -/
namespace Go.Proofs.Ythbhidfohdipnaa.AX
open Go.RowKit
set_option linter.unusedVariables false
set_option linter.unusedSimpArgs false
theorem be1 {v : Int} (h : 0 ≤ v ∧ v < 256) : beB (IntKind.u64.wrap v) 1 = [v] := by
  rw [IntWalk.u64_in _ (by omega)]
  show [v / 256 ^ 0 % 256] = [v]
  rw [Int.pow_zero, Int.ediv_one, Int.emod_eq_of_lt h.1 h.2]
theorem be2 {v : Int} (h : 0 ≤ v ∧ v < 65536) : beB (IntKind.u64.wrap v) 2 = beN v 2 := by rw [IntWalk.u64_in _ (by omega)]; rfl
theorem be4 {v : Int} (h : 0 ≤ v ∧ v < 4294967296) : beB (IntKind.u64.wrap v) 4 = beN v 4 := by rw [IntWalk.u64_in _ (by omega)]; rfl
theorem wl8 {s L : List Int} {v n : Int} {b : Nat} (h : s = L ++ beB v n) (hL : L.length ≤ b) : s.length ≤ b + 8 := by
  have := beB_len v n
  rw [h, List.length_append]; omega
theorem wl16 {s L : List Int} {a : Fin 16 → Int} {b : Nat} (h : s = L ++ ipL a) (hL : L.length ≤ b) : s.length ≤ b + 16 := by
  rw [h, List.length_append, ipL_len]; omega
theorem wlr {s L l : List Int} {b : Nat} (h : s = L ++ l) (hL : L.length ≤ b) (hl : l.length ≤ 8) : s.length ≤ b + 8 := by
  rw [h, List.length_append]; omega
/-- The body without the target. -/
def body1 (a : MA) : List Int :=
  if isDup a.ty then [a.ostat, a.oseq] ++ (beN a.olife 2 ++ beN a.oeui 8)
  else if a.ty = 134 then [a.hops, 0] ++ (beN a.life 2 ++ zs 8)
  else zs 4
def headB (m : Msg) : List Int := [m.a.ty, 0, 0, 0] ++ bodyB m.a
theorem body_t {a : MA} (h : (layF a.ty).target = true) : bodyB a = body1 a ++ ipL a.tgt := by
  rw [lay_target] at h
  unfold bodyB body1
  by_cases hd : isDup a.ty
  · rw [if_pos hd, if_pos hd]; simp only [List.append_assoc]
  · rw [if_neg hd, if_neg hd]
    have hn : isNb a.ty := by simpa [hd] using h
    have h4 : ¬ a.ty = 134 := fun h => not_nb_134 h hn
    rw [if_neg h4, if_neg h4, if_pos hn]
theorem body_f {a : MA} (h : (layF a.ty).target = false) : bodyB a = body1 a := by
  rw [lay_target] at h
  simp only [Bool.or_eq_false_iff, decide_eq_false_iff_not] at h
  unfold bodyB body1
  rw [if_neg h.2, if_neg h.2, if_neg h.1]
theorem body1_len (a : MA) : (body1 a).length ≤ 12 := by
  unfold body1
  split
  · simp only [List.length_append, beN_len, List.length_cons, List.length_nil]; omega
  · split
    · simp only [List.length_append, beN_len, zs_len, List.length_cons, List.length_nil]; omega
    · rw [zs_len]; omega
theorem leN_wv {c : Wc} {t : TypeId} {k k' n : Nat} (h : c.src k' = some k) : LeN c (wvar t k n) (wvar t k' n) := ⟨rfl, rfl, rfl, rfl, fun _ _ _ _ => leC_os h rfl⟩
def HWb (m : Msg) (L : List Int) (_ : Unit) : Hd := ⟨[(0, one (.ptr 0 0 0 false)), (4, one (.ptr 2 0 0 false)), (5, one (.ptr 3 0 0 false))], [(0, some (wvar tW 4 (L ++ ([m.a.ty, 0, 0, 0] ++ body1 m.a)).length)), (2, some (mEnt m)), (3, some (lEnt m)), (4, some (entB (L ++ ([m.a.ty, 0, 0, 0] ++ body1 m.a))))], 5⟩
set_option maxRecDepth 20000 in
set_option maxHeartbeats 8000000 in
theorem wbody_ok (L : List Int) (m : Msg) (hm : MAr m.a) (hL : L.length ≤ 1000) : WrOk Try.prog 31 tW [cMsg.enc m, (cE eLay).enc (layF m.a.ty)] (entB L) (entB (L ++ headB m)) := by
  have t1 := be1 hm.ty
  have t2 := be2 hm.olife
  have t3 := be2 hm.life
  refine wr_introS tysOk Try.func31 rfl _ (by show 2 + 1 ≤ _; decide) ⟨fun _ _ => flat_int⟩ rfl ?_; dsimp only [entB, ents]
  refine sem_step (wd := 1) (Q := mkQ LDw) (by decide) tysOk (q_of LDw_ok) mixed ?_
  repeat' (first | (apply And.intro <;> intro hc <;> (first | exact Bool.noConfusion hc | (simp only [decide_eq_true_eq, decide_eq_false_iff_not, Bool.not_eq_true', Bool.not_eq_false', beq_iff_eq, beq_eq_false_iff_ne, bne_iff_ne, bne_eq_false_iff_eq, Bool.true_eq_false, Bool.false_eq_true] at hc) | skip)) | (refine And.intro (by first | exact trivial | decide | omega | (dsimp only; omega) | exact fun _ _ => rfl) ?_) | (apply And.intro) | (intro s hs))
  refine sem_step (wd := 1) (Q := mkQ LDw) (by decide) tysOk (q_of LDw_ok) mixed ?_
  repeat' (first | (apply And.intro <;> intro hc <;> (first | exact Bool.noConfusion hc | (simp only [decide_eq_true_eq, decide_eq_false_iff_not, Bool.not_eq_true', Bool.not_eq_false', beq_iff_eq, beq_eq_false_iff_ne, bne_iff_ne, bne_eq_false_iff_eq, Bool.true_eq_false, Bool.false_eq_true] at hc) | skip)) | (refine And.intro (by first | exact trivial | decide | omega | (dsimp only; omega) | exact fun _ _ => rfl) ?_) | (apply And.intro) | (intro s hs))
  refine sem_step (wd := 1) (Q := mkQ LDw) (by decide) tysOk (q_of LDw_ok) mixed ?_
  repeat' (first | (apply And.intro <;> intro hc <;> (first | exact Bool.noConfusion hc | (exfalso; first | exact absurd hc (by decide)) | (simp only [decide_eq_true_eq, decide_eq_false_iff_not, Bool.not_eq_true', Bool.not_eq_false', beq_iff_eq, beq_eq_false_iff_ne, bne_iff_ne, bne_eq_false_iff_eq, Bool.true_eq_false, Bool.false_eq_true, ne_eq, not_true_eq_false] at hc <;> first | exact absurd rfl hc | (exfalso; first | exact absurd hc (by decide)) | skip) | skip)) | (refine And.intro (by first | exact trivial | decide | omega | (dsimp only; omega) | exact fun _ _ => rfl | exact ⟨by assumption, by first | exact trivial | decide | omega | (dsimp only; omega)⟩) ?_) | (apply And.intro) | (intro s hs; first | (have q : s = _ ++ beB _ _ := hs; clear hs; have hl := wl8 q (by assumption)) | (have q : s = _ ++ ipL _ := hs; clear hs; have hl := wl16 q (by assumption)) | (have q : s = _ ++ [_, _] := hs; clear hs; have hl := wlr q (by assumption) (Nat.le_of_ble_eq_true rfl)) | (have q : s = _ ++ [_, _, _, _] := hs; clear hs; have hl := wlr q (by assumption) (Nat.le_of_ble_eq_true rfl)) | (have q : s = _ ++ [_, _, _, _, _, _] := hs; clear hs; have hl := wlr q (by assumption) (Nat.le_of_ble_eq_true rfl)) | skip) | (refine Exists.intro _ (And.intro ⟨rfl, rfl, rfl⟩ ?_)))
  refine sem_step (wd := 1) (Q := mkQ LDw) (by decide) tysOk (q_of LDw_ok) mixed ?_
  repeat' (first | (apply And.intro <;> intro hc <;> (first | exact Bool.noConfusion hc | (exfalso; first | exact absurd hc (by decide)) | (simp only [decide_eq_true_eq, decide_eq_false_iff_not, Bool.not_eq_true', Bool.not_eq_false', beq_iff_eq, beq_eq_false_iff_ne, bne_iff_ne, bne_eq_false_iff_eq, Bool.true_eq_false, Bool.false_eq_true, ne_eq, not_true_eq_false] at hc <;> first | exact absurd rfl hc | (exfalso; first | exact absurd hc (by decide)) | skip) | skip)) | (refine And.intro (by first | exact trivial | decide | omega | (dsimp only; omega) | exact fun _ _ => rfl | exact ⟨by assumption, by first | exact trivial | decide | omega | (dsimp only; omega)⟩) ?_) | (apply And.intro) | (intro s hs; first | (have q : s = _ ++ beB _ _ := hs; clear hs; have hl := wl8 q (by assumption)) | (have q : s = _ ++ ipL _ := hs; clear hs; have hl := wl16 q (by assumption)) | (have q : s = _ ++ [_, _] := hs; clear hs; have hl := wlr q (by assumption) (Nat.le_of_ble_eq_true rfl)) | (have q : s = _ ++ [_, _, _, _] := hs; clear hs; have hl := wlr q (by assumption) (Nat.le_of_ble_eq_true rfl)) | (have q : s = _ ++ [_, _, _, _, _, _] := hs; clear hs; have hl := wlr q (by assumption) (Nat.le_of_ble_eq_true rfl)) | skip) | (refine Exists.intro _ (And.intro ⟨rfl, rfl, rfl⟩ ?_)))
  change Sem _ _ _ _ _ _ _ _; refine sem_cut (wd := 1) (Q := mkQ LDw) (by decide) tysOk (q_of LDw_ok) (mono_of LDw_ok) mixed (HWb m L) (by intro _; rfl) ?_ ?_
  · repeat' (first | (apply And.intro <;> intro hc <;> (first | exact Bool.noConfusion hc | (exfalso; first | exact absurd hc (by decide)) | (simp only [decide_eq_true_eq, decide_eq_false_iff_not, Bool.not_eq_true', Bool.not_eq_false', beq_iff_eq, beq_eq_false_iff_ne, bne_iff_ne, bne_eq_false_iff_eq, Bool.true_eq_false, Bool.false_eq_true, ne_eq, not_true_eq_false] at hc <;> first | exact absurd rfl hc | (exfalso; first | exact absurd hc (by decide)) | skip) | skip)) | (refine And.intro (by first | exact trivial | decide | omega | (dsimp only; omega) | exact fun _ _ => rfl | exact ⟨by assumption, by first | exact trivial | decide | omega | (dsimp only; omega)⟩) ?_) | (apply And.intro) | (intro s hs; first | (have q : s = _ ++ beB _ _ := hs; clear hs; have hl := wl8 q (by assumption)) | (have q : s = _ ++ ipL _ := hs; clear hs; have hl := wl16 q (by assumption)) | (have q : s = _ ++ [_, _] := hs; clear hs; have hl := wlr q (by assumption) (Nat.le_of_ble_eq_true rfl)) | (have q : s = _ ++ [_, _, _, _] := hs; clear hs; have hl := wlr q (by assumption) (Nat.le_of_ble_eq_true rfl)) | (have q : s = _ ++ [_, _, _, _, _, _] := hs; clear hs; have hl := wlr q (by assumption) (Nat.le_of_ble_eq_true rfl)) | skip) | (refine Exists.intro _ (And.intro ⟨rfl, rfl, rfl⟩ ?_)))
    · rcases s with _ | _ | s
      · rfl
      · rfl
      · exact absurd hs (by omega)
    · exact Nat.le_trans (Nat.le_of_eq (toL_len _ _ _)) (by decide)
    · have hd : isDup m.a.ty := of_decide_eq_true ((lay_owner _).symm.trans (by assumption))
      have e : s = L ++ ([m.a.ty, 0, 0, 0] ++ body1 m.a) := by
        subst_vars
        dsimp only
        unfold body1
        rw [t1, t2, if_pos hd]
        simp only [List.append_assoc]
        rfl
      refine ⟨(), [(4, some 36)], rfl, ?_, ?_⟩
      · repeat' (first | exact trivial | exact rfl | exact leF_ptr rfl | exact leF_int rfl | exact leF_bool rfl | exact leF_cl (cl_slB _ _) | exact leF_cl (cl_slR _ _) | exact leF_cl (cl_ll _ _) | exact leF_c (leC_os rfl rfl) | refine leF_int ?_ | refine leF_bool ?_ | exact leN_varA (fun _ _ => (Elem.flat _ _ _).le) | exact leN_varA (fun _ _ => leC_top) | apply And.intro)
      · unfold HWb
        dsimp only
        rw [← e]
        repeat' (first | exact trivial | exact rfl | exact leF_ptr rfl | exact leF_int rfl | exact leF_bool rfl | exact leF_cl (cl_slB _ _) | exact leF_cl (cl_slR _ _) | exact leF_cl (cl_ll _ _) | exact leF_c (leC_os rfl rfl) | refine leF_int ?_ | refine leF_bool ?_ | exact leN_varA (fun _ _ => (Elem.flat _ _ _).le) | exact leN_varA (fun _ _ => leC_top) | apply And.intro)
        all_goals first | exact leN_wv rfl | exact leN_msg | exact leN_lay | exact leN_ents
    · rcases s with _ | _ | s
      · rfl
      · rfl
      · exact absurd hs (by omega)
    · exact Nat.le_trans (Nat.le_of_eq (toL_len _ _ _)) (by decide)
    · have hd : ¬ isDup m.a.ty := of_decide_eq_false ((lay_owner _).symm.trans (by assumption))
      have h4 : m.a.ty = 134 := of_decide_eq_true ((lay_router _).symm.trans (by assumption))
      have e : s = L ++ ([m.a.ty, 0, 0, 0] ++ body1 m.a) := by
        subst_vars
        dsimp only
        unfold body1
        rw [t1, t3, if_neg hd, if_pos h4]
        simp only [List.append_assoc]
        rfl
      refine ⟨(), [(4, some 31)], rfl, ?_, ?_⟩
      · repeat' (first | exact trivial | exact rfl | exact leF_ptr rfl | exact leF_int rfl | exact leF_bool rfl | exact leF_cl (cl_slB _ _) | exact leF_cl (cl_slR _ _) | exact leF_cl (cl_ll _ _) | exact leF_c (leC_os rfl rfl) | refine leF_int ?_ | refine leF_bool ?_ | exact leN_varA (fun _ _ => (Elem.flat _ _ _).le) | exact leN_varA (fun _ _ => leC_top) | apply And.intro)
      · unfold HWb
        dsimp only
        rw [← e]
        repeat' (first | exact trivial | exact rfl | exact leF_ptr rfl | exact leF_int rfl | exact leF_bool rfl | exact leF_cl (cl_slB _ _) | exact leF_cl (cl_slR _ _) | exact leF_cl (cl_ll _ _) | exact leF_c (leC_os rfl rfl) | refine leF_int ?_ | refine leF_bool ?_ | exact leN_varA (fun _ _ => (Elem.flat _ _ _).le) | exact leN_varA (fun _ _ => leC_top) | apply And.intro)
        all_goals first | exact leN_wv rfl | exact leN_msg | exact leN_lay | exact leN_ents
    · have hd : ¬ isDup m.a.ty := of_decide_eq_false ((lay_owner _).symm.trans (by assumption))
      have h4 : ¬ m.a.ty = 134 := of_decide_eq_false ((lay_router _).symm.trans (by assumption))
      have e : s = L ++ ([m.a.ty, 0, 0, 0] ++ body1 m.a) := by
        subst_vars
        dsimp only
        unfold body1
        rw [t1, if_neg hd, if_neg h4]
        simp only [List.append_assoc]
        rfl
      refine ⟨(), [(4, some 21)], rfl, ?_, ?_⟩
      · repeat' (first | exact trivial | exact rfl | exact leF_ptr rfl | exact leF_int rfl | exact leF_bool rfl | exact leF_cl (cl_slB _ _) | exact leF_cl (cl_slR _ _) | exact leF_cl (cl_ll _ _) | exact leF_c (leC_os rfl rfl) | refine leF_int ?_ | refine leF_bool ?_ | exact leN_varA (fun _ _ => (Elem.flat _ _ _).le) | exact leN_varA (fun _ _ => leC_top) | apply And.intro)
      · unfold HWb
        dsimp only
        rw [← e]
        repeat' (first | exact trivial | exact rfl | exact leF_ptr rfl | exact leF_int rfl | exact leF_bool rfl | exact leF_cl (cl_slB _ _) | exact leF_cl (cl_slR _ _) | exact leF_cl (cl_ll _ _) | exact leF_c (leC_os rfl rfl) | refine leF_int ?_ | refine leF_bool ?_ | exact leN_varA (fun _ _ => (Elem.flat _ _ _).le) | exact leN_varA (fun _ _ => leC_top) | apply And.intro)
        all_goals first | exact leN_wv rfl | exact leN_msg | exact leN_lay | exact leN_ents
  · rintro ⟨⟩
    clear t1 t2 t3
    unfold HWb
    dsimp only
    refine sem_exec (wd := 1) (Q := mkQ LDw) (by decide) tysOk (q_of LDw_ok) mixed ?_
    have hl0 := body1_len m.a
    repeat' (first | (apply And.intro <;> intro hc <;> (first | exact Bool.noConfusion hc | (exfalso; first | exact absurd hc (by decide)) | (simp only [decide_eq_true_eq, decide_eq_false_iff_not, Bool.not_eq_true', Bool.not_eq_false', beq_iff_eq, beq_eq_false_iff_ne, bne_iff_ne, bne_eq_false_iff_eq, Bool.true_eq_false, Bool.false_eq_true, ne_eq, not_true_eq_false] at hc <;> first | exact absurd rfl hc | (exfalso; first | exact absurd hc (by decide)) | skip) | skip)) | (refine And.intro (by first | exact trivial | decide | omega | (dsimp only; omega) | exact fun _ _ => rfl | exact ⟨by assumption, by first | exact trivial | decide | omega | (dsimp only; omega)⟩) ?_) | (apply And.intro) | (intro s hs; first | (have q : s = _ ++ beB _ _ := hs; clear hs; have hl := wl8 q (by assumption)) | (have q : s = _ ++ ipL _ := hs; clear hs; have hl := wl16 q (by assumption)) | (have q : s = _ ++ [_, _] := hs; clear hs; have hl := wlr q (by assumption) (by decide)) | (have q : s = _ ++ [_, _, _, _] := hs; clear hs; have hl := wlr q (by assumption) (by decide)) | (have q : s = _ ++ [_, _, _, _, _, _] := hs; clear hs; have hl := wlr q (by assumption) (by decide)) | skip) | (refine Exists.intro _ (And.intro ⟨rfl, rfl, rfl⟩ ?_)))
    · show (L ++ ([m.a.ty, 0, 0, 0] ++ body1 m.a)).length ≤ _
      simp only [List.length_append, List.length_cons, List.length_nil]
      omega
    · have e : s = L ++ headB m := by
        refine (show s = _ ++ ipL m.a.tgt from hs).trans ?_
        unfold headB
        rw [body_t (by assumption)]
        simp only [List.append_assoc]
      rw [e]
      exact ⟨finWx rfl rfl rfl fun c => leN_ents⟩
    · have e : L ++ ([m.a.ty, 0, 0, 0] ++ body1 m.a) = L ++ headB m := by
        unfold headB
        rw [body_f (by assumption)]
      rw [e]
      exact ⟨finWx rfl rfl rfl fun c => leN_ents⟩
abbrev wbodyE : Entry := wrE tW (AC.cons cMsg (AC.cons (cE eLay) AC.nil)) (fun L a => (MAr a.1.a ∧ a.2.1 = layF a.1.a.ty) ∧ L.length ≤ 1000) (fun L a => L ++ headB a.1)
def LDw2 : CsL := (31, some wbodyE) :: LDw
theorem LDw2_ok : AllOk Try.prog LDw2 := ⟨wrE_ok ⟨_, Try.func31, rfl, by kernel_rfl⟩ fun L a h => by
    obtain ⟨m, y, u⟩ := a
    obtain ⟨⟨h1, h2⟩, h3⟩ := h
    dsimp only at h1 h2 h3
    subst h2
    exact wbody_ok L m h1 h3, LDw_ok⟩
end Go.Proofs.Ythbhidfohdipnaa.AX

/- The writer of discovery messages: options. (Printed by gen/diw3.py.) -/
namespace Go.Proofs.Ythbhidfohdipnaa.AX
open Go.RowKit
set_option linter.unusedVariables false
set_option linter.unusedSimpArgs false
theorem toL4 (f : Nat → Nat → CV) : toL eB 4 f = [valI (f 0 0), valI (f 1 0), valI (f 2 0), valI (f 3 0)] := rfl
theorem toL6 (f : Nat → Nat → CV) : toL eB 6 f = [valI (f 0 0), valI (f 1 0), valI (f 2 0), valI (f 3 0), valI (f 4 0), valI (f 5 0)] := rfl
theorem leC_fn {c : Wc} {f : FuncId} {n m : Nat} {a b : Nat → CV} (h : ∀ k, k < n + m → LeC c (a k) (b k)) : LeC c (.fn f n m a) (.fn f n m b) := by
  rintro hl cx r w v st ⟨fs, cs, rfl, h1, h2, h3, h4⟩
  refine ⟨fs, cs, rfl, h1, h2, fun k u hu => ?_, fun k u hu => ?_⟩
  · have hk : k < fs.size := (Array.getElem?_eq_some_iff.1 hu).1
    exact h k (by omega) hl cx r w u st (h3 k u hu)
  · have hk : k < cs.size := (Array.getElem?_eq_some_iff.1 hu).1
    exact h (n + k) (by omega) hl cx r w u st (h4 k u hu)
abbrev putC : CV := .fn 56 1 0 (nth [.ptr 0 0 0 false])
theorem leF_put {c : Wc} {a : Nat → CV} (h : a 0 = .ptr 0 0 0 false) (h0 : c.src 0 = some 0) : LeF c (one (.fn 56 1 0 a)) (one putC) := leF_c (leC_fn fun k hk => by
  obtain rfl : k = 0 := by omega
  rw [h]
  exact leC_ptr h0)
theorem flat_len {α : Type} {f : α → List Int} {k : Nat} : ∀ (l : List α), (∀ x ∈ l, (f x).length = k) → (l.flatMap f).length = k * l.length := by
  intro l
  induction l with
  | nil => intro _; rfl
  | cons x l ih =>
    intro h
    rw [List.flatMap_cons, List.length_append, h x (List.mem_cons_self ..), ih fun y hy => h y (List.mem_cons_of_mem _ hy), List.length_cons, Nat.mul_succ]; omega
theorem pf_len (x : PI) : (pfB x).length = 32 := by unfold pfB; simp only [List.length_append, beN_len, zs_len, ipL_len, List.length_cons, List.length_nil]
theorem ct_len (x : CI) : (ctB x).length = 24 := by unfold ctB; simp only [List.length_append, beN_len, ipL_len, List.length_cons, List.length_nil]
theorem src_len (a : MA) : (srcB a).length ≤ 16 := by
  unfold srcB
  split
  · simp only [List.length_append, beN_len, zs_len, List.length_cons, List.length_nil]; omega
  · split
    · simp only [List.length_append, beN_len, zs_len, List.length_cons, List.length_nil]; omega
    · exact Nat.zero_le _
theorem own_len (a : MA) : (ownO a).length ≤ 16 := by
  unfold ownO
  split
  · unfold ownB; simp only [List.length_append, beN_len, List.length_cons, List.length_nil]; omega
  · exact Nat.zero_le _
theorem okC_bits {c : CI} (h : okC c = true) : 0 ≤ c.bits ∧ c.bits ≤ 128 := by
  unfold okC at h
  simp only [Bool.and_eq_true] at h
  exact vpf_bits (p := pfxC c) h.1.1
theorem brt_M {a : MA} {P C : CV} {z : MZ} : ((eA .u8 16).rd fun q => msgC a P C z (0 + 29 + 2 + q)) = z.brt := by
  funext q
  show valI (msgC a P C z (0 + 29 + 2 + q.1)) = _
  rw [msgC_z (by omega), show 0 + 29 + 2 + q.1 - 29 = 2 + q.1 by omega, eMZ_brt_at _ _ q.2]
  exact vget_lt _ q.2
theorem own_no {m : Msg} (h : m.a.hasO = false ∨ (layF m.a.ty).option = false) : ownO m.a = [] := by
  unfold ownO
  rw [if_neg]
  rintro ⟨h1, h2⟩
  rcases h with h | h
  · rw [h1] at h; cases h
  · rw [lay_option, decide_eq_true h2] at h; cases h
theorem mem_getD {α : Type} [Inhabited α] {l : List α} {i : Nat} (h : i < l.length) : l.getD i default ∈ l := by
  rw [List.getD_eq_getElem?_getD, List.getElem?_eq_getElem h]
  exact List.getElem_mem h
theorem fB_r (x : Bool) (v : Int) (h : 0 ≤ v) : 0 ≤ fB x v ∧ fB x v ≤ v := by
  unfold fB
  split <;> omega
def prB (m : Msg) (i : Nat) : List Int := srcB m.a ++ (ownO m.a ++ (m.p.take i).flatMap pfB)
def coB (m : Msg) (i : Nat) : List Int := prB m m.p.length ++ (m.c.take i).flatMap ctB
theorem pr_len {m : Msg} (h : m.p.length ≤ 16) (i : Nat) : (prB m i).length ≤ 600 := by
  have h1 := src_len m.a
  have h2 := own_len m.a
  have h3 := flat_len (m.p.take i) (fun x _ => pf_len x)
  rw [List.length_take] at h3
  unfold prB
  simp only [List.length_append]
  omega
theorem co_len {m : Msg} (h : m.p.length ≤ 16) (h' : m.c.length ≤ 16) (i : Nat) : (coB m i).length ≤ 1000 := by
  have h1 := pr_len h m.p.length
  have h3 := flat_len (m.c.take i) (fun x _ => ct_len x)
  rw [List.length_take] at h3
  unfold coB
  simp only [List.length_append]
  omega
theorem pr_step {m : Msg} {i : Nat} (h : i < m.p.length) : prB m (i + 1) = prB m i ++ pfB (m.p.getD i default) := by
  unfold prB
  rw [List.take_succ_eq_append_getElem h, List.flatMap_append, List.getD_eq_getElem?_getD, List.getElem?_eq_getElem h]
  simp [List.append_assoc]
theorem co_step {m : Msg} {i : Nat} (h : i < m.c.length) : coB m (i + 1) = coB m i ++ ctB (m.c.getD i default) := by
  unfold coB
  rw [List.take_succ_eq_append_getElem h, List.flatMap_append, List.getD_eq_getElem?_getD, List.getElem?_eq_getElem h]
  simp [List.append_assoc]
def HWo (m : Msg) (X : List Int) (_ : Unit) : Hd := ⟨[(0, one (.ptr 0 0 0 false)), (4, one (.ptr 2 0 0 false)), (5, one (.ptr 3 0 0 false)), (6, one putC)],
  [(0, some (wvar tW 4 X.length)), (2, some (mEnt m)), (3, some (lEnt m)), (4, some (entB X))], 5⟩
set_option maxRecDepth 20000 in
set_option maxHeartbeats 8000000 in
theorem wopts_ok (L : List Int) (m : Msg) (hm : MsgR m) (hv : ValM m) (hL : L.length ≤ 1000) : WrOk Try.prog 32 tW [cMsg.enc m, (cE eLay).enc (layF m.a.ty)] (entB L) (entB (L ++ optB m)) := by
  have t1 := be2 hm.a.short
  have t2 := be2 hm.a.olife
  have t3 := be2 hm.z.blife
  have t4 := be4 hm.z.bver
  have hl1 := src_len m.a
  have hl2 := own_len m.a
  have np := hv.np
  have nc := hv.nc
  refine wr_introS tysOk Try.func32 rfl _ (by show 2 + 1 ≤ _; decide) ⟨fun _ _ => flat_int⟩ rfl ?_; dsimp only [entB, ents]
  refine sem_step (wd := 1) (Q := mkQ LDw) (by decide) tysOk (q_of LDw_ok) mixed ?_
  repeat' (first | (apply And.intro <;> intro hc <;> (first | exact Bool.noConfusion hc | (simp only [decide_eq_true_eq, decide_eq_false_iff_not, Bool.not_eq_true', Bool.not_eq_false', beq_iff_eq, beq_eq_false_iff_ne, bne_iff_ne, bne_eq_false_iff_eq, Bool.true_eq_false, Bool.false_eq_true] at hc) | skip)) | (refine And.intro (by first | exact trivial | decide | omega | (dsimp only; omega) | exact fun _ _ => rfl) ?_) | (apply And.intro) | (intro s hs))
  refine sem_step (wd := 1) (Q := mkQ LDw) (by decide) tysOk (q_of LDw_ok) mixed ?_
  repeat' (first | (apply And.intro <;> intro hc <;> (first | exact Bool.noConfusion hc | (simp only [decide_eq_true_eq, decide_eq_false_iff_not, Bool.not_eq_true', Bool.not_eq_false', beq_iff_eq, beq_eq_false_iff_ne, bne_iff_ne, bne_eq_false_iff_eq, Bool.true_eq_false, Bool.false_eq_true] at hc) | skip)) | (refine And.intro (by first | exact trivial | decide | omega | (dsimp only; omega) | exact fun _ _ => rfl) ?_) | (apply And.intro) | (intro s hs))
  change Sem _ _ _ _ _ _ _ _; refine sem_cut (wd := 1) (Q := mkQ LDw) (by decide) tysOk (q_of LDw_ok) (mono_of LDw_ok) mixed (HWo m (L ++ srcB m.a)) (by intro _; rfl) ?_ ?_
  · repeat' (first | (apply And.intro <;> intro hc <;> (first | exact Bool.noConfusion hc | (exfalso; first | exact absurd hc (by decide)) | (simp only [decide_eq_true_eq, decide_eq_false_iff_not, Bool.not_eq_true', Bool.not_eq_false', beq_iff_eq, beq_eq_false_iff_ne, bne_iff_ne, bne_eq_false_iff_eq, Bool.true_eq_false, Bool.false_eq_true, ne_eq, not_true_eq_false] at hc <;> first | exact absurd rfl hc | (exfalso; first | exact absurd hc (by decide)) | skip) | skip)) | (refine And.intro (by first | exact trivial | decide | omega | (dsimp only; omega) | exact fun _ _ => rfl | exact ⟨by assumption, by first | exact trivial | decide | omega | (dsimp only; omega)⟩) ?_) | (apply And.intro) | (intro s hs; first | (have q : s = _ ++ beB _ _ := hs; clear hs; have hl := wl8 q (by assumption)) | (have q : s = _ ++ ipL _ := hs; clear hs; have hl := wl16 q (by assumption)) | (have q : s = _ ++ [_, _] := hs; clear hs; have hl := wlr q (by assumption) (by decide)) | (dsimp only at hs; have q : s = _ ++ toL eB 4 _ := hs; clear hs; rw [toL4] at q; have hl := wlr q (by assumption) (Nat.le_of_ble_eq_true rfl)) | (dsimp only at hs; have q : s = _ ++ toL eB 6 _ := hs; clear hs; rw [toL6] at q; have hl := wlr q (by assumption) (Nat.le_of_ble_eq_true rfl)) | skip) | (refine Exists.intro _ (And.intro ⟨rfl, rfl, rfl⟩ ?_)))
    · exact Nat.le_trans (Nat.le_of_eq (toL_len _ _ _)) (by decide)
    · have e : s = L ++ srcB m.a := by
        subst_vars
        dsimp only
        unfold srcB
        rw [t1, if_pos (by assumption)]
        simp only [List.append_assoc]
        rfl
      refine ⟨(), [(4, some 22)], rfl, ?_, ?_⟩
      · repeat' (first | exact trivial | exact rfl | exact leF_ptr rfl | exact leF_int rfl | exact leF_bool rfl | exact leF_cl (cl_slB _ _) | exact leF_cl (cl_slR _ _) | exact leF_cl (cl_ll _ _) | exact leF_c (leC_os rfl rfl) | refine leF_int ?_ | refine leF_bool ?_ | exact leN_varA (fun _ _ => (Elem.flat _ _ _).le) | exact leN_varA (fun _ _ => leC_top) | apply And.intro)
        all_goals (first | exact leF_put rfl rfl | skip)
      · unfold HWo
        dsimp only
        rw [← e]
        repeat' (first | exact trivial | exact rfl | exact leF_ptr rfl | exact leF_int rfl | exact leF_bool rfl | exact leF_cl (cl_slB _ _) | exact leF_cl (cl_slR _ _) | exact leF_cl (cl_ll _ _) | exact leF_c (leC_os rfl rfl) | refine leF_int ?_ | refine leF_bool ?_ | exact leN_varA (fun _ _ => (Elem.flat _ _ _).le) | exact leN_varA (fun _ _ => leC_top) | apply And.intro)
        all_goals first | exact leN_wv rfl | exact leN_msg | exact leN_lay | exact leN_ents (E := eB)
    · exact Nat.le_trans (Nat.le_of_eq (toL_len _ _ _)) (by decide)
    · have e : s = L ++ srcB m.a := by
        subst_vars
        dsimp only
        unfold srcB
        rw [if_neg (by assumption), if_pos (by assumption)]
        simp only [List.append_assoc]
        rfl
      refine ⟨(), [(4, some 23)], rfl, ?_, ?_⟩
      · repeat' (first | exact trivial | exact rfl | exact leF_ptr rfl | exact leF_int rfl | exact leF_bool rfl | exact leF_cl (cl_slB _ _) | exact leF_cl (cl_slR _ _) | exact leF_cl (cl_ll _ _) | exact leF_c (leC_os rfl rfl) | refine leF_int ?_ | refine leF_bool ?_ | exact leN_varA (fun _ _ => (Elem.flat _ _ _).le) | exact leN_varA (fun _ _ => leC_top) | apply And.intro)
        all_goals (first | exact leF_put rfl rfl | skip)
      · unfold HWo
        dsimp only
        rw [← e]
        repeat' (first | exact trivial | exact rfl | exact leF_ptr rfl | exact leF_int rfl | exact leF_bool rfl | exact leF_cl (cl_slB _ _) | exact leF_cl (cl_slR _ _) | exact leF_cl (cl_ll _ _) | exact leF_c (leC_os rfl rfl) | refine leF_int ?_ | refine leF_bool ?_ | exact leN_varA (fun _ _ => (Elem.flat _ _ _).le) | exact leN_varA (fun _ _ => leC_top) | apply And.intro)
        all_goals first | exact leN_wv rfl | exact leN_msg | exact leN_lay | exact leN_ents (E := eB)
    · have e : L = L ++ srcB m.a := by
        unfold srcB
        rw [if_neg (by assumption), if_neg (by assumption), List.append_nil]
      refine ⟨(), [(4, some 1)], rfl, ?_, ?_⟩
      · repeat' (first | exact trivial | exact rfl | exact leF_ptr rfl | exact leF_int rfl | exact leF_bool rfl | exact leF_cl (cl_slB _ _) | exact leF_cl (cl_slR _ _) | exact leF_cl (cl_ll _ _) | exact leF_c (leC_os rfl rfl) | refine leF_int ?_ | refine leF_bool ?_ | exact leN_varA (fun _ _ => (Elem.flat _ _ _).le) | exact leN_varA (fun _ _ => leC_top) | apply And.intro)
        all_goals (first | exact leF_put rfl rfl | skip)
      · unfold HWo
        dsimp only
        rw [← e]
        repeat' (first | exact trivial | exact rfl | exact leF_ptr rfl | exact leF_int rfl | exact leF_bool rfl | exact leF_cl (cl_slB _ _) | exact leF_cl (cl_slR _ _) | exact leF_cl (cl_ll _ _) | exact leF_c (leC_os rfl rfl) | refine leF_int ?_ | refine leF_bool ?_ | exact leN_varA (fun _ _ => (Elem.flat _ _ _).le) | exact leN_varA (fun _ _ => leC_top) | apply And.intro)
        all_goals first | exact leN_wv rfl | exact leN_msg | exact leN_lay | exact leN_ents (E := eB)
  · rintro ⟨⟩
    unfold HWo
    dsimp only
    have hx : (L ++ srcB m.a).length ≤ 1016 := by rw [List.length_append]; omega
    obtain ⟨X, eX⟩ : ∃ X, L ++ srcB m.a = X := ⟨_, rfl⟩
    rw [eX] at hx ⊢
    change Sem _ _ _ _ _ _ _ _; refine sem_cut (wd := 1) (Q := mkQ LDw) (by decide) tysOk (q_of LDw_ok) (mono_of LDw_ok) mixed (HWo m (X ++ ownO m.a)) (by intro _; rfl) ?_ ?_
    · repeat' (first | (apply And.intro <;> intro hc <;> (first | exact Bool.noConfusion hc | (exfalso; first | exact absurd hc (by decide)) | (simp only [decide_eq_true_eq, decide_eq_false_iff_not, Bool.not_eq_true', Bool.not_eq_false', beq_iff_eq, beq_eq_false_iff_ne, bne_iff_ne, bne_eq_false_iff_eq, Bool.true_eq_false, Bool.false_eq_true, ne_eq, not_true_eq_false] at hc <;> first | exact absurd rfl hc | (exfalso; first | exact absurd hc (by decide)) | skip) | skip)) | (refine And.intro (by first | exact trivial | decide | omega | (dsimp only; omega) | exact fun _ _ => rfl | exact ⟨by assumption, by first | exact trivial | decide | omega | (dsimp only; omega)⟩) ?_) | (apply And.intro) | (intro s hs; first | (have q : s = _ ++ beB _ _ := hs; clear hs; have hl := wl8 q (by assumption)) | (have q : s = _ ++ ipL _ := hs; clear hs; have hl := wl16 q (by assumption)) | (have q : s = _ ++ [_, _] := hs; clear hs; have hl := wlr q (by assumption) (by decide)) | (dsimp only at hs; have q : s = _ ++ toL eB 4 _ := hs; clear hs; rw [toL4] at q; have hl := wlr q (by assumption) (Nat.le_of_ble_eq_true rfl)) | (dsimp only at hs; have q : s = _ ++ toL eB 6 _ := hs; clear hs; rw [toL6] at q; have hl := wlr q (by assumption) (Nat.le_of_ble_eq_true rfl)) | skip) | (refine Exists.intro _ (And.intro ⟨rfl, rfl, rfl⟩ ?_)))
      · rcases s with _ | _ | _ | _ | _ | _ | s
        · rfl
        · rfl
        · rfl
        · rfl
        · rfl
        · rfl
        · exact absurd hs (by omega)
      · exact Nat.le_trans (Nat.le_of_eq (toL_len _ _ _)) (by decide)
      · have e : s = X ++ ownO m.a := by
          have ho : (layF m.a.ty).option = true := by assumption
          have hn : isNb m.a.ty := of_decide_eq_true ((lay_option _).symm.trans ho)
          clear eX
          subst_vars
          dsimp only
          unfold ownO ownB
          rw [t2, if_pos ⟨by assumption, hn⟩]
          simp only [List.append_assoc]
          rfl
        refine ⟨(), [(4, some 30)], rfl, ?_, ?_⟩
        · repeat' (first | exact trivial | exact rfl | exact leF_ptr rfl | exact leF_int rfl | exact leF_bool rfl | exact leF_cl (cl_slB _ _) | exact leF_cl (cl_slR _ _) | exact leF_cl (cl_ll _ _) | exact leF_c (leC_os rfl rfl) | refine leF_int ?_ | refine leF_bool ?_ | exact leN_varA (fun _ _ => (Elem.flat _ _ _).le) | exact leN_varA (fun _ _ => leC_top) | apply And.intro)
          all_goals (first | exact leF_put rfl rfl | skip)
        · unfold HWo
          dsimp only
          rw [← e]
          repeat' (first | exact trivial | exact rfl | exact leF_ptr rfl | exact leF_int rfl | exact leF_bool rfl | exact leF_cl (cl_slB _ _) | exact leF_cl (cl_slR _ _) | exact leF_cl (cl_ll _ _) | exact leF_c (leC_os rfl rfl) | refine leF_int ?_ | refine leF_bool ?_ | exact leN_varA (fun _ _ => (Elem.flat _ _ _).le) | exact leN_varA (fun _ _ => leC_top) | apply And.intro)
          all_goals first | exact leN_wv rfl | exact leN_msg | exact leN_lay | exact leN_ents (E := eB)
      all_goals
        have e : X = X ++ ownO m.a := by
          rw [own_no (by first | exact .inl (by assumption) | exact .inr (by assumption)), List.append_nil]
        refine ⟨(), [], rfl, ?_, ?_⟩
        · repeat' (first | exact trivial | exact rfl | exact leF_ptr rfl | exact leF_int rfl | exact leF_bool rfl | exact leF_cl (cl_slB _ _) | exact leF_cl (cl_slR _ _) | exact leF_cl (cl_ll _ _) | exact leF_c (leC_os rfl rfl) | refine leF_int ?_ | refine leF_bool ?_ | exact leN_varA (fun _ _ => (Elem.flat _ _ _).le) | exact leN_varA (fun _ _ => leC_top) | apply And.intro)
          all_goals (first | exact leF_put rfl rfl | skip)
        · unfold HWo
          dsimp only
          rw [← e]
          repeat' (first | exact trivial | exact rfl | exact leF_ptr rfl | exact leF_int rfl | exact leF_bool rfl | exact leF_cl (cl_slB _ _) | exact leF_cl (cl_slR _ _) | exact leF_cl (cl_ll _ _) | exact leF_c (leC_os rfl rfl) | refine leF_int ?_ | refine leF_bool ?_ | exact leN_varA (fun _ _ => (Elem.flat _ _ _).le) | exact leN_varA (fun _ _ => leC_top) | apply And.intro)
          all_goals first | exact leN_wv rfl | exact leN_msg | exact leN_lay | exact leN_ents (E := eB)
    · rintro ⟨⟩
      have eX' : X ++ ownO m.a = L ++ prB m 0 := by rw [← eX]; unfold prB; simp
      rw [eX']
      clear eX' eX hx
      have hpl : ∀ i, (L ++ prB m i).length ≤ 1600 := fun i => by have := pr_len hv.np i; rw [List.length_append]; omega
      change Sem _ _ _ _ _ _ _ _; refine sem_cut (wd := 1) (Q := mkQ LDw) (by decide) tysOk (q_of LDw_ok) (mono_of LDw_ok) mixed (HWo m (L ++ prB m m.p.length)) (by intro _; rfl) ?_ ?_
      · unfold HWo
        dsimp only
        repeat' (first | (apply And.intro <;> intro hc <;> (first | exact Bool.noConfusion hc | (simp only [decide_eq_true_eq, decide_eq_false_iff_not, Bool.not_eq_true', Bool.not_eq_false', beq_iff_eq, beq_eq_false_iff_ne, bne_iff_ne, bne_eq_false_iff_eq, Bool.true_eq_false, Bool.false_eq_true] at hc) | skip)) | (refine And.intro (by first | exact trivial | decide | omega | (dsimp only; omega) | exact fun _ _ => rfl) ?_) | (apply And.intro) | (intro s hs))
        refine loop_intro (mono_of LDw_ok) (fun s : {i : Nat // i ≤ m.p.length} => (⟨[(0, one (.ptr 0 0 0 false)), (4, one (.ptr 2 0 0 false)), (5, one (.ptr 3 0 0 false)), (6, one putC), (68, one (.sl false m.p.length ePI.sz (rowF ePI m.p))), (69, one (.int .i64 (m.p.length : Int))), (70, one (.int .i64 (s.1 : Int)))],
          [(0, some (wvar tW 4 (L ++ prB m s.1).length)), (2, some (mEnt m)), (3, some (lEnt m)), (4, some (entB (L ++ prB m s.1)))], 5⟩ : Hd)) (fun s => m.p.length - s.1) (fun _ => rfl) ?_ ⟨0, by omega⟩ [] ?_
        · rintro ⟨i, hi⟩
          dsimp only at hi ⊢
          have hx := hpl i
          repeat' (first | (apply And.intro <;> intro hc <;> (first | exact Bool.noConfusion hc | (exfalso; first | exact absurd hc (by decide)) | (simp only [decide_eq_true_eq, decide_eq_false_iff_not, Bool.not_eq_true', Bool.not_eq_false', beq_iff_eq, beq_eq_false_iff_ne, bne_iff_ne, bne_eq_false_iff_eq, Bool.true_eq_false, Bool.false_eq_true, ne_eq, not_true_eq_false] at hc <;> first | exact absurd rfl hc | (exfalso; first | exact absurd hc (by decide)) | skip) | skip)) | (refine And.intro (by first | exact trivial | decide | omega | (dsimp only; omega) | exact fun _ _ => rfl | exact ⟨by assumption, by first | exact trivial | decide | omega | (dsimp only; omega)⟩) ?_) | (apply And.intro) | (intro s hs; first | (have q : s = _ ++ beB _ _ := hs; clear hs; have hl := wl8 q (by assumption)) | (have q : s = _ ++ ipL _ := hs; clear hs; have hl := wl16 q (by assumption)) | (have q : s = _ ++ [_, _] := hs; clear hs; have hl := wlr q (by assumption) (by decide)) | (dsimp only at hs; have q : s = _ ++ toL eB 4 _ := hs; clear hs; rw [toL4] at q; have hl := wlr q (by assumption) (Nat.le_of_ble_eq_true rfl)) | (dsimp only at hs; have q : s = _ ++ toL eB 6 _ := hs; clear hs; rw [toL6] at q; have hl := wlr q (by assumption) (Nat.le_of_ble_eq_true rfl)) | skip) | (refine Exists.intro _ (And.intro ⟨rfl, rfl, rfl⟩ ?_)))
          · rcases s with _ | _ | _ | _ | s
            · rfl
            · rfl
            · rfl
            · rfl
            · exact absurd hs (by omega)
          · exact Nat.le_trans (Nat.le_of_eq (toL_len _ _ _)) (by decide)
          · have hlt : i < m.p.length := by omega
            have hr := hm.p _ (mem_getD hlt)
            have hb := vpf_bits (p := pfxP (m.p.getD i default)) (hv.p _ (mem_getD hlt))
            have e3 : IntKind.u8.wrap (m.p.getD i default).bits = (m.p.getD i default).bits := IntWalk.u8_in _ ⟨hb.1, by have := hb.2; dsimp only [pfxP] at this; omega⟩
            have f1 := fB_r (m.p.getD i default).onl 128 (by decide)
            have f2 := fB_r (m.p.getD i default).aut 64 (by decide)
            have e4 : IntKind.u8.wrap (fB (m.p.getD i default).onl 128 + fB (m.p.getD i default).aut 64) = fB (m.p.getD i default).onl 128 + fB (m.p.getD i default).aut 64 := IntWalk.u8_in _ (by omega)
            have e5 := be4 hr.life
            have e : s = L ++ prB m (i + 1) := by
              rw [pr_step hlt]
              subst_vars
              show L ++ prB m i ++ [3, 4, IntKind.u8.wrap (m.p.getD i default).bits, IntKind.u8.wrap (fB (m.p.getD i default).onl 128 + fB (m.p.getD i default).aut 64)] ++ beB (IntKind.u64.wrap (m.p.getD i default).life) 4 ++ beB 0 8 ++ ipL (fun q : Fin 16 => valI (ePI.cell (m.p.getD i default) (0 + q.1))) = _
              rw [e3, e4, e5, ePI_ip]
              unfold pfB
              simp only [List.append_assoc]
              try rfl
            refine ⟨⟨i + 1, by omega⟩, [(4, some 35)], by dsimp only <;> omega, rfl, ?_, ?_⟩
            · repeat' (first | exact trivial | exact rfl | exact leF_ptr rfl | exact leF_int rfl | exact leF_bool rfl | exact leF_cl (cl_slB _ _) | exact leF_cl (cl_slR _ _) | exact leF_cl (cl_ll _ _) | exact leF_c (leC_os rfl rfl) | refine leF_int ?_ | refine leF_bool ?_ | exact leN_varA (fun _ _ => (Elem.flat _ _ _).le) | exact leN_varA (fun _ _ => leC_top) | apply And.intro)
              all_goals (first | exact leF_put rfl rfl | first | (dsimp only; rw [IntWalk.i64_in _ (by omega)]; omega) | (dsimp only; rw [IntWalk.i64_in _ (by omega)]; done) | (dsimp only; exact IntWalk.i64_in _ (by omega)) | exact IntWalk.i64_in _ (by omega) | (rw [IntWalk.i64_in _ (by omega)]; omega))
            · dsimp only
              rw [← e]
              repeat' (first | exact trivial | exact rfl | exact leF_ptr rfl | exact leF_int rfl | exact leF_bool rfl | exact leF_cl (cl_slB _ _) | exact leF_cl (cl_slR _ _) | exact leF_cl (cl_ll _ _) | exact leF_c (leC_os rfl rfl) | refine leF_int ?_ | refine leF_bool ?_ | exact leN_varA (fun _ _ => (Elem.flat _ _ _).le) | exact leN_varA (fun _ _ => leC_top) | apply And.intro)
              all_goals first | exact leN_wv rfl | exact leN_msg | exact leN_lay | exact leN_ents (E := eB)
          · refine ⟨(), [], rfl, ?_, ?_⟩
            · repeat' (first | exact trivial | exact rfl | exact leF_ptr rfl | exact leF_int rfl | exact leF_bool rfl | exact leF_cl (cl_slB _ _) | exact leF_cl (cl_slR _ _) | exact leF_cl (cl_ll _ _) | exact leF_c (leC_os rfl rfl) | refine leF_int ?_ | refine leF_bool ?_ | exact leN_varA (fun _ _ => (Elem.flat _ _ _).le) | exact leN_varA (fun _ _ => leC_top) | apply And.intro)
              all_goals (first | exact leF_put rfl rfl | skip)
            · try unfold HWo
              dsimp only
              have hpe : i = m.p.length := by omega
              subst hpe
              repeat' (first | exact trivial | exact rfl | exact leF_ptr rfl | exact leF_int rfl | exact leF_bool rfl | exact leF_cl (cl_slB _ _) | exact leF_cl (cl_slR _ _) | exact leF_cl (cl_ll _ _) | exact leF_c (leC_os rfl rfl) | refine leF_int ?_ | refine leF_bool ?_ | exact leN_varA (fun _ _ => (Elem.flat _ _ _).le) | exact leN_varA (fun _ _ => leC_top) | apply And.intro)
              all_goals first | exact leN_wv rfl | exact leN_msg | exact leN_lay | exact leN_ents (E := eB)
        · refine ⟨rfl, ?_, ?_⟩
          · repeat' (first | exact trivial | exact rfl | exact leF_ptr rfl | exact leF_int rfl | exact leF_bool rfl | exact leF_cl (cl_slB _ _) | exact leF_cl (cl_slR _ _) | exact leF_cl (cl_ll _ _) | exact leF_c (leC_os rfl rfl) | refine leF_int ?_ | refine leF_bool ?_ | exact leN_varA (fun _ _ => (Elem.flat _ _ _).le) | exact leN_varA (fun _ _ => leC_top) | apply And.intro)
            all_goals (first | exact leF_put rfl rfl | skip)
          · repeat' (first | exact trivial | exact rfl | exact leF_ptr rfl | exact leF_int rfl | exact leF_bool rfl | exact leF_cl (cl_slB _ _) | exact leF_cl (cl_slR _ _) | exact leF_cl (cl_ll _ _) | exact leF_c (leC_os rfl rfl) | refine leF_int ?_ | refine leF_bool ?_ | exact leN_varA (fun _ _ => (Elem.flat _ _ _).le) | exact leN_varA (fun _ _ => leC_top) | apply And.intro)
            all_goals first | exact leN_wv rfl | exact leN_msg | exact leN_lay | exact leN_ents (E := eB)
      · rintro ⟨⟩
        have eX' : L ++ prB m m.p.length = L ++ coB m 0 := by unfold coB; simp
        rw [eX']
        clear eX' hpl
        have hpl : ∀ i, (L ++ coB m i).length ≤ 2000 := fun i => by have := co_len hv.np hv.nc i; rw [List.length_append]; omega
        change Sem _ _ _ _ _ _ _ _; refine sem_cut (wd := 1) (Q := mkQ LDw) (by decide) tysOk (q_of LDw_ok) (mono_of LDw_ok) mixed (HWo m (L ++ coB m m.c.length)) (by intro _; rfl) ?_ ?_
        · unfold HWo
          dsimp only
          repeat' (first | (apply And.intro <;> intro hc <;> (first | exact Bool.noConfusion hc | (simp only [decide_eq_true_eq, decide_eq_false_iff_not, Bool.not_eq_true', Bool.not_eq_false', beq_iff_eq, beq_eq_false_iff_ne, bne_iff_ne, bne_eq_false_iff_eq, Bool.true_eq_false, Bool.false_eq_true] at hc) | skip)) | (refine And.intro (by first | exact trivial | decide | omega | (dsimp only; omega) | exact fun _ _ => rfl) ?_) | (apply And.intro) | (intro s hs))
          refine loop_intro (mono_of LDw_ok) (fun s : {i : Nat // i ≤ m.c.length} => (⟨[(0, one (.ptr 0 0 0 false)), (4, one (.ptr 2 0 0 false)), (5, one (.ptr 3 0 0 false)), (6, one putC), (102, one (.sl false m.c.length eCI.sz (rowF eCI m.c))), (103, one (.int .i64 (m.c.length : Int))), (104, one (.int .i64 (s.1 : Int)))],
            [(0, some (wvar tW 4 (L ++ coB m s.1).length)), (2, some (mEnt m)), (3, some (lEnt m)), (4, some (entB (L ++ coB m s.1)))], 5⟩ : Hd)) (fun s => m.c.length - s.1) (fun _ => rfl) ?_ ⟨0, by omega⟩ [] ?_
          · rintro ⟨i, hi⟩
            dsimp only at hi ⊢
            have hx := hpl i
            repeat' (first | (apply And.intro <;> intro hc <;> (first | exact Bool.noConfusion hc | (exfalso; first | exact absurd hc (by decide)) | (simp only [decide_eq_true_eq, decide_eq_false_iff_not, Bool.not_eq_true', Bool.not_eq_false', beq_iff_eq, beq_eq_false_iff_ne, bne_iff_ne, bne_eq_false_iff_eq, Bool.true_eq_false, Bool.false_eq_true, ne_eq, not_true_eq_false] at hc <;> first | exact absurd rfl hc | (exfalso; first | exact absurd hc (by decide)) | skip) | skip)) | (refine And.intro (by first | exact trivial | decide | omega | (dsimp only; omega) | exact fun _ _ => rfl | exact ⟨by assumption, by first | exact trivial | decide | omega | (dsimp only; omega)⟩) ?_) | (apply And.intro) | (intro s hs; first | (have q : s = _ ++ beB _ _ := hs; clear hs; have hl := wl8 q (by assumption)) | (have q : s = _ ++ ipL _ := hs; clear hs; have hl := wl16 q (by assumption)) | (have q : s = _ ++ [_, _] := hs; clear hs; have hl := wlr q (by assumption) (by decide)) | (dsimp only at hs; have q : s = _ ++ toL eB 4 _ := hs; clear hs; rw [toL4] at q; have hl := wlr q (by assumption) (Nat.le_of_ble_eq_true rfl)) | (dsimp only at hs; have q : s = _ ++ toL eB 6 _ := hs; clear hs; rw [toL6] at q; have hl := wlr q (by assumption) (Nat.le_of_ble_eq_true rfl)) | skip) | (refine Exists.intro _ (And.intro ⟨rfl, rfl, rfl⟩ ?_)))
            · rcases s with _ | _ | _ | _ | _ | _ | s
              · rfl
              · rfl
              · rfl
              · rfl
              · rfl
              · rfl
              · exact absurd hs (by omega)
            · exact Nat.le_trans (Nat.le_of_eq (toL_len _ _ _)) (by decide)
            · have hlt : i < m.c.length := by omega
              have hr := hm.c _ (mem_getD hlt)
              have ho := hv.c _ (mem_getD hlt)
              have hid := okC_id ho
              have hb := okC_bits ho
              have e3 : IntKind.u8.wrap (m.c.getD i default).bits = (m.c.getD i default).bits := IntWalk.u8_in _ (by omega)
              have f1 := fB_r (m.c.getD i default).comp 16 (by decide)
              have e2 : IntKind.u8.wrap (m.c.getD i default).id = (m.c.getD i default).id := IntWalk.u8_in _ (by omega)
              have e4 : IntKind.u8.wrap (fB (m.c.getD i default).comp 16 + (m.c.getD i default).id) = fB (m.c.getD i default).comp 16 + (m.c.getD i default).id := IntWalk.u8_in _ (by omega)
              have e5 := be2 hr.life
              have e : s = L ++ coB m (i + 1) := by
                rw [co_step hlt]
                subst_vars
                show L ++ coB m i ++ [34, 3, IntKind.u8.wrap (m.c.getD i default).bits, IntKind.u8.wrap (fB (m.c.getD i default).comp 16 + IntKind.u8.wrap (m.c.getD i default).id), 0, 0] ++ beB (IntKind.u64.wrap (m.c.getD i default).life) 2 ++ ipL (fun q : Fin 16 => valI (eCI.cell (m.c.getD i default) (1 + q.1))) = _
                rw [e2, e3, e4, e5, eCI_ip]
                unfold ctB
                simp only [List.append_assoc]
                try rfl
              refine ⟨⟨i + 1, by omega⟩, [(4, some 33)], by dsimp only <;> omega, rfl, ?_, ?_⟩
              · repeat' (first | exact trivial | exact rfl | exact leF_ptr rfl | exact leF_int rfl | exact leF_bool rfl | exact leF_cl (cl_slB _ _) | exact leF_cl (cl_slR _ _) | exact leF_cl (cl_ll _ _) | exact leF_c (leC_os rfl rfl) | refine leF_int ?_ | refine leF_bool ?_ | exact leN_varA (fun _ _ => (Elem.flat _ _ _).le) | exact leN_varA (fun _ _ => leC_top) | apply And.intro)
                all_goals (first | exact leF_put rfl rfl | first | (dsimp only; rw [IntWalk.i64_in _ (by omega)]; omega) | (dsimp only; rw [IntWalk.i64_in _ (by omega)]; done) | (dsimp only; exact IntWalk.i64_in _ (by omega)) | exact IntWalk.i64_in _ (by omega) | (rw [IntWalk.i64_in _ (by omega)]; omega))
              · dsimp only
                rw [← e]
                repeat' (first | exact trivial | exact rfl | exact leF_ptr rfl | exact leF_int rfl | exact leF_bool rfl | exact leF_cl (cl_slB _ _) | exact leF_cl (cl_slR _ _) | exact leF_cl (cl_ll _ _) | exact leF_c (leC_os rfl rfl) | refine leF_int ?_ | refine leF_bool ?_ | exact leN_varA (fun _ _ => (Elem.flat _ _ _).le) | exact leN_varA (fun _ _ => leC_top) | apply And.intro)
                all_goals first | exact leN_wv rfl | exact leN_msg | exact leN_lay | exact leN_ents (E := eB)
            · refine ⟨(), [], rfl, ?_, ?_⟩
              · repeat' (first | exact trivial | exact rfl | exact leF_ptr rfl | exact leF_int rfl | exact leF_bool rfl | exact leF_cl (cl_slB _ _) | exact leF_cl (cl_slR _ _) | exact leF_cl (cl_ll _ _) | exact leF_c (leC_os rfl rfl) | refine leF_int ?_ | refine leF_bool ?_ | exact leN_varA (fun _ _ => (Elem.flat _ _ _).le) | exact leN_varA (fun _ _ => leC_top) | apply And.intro)
                all_goals (first | exact leF_put rfl rfl | skip)
              · try unfold HWo
                dsimp only
                have hpe : i = m.c.length := by omega
                subst hpe
                repeat' (first | exact trivial | exact rfl | exact leF_ptr rfl | exact leF_int rfl | exact leF_bool rfl | exact leF_cl (cl_slB _ _) | exact leF_cl (cl_slR _ _) | exact leF_cl (cl_ll _ _) | exact leF_c (leC_os rfl rfl) | refine leF_int ?_ | refine leF_bool ?_ | exact leN_varA (fun _ _ => (Elem.flat _ _ _).le) | exact leN_varA (fun _ _ => leC_top) | apply And.intro)
                all_goals first | exact leN_wv rfl | exact leN_msg | exact leN_lay | exact leN_ents (E := eB)
          · refine ⟨rfl, ?_, ?_⟩
            · repeat' (first | exact trivial | exact rfl | exact leF_ptr rfl | exact leF_int rfl | exact leF_bool rfl | exact leF_cl (cl_slB _ _) | exact leF_cl (cl_slR _ _) | exact leF_cl (cl_ll _ _) | exact leF_c (leC_os rfl rfl) | refine leF_int ?_ | refine leF_bool ?_ | exact leN_varA (fun _ _ => (Elem.flat _ _ _).le) | exact leN_varA (fun _ _ => leC_top) | apply And.intro)
              all_goals (first | exact leF_put rfl rfl | skip)
            · repeat' (first | exact trivial | exact rfl | exact leF_ptr rfl | exact leF_int rfl | exact leF_bool rfl | exact leF_cl (cl_slB _ _) | exact leF_cl (cl_slR _ _) | exact leF_cl (cl_ll _ _) | exact leF_c (leC_os rfl rfl) | refine leF_int ?_ | refine leF_bool ?_ | exact leN_varA (fun _ _ => (Elem.flat _ _ _).le) | exact leN_varA (fun _ _ => leC_top) | apply And.intro)
              all_goals first | exact leN_wv rfl | exact leN_msg | exact leN_lay | exact leN_ents (E := eB)
        · rintro ⟨⟩
          have hx := hpl m.c.length
          obtain ⟨X, eX⟩ : ∃ X, L ++ coB m m.c.length = X := ⟨_, rfl⟩
          have eO : L ++ optB m = X ++ borO m.z := by
            rw [← eX]
            unfold optB coB prB
            rw [List.take_length, List.take_length]
            simp only [List.append_assoc]
          rw [eX] at hx ⊢
          rw [eO]
          clear eO
          unfold HWo
          dsimp only
          refine sem_exec (wd := 1) (Q := mkQ LDw) (by decide) tysOk (q_of LDw_ok) mixed ?_
          repeat' (first | (apply And.intro <;> intro hc <;> (first | exact Bool.noConfusion hc | (exfalso; first | exact absurd hc (by decide)) | (simp only [decide_eq_true_eq, decide_eq_false_iff_not, Bool.not_eq_true', Bool.not_eq_false', beq_iff_eq, beq_eq_false_iff_ne, bne_iff_ne, bne_eq_false_iff_eq, Bool.true_eq_false, Bool.false_eq_true, ne_eq, not_true_eq_false] at hc <;> first | exact absurd rfl hc | (exfalso; first | exact absurd hc (by decide)) | skip) | skip)) | (refine And.intro (by first | exact trivial | decide | omega | (dsimp only; omega) | exact fun _ _ => rfl | exact ⟨by assumption, by first | exact trivial | decide | omega | (dsimp only; omega)⟩) ?_) | (apply And.intro) | (intro s hs; first | (have q : s = _ ++ beB _ _ := hs; clear hs; have hl := wl8 q (by assumption)) | (have q : s = _ ++ ipL _ := hs; clear hs; have hl := wl16 q (by assumption)) | (have q : s = _ ++ [_, _] := hs; clear hs; have hl := wlr q (by assumption) (by decide)) | (dsimp only at hs; have q : s = _ ++ toL eB 4 _ := hs; clear hs; rw [toL4] at q; have hl := wlr q (by assumption) (Nat.le_of_ble_eq_true rfl)) | (dsimp only at hs; have q : s = _ ++ toL eB 6 _ := hs; clear hs; rw [toL6] at q; have hl := wlr q (by assumption) (Nat.le_of_ble_eq_true rfl)) | skip) | (refine Exists.intro _ (And.intro ⟨rfl, rfl, rfl⟩ ?_)))
          · exact Nat.le_trans (Nat.le_of_eq (toL_len _ _ _)) (by decide)
          · have e : s = X ++ borO m.z := by
              have hb : m.z.hasB = true := by assumption
              clear eX
              subst_vars
              show X ++ [35, 3] ++ beB (IntKind.u64.wrap m.z.blife) 2 ++ beB (IntKind.u64.wrap m.z.bver) 4 ++ ipL ((eA .u8 16).rd fun q => msgC m.a (slP m.p) (slC m.c) m.z (0 + 29 + 2 + q)) = _
              rw [t3, t4, brt_M]
              unfold borO boB
              rw [if_pos hb]
              simp only [List.append_assoc]
            rw [← e]
            exact ⟨finWx rfl rfl rfl fun c => leN_ents⟩
          · have e : X = X ++ borO m.z := by
              unfold borO
              rw [if_neg (by simp_all), List.append_nil]
            rw [← e]
            exact ⟨finWx rfl rfl rfl fun c => leN_ents⟩
abbrev woptsE : Entry := wrE tW (AC.cons cMsg (AC.cons (cE eLay) AC.nil)) (fun L a => ((MsgR a.1 ∧ ValM a.1) ∧ a.2.1 = layF a.1.a.ty) ∧ L.length ≤ 1000) (fun L a => L ++ optB a.1)
def LDw3 : CsL := (32, some woptsE) :: LDw2
theorem LDw3_ok : AllOk Try.prog LDw3 := ⟨wrE_ok ⟨_, Try.func32, rfl, by kernel_rfl⟩ fun L a h => by
    obtain ⟨m, y, u⟩ := a
    obtain ⟨⟨⟨h0, h1⟩, h2⟩, h3⟩ := h
    dsimp only at h0 h1 h2 h3
    subst h2
    exact wopts_ok L m h0 h1 h3, LDw2_ok⟩
end Go.Proofs.Ythbhidfohdipnaa.AX

/- Layer 20 by AX2: Encode of the program. -/
namespace Go.Proofs.Ythbhidfohdipnaa.AX
open Go.RowKit
set_option linter.unusedVariables false
set_option linter.unusedSimpArgs false
def LDe : CsL := (13, some valE2) :: (LDw3 ++ (LDs ++ LDv1))
theorem LDe_ok : AllOk Try.prog LDe := ⟨pureE_ok ⟨_, Try.func13, rfl, by kernel_rfl⟩ fun a h => valid_ok2 a.1 h.1 h.2, append_ok LDw3_ok (append_ok LDs_ok LDv1_ok)⟩
theorem opt_len {m : Msg} (hv : ValM m) : (optB m).length ≤ 1024 := by
  have h1 := co_len hv.np hv.nc m.c.length
  have e : optB m = coB m m.c.length ++ borO m.z := by
    unfold optB coB prB
    rw [List.take_length, List.take_length]
    simp only [List.append_assoc]
  have h2 : (borO m.z).length ≤ 24 := by
    unfold borO
    split
    · unfold boB; simp only [List.length_append, beN_len, ipL_len, List.length_cons, List.length_nil]; omega
    · exact Nat.zero_le _
  rw [e, List.length_append]; omega
theorem encX_le {m : Msg} (hv : ValM m) (s : Int) : (encX m s).length ≤ 1056 := by
  have := opt_len hv
  have := headN_le m.a.ty
  rw [encX_len]; omega
theorem encX_0 (m : Msg) : encX m 0 = headB m ++ optB m := by
  unfold headB
  rw [List.append_assoc]; rfl
theorem body_BL {a : MA} (h : MAr a) : BL (bodyB a) := by
  unfold bodyB
  split
  · exact (BL.cons h.ostat (BL.cons h.oseq BL.nil)).append ((beN_BL _ _).append ((beN_BL _ _).append (ipBL h.tgt)))
  · split
    · exact (BL.cons h.hops (BL.cons (by omega) BL.nil)).append ((beN_BL _ _).append (zs_BL _))
    · split
      · exact (zs_BL _).append (ipBL h.tgt)
      · exact zs_BL _
theorem BL_flat {α : Type} {f : α → List Int} : ∀ (l : List α), (∀ x ∈ l, BL (f x)) → BL (l.flatMap f) := by
  intro l
  induction l with
  | nil => intro _; exact BL.nil
  | cons x l ih => intro h; rw [List.flatMap_cons]; exact (h x (List.mem_cons_self ..)).append (ih fun y hy => h y (List.mem_cons_of_mem _ hy))
theorem opt_BL {m : Msg} (hm : MsgR m) (hv : ValM m) : BL (optB m) := by
  have b1 : ∀ {x : Int}, 0 ≤ x ∧ x < 256 → BL [x] := fun h => BL.cons h BL.nil
  unfold optB
  refine BL.append ?_ (BL.append ?_ (BL.append (BL_flat _ fun x hx => ?_) (BL.append (BL_flat _ fun x hx => ?_) ?_)))
  · unfold srcB
    split
    · exact (BL.cons (by omega) (BL.cons (by omega) BL.nil)).append ((beN_BL _ _).append (zs_BL _))
    · split
      · exact (BL.cons (by omega) (BL.cons (by omega) BL.nil)).append ((beN_BL _ _).append (zs_BL _))
      · exact BL.nil
  · unfold ownO
    split
    · exact (BL.cons (by omega) (BL.cons (by omega) (BL.cons hm.a.ostat (BL.cons (by omega) (BL.cons (by omega) (BL.cons hm.a.oseq BL.nil)))))).append ((beN_BL _ _).append (beN_BL _ _))
    · exact BL.nil
  · have h1 := vpf_bits (hv.p x hx)
    have h2 := fB_r x.onl 128 (by decide)
    have h3 := fB_r x.aut 64 (by decide)
    dsimp only [pfxP] at h1
    exact (BL.cons (by omega) (BL.cons (by omega) (BL.cons (by omega) (BL.cons (by omega) BL.nil)))).append ((beN_BL _ _).append ((zs_BL _).append (ipBL (hm.p x hx).ip)))
  · have h1 := okC_bits (hv.c x hx)
    have h2 := okC_id (hv.c x hx)
    have h3 := fB_r x.comp 16 (by decide)
    exact (BL.cons (by omega) (BL.cons (by omega) (BL.cons (by omega) (BL.cons (by omega) (BL.cons (by omega) (BL.cons (by omega) BL.nil)))))).append ((beN_BL _ _).append (ipBL (hm.c x hx).ip))
  · unfold borO
    split
    · exact (BL.cons (by omega) (BL.cons (by omega) BL.nil)).append ((beN_BL _ _).append ((beN_BL _ _).append (ipBL hm.z.brt)))
    · exact BL.nil
theorem encX_BL {m : Msg} (hm : MsgR m) (hv : ValM m) (s : Int) : BL (encX m s) := by
  unfold encX
  exact (BL.cons hm.a.ty (BL.cons (by omega) BL.nil)).append ((beN_BL _ _).append ((body_BL hm.a).append (opt_BL hm hv)))
def erV (e : Int) : EV := .c (.int .i64 e)
abbrev mA3 : AC (Msg × (Fin 16 → Int) × (Fin 16 → Int) × Unit) := AC.cons cMsg (AC.cons (cE (eA .u8 16)) (AC.cons (cE (eA .u8 16)) AC.nil))
structure EncP (m : Msg) (src dst : Fin 16 → Int) : Prop where
  r : MsgR m
  s : byteOk src
  d : byteOk dst
  np : m.p.length ≤ 9223372036854775807
  nc : m.c.length ≤ 9223372036854775807
theorem headB_len (m : Msg) : (headB m).length = headN m.a.ty := by
  unfold headB
  rw [List.length_append, ← body_len]
  simp only [List.length_cons, List.length_nil]; omega
theorem e_body {s : List Int} {M m : Msg} (hs : s = [] ++ headB M) (h : M = m) : s = headB m := by rw [hs, h, List.nil_append]
theorem e_opts {s : List Int} {M m : Msg} (hs : s = headB m ++ optB M) (h : M = m) : s = encX m 0 := by rw [hs, h, encX_0]
theorem e_app {s : List Int} {v : Int} (hs : s = [] ++ beB v 2) : s = beB v 2 := hs
theorem e_sum {s : Int} {m : Msg} {B : List Int} {S D src dst : Fin 16 → Int} (hs : s = sumD B S D) (h1 : B = encX m 0) (h2 : S = src) (h3 : D = dst) : s = sumM m src dst := by rw [hs, h1, h2, h3]; rfl
theorem enc_row {m : Msg} {v w : Int} (hw : w = v) (hv : 0 ≤ v ∧ v < 65536) {s : List Int} (q6 : s = beB (IntKind.u64.wrap w) 2) : IsRow (ovE (rowF eB (encX m 0)) (0 + Int.toNat 2) (s.length.min (Int.toNat 4 - Int.toNat 2)) fun k j => rowF eB s (0 + k) j) (encX m v) := by
  have e : IntKind.u64.wrap w = v := by rw [hw, IntWalk.u64_in _ (by omega)]
  have e2 : s = [v / 256 ^ 1 % 256, v / 256 ^ 0 % 256] := by rw [q6, e]; unfold beB; rw [if_pos (by decide)]; rfl
  subst e2
  refine ⟨fun k hk => ?_⟩
  show ovE (rowF eB (encX m 0)) 2 2 (fun k j => rowF eB [v / 256 ^ 1 % 256, v / 256 ^ 0 % 256] (0 + k) j) k 0 = _
  rcases k with _ | _ | _ | _ | k
  · rw [ovE_out (by omega)]; rfl
  · rw [ovE_out (by omega)]; rfl
  · rw [ovE_in (by omega)]; rfl
  · rw [ovE_in (by omega)]; rfl
  · rw [ovE_out (by omega)]; rfl
set_option maxRecDepth 20000 in
set_option maxHeartbeats 8000000 in
theorem dencode_ok (m : Msg) (src dst : Fin 16 → Int) (h : EncP m src dst) : NewOk Try.prog 11 [cMsg.enc m, (cE (eA .u8 16)).enc src, (cE (eA .u8 16)).enc dst] (some ((encDM m src dst).getD []).length) (some [erV (ecE (encDM m src dst))]) (entB ((encDM m src dst).getD [])) := by
  obtain ⟨hm, hs0, hd0, hp, hn⟩ := h
  have hfl : ∀ {P C : CV}, (⟨eMA.rd fun q => msgC m.a P C m.z (0 + q), toL ePI m.p.length (rowF ePI m.p), toL eCI m.c.length (rowF eCI m.c), eMZ.rd fun q => msgC m.a P C m.z (0 + (29 + q))⟩ : Msg) = m := msg_rd
  have g1 : True := trivial
  have g2 : True := trivial
  have g3 : True := trivial
  have g4 : True := trivial
  have g5 : True := trivial
  have g6 : True := trivial
  refine new_intro (wd := 1) (Q := mkQ LDe) (by decide) tysOk (q_of LDe_ok) mixed Try.func11 rfl _ (by show 3 ≤ _; decide) (fun i _ j _ => row_nf eB _ i j) ?_
  repeat' (first | (apply And.intro <;> intro hc <;> (first | exact Bool.noConfusion hc | (exfalso; first | exact absurd hc (by decide)) | (simp only [decide_eq_true_eq, decide_eq_false_iff_not, Bool.not_eq_true', Bool.not_eq_false', beq_iff_eq, beq_eq_false_iff_ne, bne_iff_ne, bne_eq_false_iff_eq, Bool.true_eq_false, Bool.false_eq_true, ne_eq, not_true_eq_false] at hc <;> first | exact absurd rfl hc | (exfalso; first | exact absurd hc (by decide)) | skip) | skip)) | (refine And.intro (by first | exact trivial | decide | omega | (dsimp only; omega) | exact fun _ _ => rfl | exact ⟨by assumption, by first | exact trivial | decide | omega | (dsimp only; omega)⟩) ?_) | (apply And.intro) | (intro s hs; (first | (clear g1; have q : s = validM m := hs.trans (congrArg validM msg_rd); clear hs; subst q) | (clear g2; have q : s = (layF m.a.ty, decide (tyOk m.a.ty)) := hs; clear hs; subst q) | (clear g3; have q := e_body (m := m) hs msg_rd; clear hs; subst q) | (clear g4; have q := e_opts (m := m) hs msg_rd; clear hs; subst q) | (clear g5; have q := e_sum hs (toL_b0 (encX m 0)) (rd_ip src) (rd_ip dst); clear hs) | (clear g6; have q6 := e_app hs; clear hs) | skip)) | (refine Exists.intro _ (And.intro ⟨rfl, rfl, rfl⟩ ?_)))
  · exact fun _ => rfl
  · exact fun _ => rfl
  · exact Nat.le_trans (Nat.le_of_eq (toL_len _ _ _)) hp
  · exact Nat.le_trans (Nat.le_of_eq (toL_len _ _ _)) hn
  · have e : encDM m src dst = none := if_neg (by simp_all)
    rw [e]
    exact ⟨⟨none, leF_tup ⟨leC_nils_os rfl, leC_int rfl, trivial⟩, rfl, rfl, eB_sz⟩⟩
  all_goals
    have hv : ValM m := valM_iff.1 (by assumption)
  · exact fun _ => rfl
  · exact fun _ => rfl
  · exact Eq.mp (congrArg (fun z : Msg => MAr z.a) msg_rd.symm) hm.a
  · rfl
  · exact Nat.zero_le _
  · exact fun _ => rfl
  · exact fun _ => rfl
  · exact Eq.mp (congrArg MsgR msg_rd.symm) hm
  · exact Eq.mp (congrArg ValM msg_rd.symm) hv
  · rfl
  all_goals
    have hlen := encX_len m 0
    have h8 := headN_le m.a.ty
    have hle := encX_le hv 0
  · exact Nat.le_trans (Nat.le_of_eq (headB_len m)) (by omega)
  · show (4 : Int) ≤ ((encX m 0).length : Int)
    omega
  · exact Nat.le_of_eq (Nat.zero_add _)
  · rfl
  · show BL (toL eB (encX m 0).length fun k j => rowF eB (encX m 0) (0 + k) j)
    rw [toL_b0]; exact encX_BL hm hv 0
  · show byteOk ((eA .u8 16).rd fun q => (eA .u8 16).cell src (0 + q))
    rw [rd_ip]; exact hs0
  · show byteOk ((eA .u8 16).rd fun q => (eA .u8 16).cell dst (0 + q))
    rw [rd_ip]; exact hd0
  · show (toL eB (encX m 0).length fun k j => rowF eB (encX m 0) (0 + k) j).length ≤ _
    rw [toL_len]; omega
  · exact Nat.zero_le _
  · show 0 + 2 + (4 - 2) ≤ (encX m 0).length
    omega
  · have e : encDM m src dst = some (encX m (sumM m src dst)) := if_pos (by assumption)
    rw [e]
    have hl : (encX m 0).length = (encX m (sumM m src dst)).length := by rw [encX_len, encX_len]
    exact ⟨⟨some _, leF_tup ⟨leC_os rfl hl, leC_int rfl, trivial⟩, leN_is hl (enc_row q (sumD_r (encX m 0) src dst) q6)⟩⟩
abbrev dencE : Entry := newE mA3 (fun a => EncP a.1 a.2.1 a.2.2.1) (fun a => encDM a.1 a.2.1 a.2.2.1) (fun s => some (s.getD []).length) (fun s => some [erV (ecE s)]) (fun s => entB (s.getD []))
theorem dencE_ok : EntOk Try.prog 11 dencE := newE_ok ⟨_, Try.func11, rfl, by kernel_rfl⟩ (fun s l h x hx => by cases h; rcases List.mem_singleton.1 hx with rfl; exact nfE_c nf_int) fun a h => dencode_ok a.1 a.2.1 a.2.2.1 h
end Go.Proofs.Ythbhidfohdipnaa.AX

/- Calls that are walked through in place (closures that turn what they have captured). -/
namespace Go.Proofs.Ythbhidfohdipnaa.AX
open Go.RowKit
set_option linter.unusedVariables false
/-- A heap's entries, each name once; the rest names of H are dead. -/
def normK : Hp → List Nat → Hp → (Hp → Prop) → Prop
  | [], _, acc, k => k acc
  | (t, v) :: l, seen, acc, k => bif memN seen t then normK l seen acc k else normK l (t :: seen) ((t, v) :: acc) k
def killH (H : Hp) : Hp := H.map fun p => (p.1, none)
theorem memN_iff {l : List Nat} {t : Nat} : memN l t = true ↔ t ∈ l := by
  constructor
  · intro h
    obtain ⟨x, hx, hb⟩ := List.any_eq_true.1 h
    rw [Nat.eq_of_beq_eq_true hb]; exact hx
  · exact memN_of
/-- What normK hands on. -/
def normL : Hp → List Nat → Hp → Hp
  | [], _, acc => acc
  | (t, v) :: l, seen, acc => bif memN seen t then normL l seen acc else normL l (t :: seen) ((t, v) :: acc)
theorem normK_L : ∀ (l : Hp) (seen : List Nat) (acc : Hp) (k : Hp → Prop), normK l seen acc k = k (normL l seen acc) := by
  intro l
  induction l with
  | nil => intro seen acc k; rfl
  | cons p l ih =>
    intro seen acc k
    obtain ⟨t0, v⟩ := p
    unfold normK normL
    cases memN seen t0 with
    | true => exact ih _ _ _
    | false => exact ih _ _ _
theorem normL_eq : ∀ (l : Hp) (seen : List Nat) (acc : Hp), (∀ t, t ∈ seen ↔ hasKey acc t = true) →
    (∀ t, hasKey (normL l seen acc) t = (hasKey acc t || hasKey l t)) ∧ ∀ t, look none (normL l seen acc) t = look none (acc ++ l) t := by
  intro l
  induction l with
  | nil => intro seen acc _; exact ⟨fun t => by simp [hasKey, normL], fun t => by simp [normL]⟩
  | cons p l ih =>
    intro seen acc hs
    obtain ⟨t0, v⟩ := p
    cases hb : memN seen t0 with
    | true =>
      obtain ⟨h2, h3⟩ := ih seen acc hs
      have hk : hasKey acc t0 = true := (hs t0).1 (memN_iff.1 hb)
      have hL : normL ((t0, v) :: l) seen acc = normL l seen acc := by show (bif memN seen t0 then _ else _) = _; rw [hb]; rfl
      rw [hL]
      refine ⟨fun t => ?_, fun t => ?_⟩
      · rw [h2 t, hasKey_cons]
        by_cases ht : t0 = t
        · subst ht; rw [hk]; simp
        · have : Nat.beq t0 t = false := by
            cases h : Nat.beq t0 t with
            | false => rfl
            | true => exact absurd (Nat.eq_of_beq_eq_true h) ht
          rw [this]; simp
      · rw [h3 t, look_append, look_append]
        cases hkt : hasKey acc t with
        | true => rfl
        | false =>
          have ht : t ≠ t0 := fun h => by subst h; rw [hk] at hkt; cases hkt
          rw [cond_false, cond_false]
          exact (look_cons_ne _ _ _ ht).symm
    | false =>
      have hk : hasKey acc t0 = false := by
        cases h : hasKey acc t0 with
        | false => rfl
        | true => have := memN_iff.2 ((hs t0).2 h); rw [hb] at this; cases this
      have hL : normL ((t0, v) :: l) seen acc = normL l (t0 :: seen) ((t0, v) :: acc) := by show (bif memN seen t0 then _ else _) = _; rw [hb]; rfl
      rw [hL]
      obtain ⟨h2, h3⟩ := ih (t0 :: seen) ((t0, v) :: acc) (fun t => by
        rw [hasKey_cons, List.mem_cons, hs t, Bool.or_eq_true]
        constructor
        · rintro (rfl | h)
          · exact .inl (by simp)
          · exact .inr h
        · rintro (h | h)
          · exact .inl (Nat.eq_of_beq_eq_true h).symm
          · exact .inr h)
      refine ⟨fun t => ?_, fun t => ?_⟩
      · rw [h2 t, hasKey_cons, hasKey_cons]
        cases Nat.beq t0 t <;> cases hasKey acc t <;> rfl
      · rw [h3 t]
        show look none (((t0, v) :: acc) ++ l) t = look none (acc ++ (t0, v) :: l) t
        rw [look_append, look_append, hasKey_cons]
        by_cases ht : t = t0
        · subst ht
          rw [hk, show Nat.beq t t = true by simp, Bool.true_or, cond_true, cond_false, look_cons_eq, look_cons_eq]
        · have e1 : Nat.beq t0 t = false := by
            cases h : Nat.beq t0 t with
            | false => rfl
            | true => exact absurd (Nat.eq_of_beq_eq_true h).symm ht
          rw [e1, Bool.false_or, look_cons_ne _ _ _ ht, look_cons_ne _ _ _ ht]
/-- The end of such a call: the heap Hf, laid over H. -/
def inEnd (H Hf : Hp) (nf top : Nat) (k : Hp → Prop) : Prop := Nat.ble nf top = true ∧ normK (Hf ++ killH H) [] [] k
theorem inEnd_eq {H Hf : Hp} {nf top : Nat} {k : Hp → Prop} (h : inEnd H Hf nf top k) : nf ≤ top ∧ ∃ L, k L ∧ ∀ t, hget (L ++ H) t = hget Hf t := by
  refine ⟨Nat.le_of_ble_eq_true h.1, ?_⟩
  obtain ⟨h2, h3⟩ := normL_eq (Hf ++ killH H) [] [] (fun t => by simp [hasKey])
  refine ⟨normL (Hf ++ killH H) [] [], by have := h.2; rw [normK_L] at this; exact this, fun t => ?_⟩
  have hkill : ∀ (H : Hp) t, hasKey (killH H) t = hasKey H t := fun H t => by
    unfold hasKey killH
    rw [List.any_map]; rfl
  have hnone : ∀ (H : Hp) t, look none (killH H) t = none := by
    intro H
    induction H with
    | nil => intro t; rfl
    | cons p H ih =>
      intro t
      show (bif Nat.beq t p.1 then none else look none (killH H) t) = none
      cases Nat.beq t p.1 with
      | true => rfl
      | false => exact ih t
  show look none (normL (Hf ++ killH H) [] [] ++ H) t = look none Hf t
  rw [look_append, h2 t, h3 t]
  have e0 : hasKey ([] : Hp) t = false := rfl
  have e1 : hasKey (Hf ++ killH H) t = (hasKey Hf t || hasKey H t) := by
    unfold hasKey; rw [List.any_append]; exact congrArg (_ || ·) (hkill H t)
  rw [e0, e1, Bool.false_or, List.nil_append, look_append]
  cases h4 : hasKey Hf t with
  | true => rfl
  | false =>
    have look_no : ∀ (H : Hp), hasKey H t = false → look none H t = none := by
      intro H
      induction H with
      | nil => intro _; rfl
      | cons p H ih =>
        obtain ⟨k, v⟩ := p
        intro h
        rw [hasKey_cons] at h
        simp only [Bool.or_eq_false_iff] at h
        have : Nat.beq t k = false := by rw [beq_comm']; exact h.1
        show (bif Nat.beq t k then v else look none H t) = none
        rw [this]; exact ih h.2
    rw [cond_false, Bool.false_or, hnone, look_no Hf h4]
    cases h5 : hasKey H t with
    | true => rfl
    | false => rw [cond_false, look_no H h5]
/-- The entry: the body of f is walked through; wi: how many names an operation of it may use. -/
def inlE (T : Tys) (Q : Qs) (wi nt : Nat) (rv : List ResultVar) (c : Code) : Entry := fun args H nm wd => some fun K =>
  Nat.ble args.length nt = true ∧ exec T Q wi nt nm c (argFr args 0) H nm (endH T rv fun x Hf nf => inEnd H Hf nf (nm + wd) fun e => K x e [ALLN])
theorem endH_mono {T : Tys} {rv : List ResultVar} {p p' : FV → Hp → Nat → Prop} (h : ∀ x H n, p x H n → p' x H n) : ∀ e fr H nx, endH T rv p e fr H nx → endH T rv p' e fr H nx := by
  intro e fr H nx hp
  cases e with
  | ret =>
    simp only [endH] at hp ⊢
    split at hp
    · exact h _ _ _ hp
    · exact hp.elim
  | normal =>
    simp only [endH] at hp ⊢
    split at hp
    · exact h _ _ _ hp
    · exact hp.elim
  | exit => exact hp.elim
  | goto => exact hp.elim
  | panic => exact hp.elim
  | outgrown => exact hp.elim
/-- The package variables lie in no block that has a name. -/
theorem gl_in {cx : Cx} {r : Ren} {H : Hp} {w : World} (st : St cx r H w) : GlobOk (fun b => cx.X b ∨ (∃ k x, r k = some x ∧ x.b = b) ∨ wr r H b) w := fun p hp => by
  obtain ⟨h1, h2, h3⟩ := (st_xw st).2 p hp
  refine ⟨h1, ?_, h3⟩
  rintro (h | ⟨k, x, hk, hb⟩ | h)
  · exact h2 (.inl h)
  · obtain ⟨g1, g2, _⟩ := st.xlt.gl p hp
    rcases (st.dom k x hk).2.1 with hd | hd
    · omega
    · exact g2 (.inr (.inl (by rw [← hb]; exact hd)))
  · exact h2 (.inr h)
theorem inlE_ok {P : Program} {T : Tys} {Q : Qs} {wi : Nat} (hwi : 0 < wi) (hT : TysOk P T) (hQ : QsOk P Q) (hM : QsMono Q) (hm : P.follows .mixedOrders = true) {f : FuncId} {fn : Func} {c : Code} (hf : P.funcs[f]? = some fn) (hb : fn.body = some c) (hnm : (fn.name == "runtime.NumGoroutine") = false) : EntOk P f (inlE T Q wi fn.ntmps fn.results.toList c) := by
  refine ⟨fun args H nm wd q hwd hq K hK => ?_, fun args H nm wd q hq K K' hKK hK => ?_⟩
  · injection hq with hq
    subst hq
    obtain ⟨hn, hK⟩ := hK
    have hn := Nat.le_of_ble_eq_true hn
    obtain ⟨⟨x, Hf, nf⟩, hend, hex⟩ := exec_some (α := FV × Hp × Nat) (post := fun a x H n => x = a.1 ∧ H = a.2.1 ∧ n = a.2.2) (S := fun a => inEnd H a.2.1 a.2.2 (nm + wd) fun e => K a.1 e [ALLN]) hwi hQ
      (exec_mono hM c _ _ (endH_mono fun x Hf nf h => ⟨(x, Hf, nf), h, rfl, rfl, rfl⟩) _ _ _ hK)
    obtain ⟨hle, L, hKL, hL⟩ := inEnd_eq hend
    refine ⟨x, L, [ALLN], ⟨⟨fn, hf, by rw [hb]; rfl, hnm⟩, fun H' hh cx r w vals st hfr hw hrel => ?_⟩, hKL⟩
    obtain ⟨w1, w2⟩ := hw (List.mem_singleton.2 rfl)
    have w1' : ∀ k, hget H' k = hget H k := fun k => (w1 k).symm
    have st := st.congr w1'
    rw [wr_congr (r := r) w1'] at hrel
    have w3 : ∀ k, nm ≤ k → r k = none ∧ hget H k = none := fun k hk => ⟨(w2 k hk).1, by rw [w1]; exact (w2 k hk).2⟩
    have hG := gl_in st
    refine (fn_run (np := nm) (cx := ⟨w, fun b => ∃ k x, r k = some x ∧ x.b = b, wr r H, cx.X, fun k => if k < nm then r k else none⟩) hwi hT (QR_ok P) hm hf hb hn hex (fun k b hk => ?_)
      ⟨rfl, rfl, rfl, Nat.le_refl _, fun _ _ _ => rfl, ⟨fun b hb => Nat.lt_of_lt_of_le (st.xlt.lt b hb) st.size, hG⟩, fun k x hk => ⟨(st.dom k x hk).1, .inr ⟨k, x, hk, rfl⟩, (st.dom k x hk).2.2⟩, fun k e x he hx => .inr ⟨k, e, x, he, hx, rfl⟩, st.inj, fun k b hk => ?_, st.blk⟩ hrel w3).mono fun e w' he => ?_
    · by_cases h : k < nm
      · exact h
      · have hk' : (if k < nm then r k else none) = some b := hk
        rw [if_neg h] at hk'; cases hk'
    · by_cases h : k < nm
      · have hk' : (if k < nm then r k else none) = some b := hk
        rw [if_pos h] at hk'; exact hk'
      · have hk' : (if k < nm then r k else none) = some b := hk
        rw [if_neg h] at hk'; cases hk'
    · obtain ⟨v, r', x', Hf', nf', rfl, ⟨e1, e2, e3⟩, st', hn', hx, hlow⟩ := he
      dsimp only at e1 e2 e3
      rw [e2] at st' hx
      rw [e1] at hx
      rw [e2, e3] at hn'
      clear e1 e2 e3
      have hG : ∀ t, hget (L ++ H') t = hget Hf t := fun t => by
        rw [← hL t]
        show look none (L ++ H') t = look none (L ++ H) t
        rw [look_append, look_append]
        cases hasKey L t with
        | true => rfl
        | false => exact w1' t
      have hle2 : ∀ k, nm + wd ≤ k → r' k = none ∧ hget Hf k = none := fun k hk => hn' k (Nat.le_trans hle hk)
      have stF : St cx r' Hf w' := by
        refine ⟨st'.os.trans st.os, st'.tape.trans st.tape, st'.output.trans st.output, Nat.le_trans st.size st'.size, fun b hb hE => ?_, st.xlt, fun k y hk => ?_, fun k e y he hy => ?_, st'.inj, fun k b hk => ?_, st'.blk⟩
        · rw [← st.kept b hb hE]
          refine st'.kept b (Nat.lt_of_lt_of_le hb st.size) ?_
          rintro ⟨k, e, y, he, hy, rfl⟩
          rcases st.ow k e y he hy with h | h
          · omega
          · exact hE h
        · obtain ⟨d1, d2, d3⟩ := st'.dom k y hk
          refine ⟨d1, ?_, d3⟩
          rcases d2 with d2 | ⟨k0, x0, d4, d5⟩
          · exact .inl (Nat.le_trans st.size d2)
          · rw [← d5]; exact (st.dom k0 x0 d4).2.1
        · rcases st'.ow k e y he hy with h | ⟨k0, e0, x0, h1, h2, h3⟩
          · exact .inl (Nat.le_trans st.size h)
          · rw [← h3]; exact st.ow k0 e0 x0 h1 h2
        · have hr := st.pin k b hk
          have : k < nm := by
            rcases Nat.lt_or_ge k nm with h | h
            · exact h
            · rw [(w3 k h).1] at hr; cases hr
          rw [hlow k this]; exact hr
      have hwr : wr r' (L ++ H') = wr r' Hf := wr_congr hG
      have hwr0 : wr r H' = wr r H := wr_congr w1'
      refine ⟨v, rfl, r', ⟨fun k b hk => ?_, st'.size, fun b hb hW => st'.kept b hb (by rw [← hwr0]; exact hW), fun b hb hW => ?_⟩, stF.congr fun t => (hG t).symm, fun k hk => ?_, fun k e hk => ?_, by rw [hwr]; exact hx⟩
      · have : k < nm := by
          rcases Nat.lt_or_ge k nm with h | h
          · exact h
          · rw [(w3 k h).1] at hk; cases hk
        rw [hlow k this]; exact hk
      · rw [hwr] at hW
        rw [hwr0]
        obtain ⟨k, e, y, he, hy, rfl⟩ := hW
        rcases st'.ow k e y he hy with h | h
        · have : w.heap.size ≤ y.b := h
          omega
        · exact h
      · rcases hk with hk | hk
        · exact hlow k hk
        · rw [(hle2 k hk).1, (w3 k (by omega)).1]
      · refine .inl ⟨.inr (List.mem_singleton.2 rfl), ?_⟩
        rcases Nat.lt_or_ge k (nm + wd) with h | h
        · exact h
        · have hk' : hget (L ++ H') k = some e := hk
          rw [hG k, (hle2 k h).2] at hk'; cases hk'
  · injection hq with hq
    subst hq
    refine ⟨hK.1, exec_mono hM c _ _ (endH_mono fun x Hf nf h => ⟨h.1, ?_⟩) _ _ _ hK.2⟩
    have h2 := h.2
    rw [normK_L] at h2 ⊢
    exact hKK _ _ _ h2
end Go.Proofs.Ythbhidfohdipnaa.AX

/- Layer 20 by AX2: number and ip of the program's parser. -/
namespace Go.Proofs.Ythbhidfohdipnaa.AX
open Go.RowKit
set_option linter.unusedVariables false
set_option linter.unusedSimpArgs false
theorem slB_in {cx : Cx} {r : Ren} {H' : Hp} {w : World} {sh : Bool} {n : Nat} {f : Nat → Nat → CV} {X' : Nat → Prop} {rd : List Nat} {u : Value} (hok : ∀ i, i < n → eB.ok (f i) = true) (h : (CV.sl sh n eB.sz f).rel r cx.X (wr r H') w u) :
    (CV.sl false (toL eB n f).length eB.sz (rowF eB (toL eB n f))).rel (fun _ => none) X' (wrBut r H' rd) w u := by
  obtain ⟨a, cap, rfl, h1, h2⟩ := h
  rw [toL_len]
  refine ⟨a, cap, rfl, h1, fun h0 => ?_⟩
  obtain ⟨ad, rfl, hs, ho, hx, hlt, hc⟩ := h2 h0
  refine ⟨ad, rfl, hs, fun ⟨k2, e2, z, q1, q2, q3, _⟩ => ho ⟨k2, e2, z, q1, q2, q3⟩, (fun h => by cases h), hlt, fun i hi j hj => ?_⟩
  obtain ⟨u, hu, hr⟩ := hc i hi j hj
  refine ⟨u, hu, ?_⟩
  rw [eB.ok_eq _ (hok i hi) j hj] at hr
  have e : rowF eB (toL eB n f) i j = eB.cell (eB.rd (f i)) j := by
    unfold rowF toL
    rw [List.getD_eq_getElem?_getD, List.getElem?_map, List.getElem?_range hi]; rfl
  rw [e]
  exact eB.flat _ _ _ _ _ _ _ _ _ _ _ hr
/-- What a parser's methods see of it: the bytes alone. -/
def parR (b : List Int) (j : Nat) : CV := bif Nat.beq j 48 then .sl false b.length eB.sz (rowF eB b) else .top
def cPar : Codec (List Int) where
  enc b := .e (.c (.rp false 49 (parR b)))
  dec H x := match x with
    | .e (.c (.ptr k 0 0 _)) => match hget H k with
      | some e => match e.f 0 48 with
        | .sl _ n s f => bif Nat.blt 0 e.n && Nat.beq e.sz 49 && Nat.beq s eB.sz then some (toL eB n f, some (∀ i, i < n → eB.ok (f i) = true), [k]) else none
        | _ => none
      | none => none
    | _ => none
  sound H H' x a p rd h hp hh := by
    split at h
    · rename_i k fl
      split at h
      · rename_i e he
        split at h
        · rename_i sh n s f hf
          obtain ⟨hb, h5⟩ := cond_some h
          rw [Bool.and_eq_true, Bool.and_eq_true] at hb
          have b1 := Nat.le_of_ble_eq_true hb.1.1
          have b2 := Nat.eq_of_beq_eq_true hb.1.2
          have b3 := Nat.eq_of_beq_eq_true hb.2
          subst b3
          injection h5 with h6 h7
          injection h7 with h7 h8
          subst h6 h7 h8
          have he' : hget H' k = some e := by rw [← hh k (List.mem_cons_self ..)]; exact he
          rintro cx r w v st ⟨y, hy, rfl⟩
          refine ⟨⟨y.b, 0 * y.sz + 0, none⟩, rfl, rfl, ?_, (fun h => by cases h), (st.dom k y hy.1).1, fun j hj => ?_⟩
          · rintro ⟨k2, e2, z, q1, q2, q3, q4⟩
            have := st.inj k2 k e2 _ z y q1 he' q2 hy.1 q3
            exact q4 (by rw [this]; exact List.mem_cons_self ..)
          · obtain ⟨u, hu, hr⟩ := blk_cell st he' hy (i := 0) (j := j) b1 (by omega)
            refine ⟨u, hu, ?_⟩
            unfold parR
            cases hj48 : Nat.beq j 48 with
            | false => exact rel_isCell hr
            | true =>
              have hj' := Nat.eq_of_beq_eq_true hj48
              subst hj'
              rw [hf] at hr
              exact slB_in hp hr
        · cases h
      · cases h
    · cases h
theorem pnum_ok (b : List Int) (q n : Int) (hb : BL b) (hl : b.length ≤ 140737488355328) : PureOk Try.prog 70 [cPar.enc b, (cI .i64).enc q, (cI .i64).enc n] ((cI .u64).enc (uintF b q n).1) := by
  refine pure_intro (wd := 1) (Q := mkQ LSm) (by decide) tysOk (q_of LSm_ok) mixed Try.func70 rfl _ (by show 3 ≤ _; decide) _ ?_
  repeat' (first | (apply And.intro <;> intro hc <;> (first | exact Bool.noConfusion hc | (simp only [decide_eq_true_eq, decide_eq_false_iff_not, Bool.not_eq_true', Bool.not_eq_false', beq_iff_eq, beq_eq_false_iff_ne, bne_iff_ne, bne_eq_false_iff_eq, Bool.true_eq_false, Bool.false_eq_true, ne_eq, not_true_eq_false] at hc <;> first | exact absurd rfl hc | skip) | skip)) | (refine And.intro (by first | exact trivial | decide | omega | (dsimp only; omega) | exact fun _ _ => rfl | exact ⟨by assumption, by first | exact trivial | decide | omega | (dsimp only; omega)⟩) ?_) | (apply And.intro) | (intro s hs; (have qq : s = uintF b q n := hs.trans (congrArg (fun l => uintF l q n) (toL_b b)); clear hs; subst qq)))
  all_goals first
    | (dsimp only; rw [toL_b]; exact hb)
    | (dsimp only; rw [toL_b]; exact hl)
    | exact Done.mk (leF_int rfl)
theorem ipF_at {b : List Int} {q j : Nat} (h : q + 16 ≤ b.length) (hj : j < 16) : vget (ipF b q) j = b.getD (q + j) default := by
  rw [vget_lt _ hj]
  unfold ipF
  dsimp only
  by_cases h8 : j < 8
  · rw [if_pos h8, if_pos (by omega)]
  · rw [if_neg h8, if_pos (by omega)]
theorem pip_ok (b : List Int) (q : Int) (h0 : 0 ≤ q) (h1 : q + 16 ≤ b.length) : PureOk Try.prog 71 [cPar.enc b, (cI .i64).enc q] ((cE (eA .u8 16)).enc (ipF b q.toNat)) := by
  refine pure_intro (wd := 1) (Q := mkQ LE0) (by decide) tysOk (q_of LE0_ok) mixed Try.func71 rfl _ (by show 2 ≤ _; decide) _ ?_
  repeat' (first | (apply And.intro <;> intro hc <;> (first | exact Bool.noConfusion hc | (simp only [decide_eq_true_eq, decide_eq_false_iff_not, Bool.not_eq_true', Bool.not_eq_false', beq_iff_eq, beq_eq_false_iff_ne, bne_iff_ne, bne_eq_false_iff_eq, Bool.true_eq_false, Bool.false_eq_true] at hc) | skip)) | (refine And.intro (by first | exact trivial | decide | omega | (dsimp only; omega) | exact fun _ _ => rfl) ?_) | (apply And.intro) | (intro s hs))
  refine Done.mk (leF_e (leE_agg rfl fun i hi => ?_))
  have hm : Nat.min (b.length - q.toNat) (16 - 0) = 16 := by
    show min (b.length - q.toNat) 16 = 16
    omega
  have h8 : q.toNat + 8 ≤ b.length := by omega
  have h16 : q.toNat + 16 ≤ b.length := by omega
  iterate 16 (rcases i with _ | i; · exact leC_int (by rw [hm]; exact Eq.trans (by rfl) (ipF_at h16 (by omega)).symm))
  exact absurd hi (by omega)
abbrev pnumE : Entry := pureE (AC.cons cPar (AC.cons (cI .i64) (AC.cons (cI .i64) AC.nil))) (fun a => BL a.1 ∧ a.1.length ≤ 140737488355328) (fun a => (uintF a.1 a.2.1 a.2.2.1).1) (cI .u64).enc
abbrev pipE : Entry := pureE (AC.cons cPar (AC.cons (cI .i64) AC.nil)) (fun a => 0 ≤ a.2.1 ∧ a.2.1 + 16 ≤ a.1.length) (fun a => ipF a.1 a.2.1.toNat) (cE (eA .u8 16)).enc
def LDn : CsL := (70, some pnumE) :: (71, some pipE) :: []
theorem LDn_ok : AllOk Try.prog LDn := ⟨pureE_ok ⟨_, Try.func70, rfl, by kernel_rfl⟩ fun a h => pnum_ok a.1 a.2.1 a.2.2.1 h.1 h.2, pureE_ok ⟨_, Try.func71, rfl, by kernel_rfl⟩ fun a h => pip_ok a.1 a.2.1 h.1 h.2, trivial⟩
end Go.Proofs.Ythbhidfohdipnaa.AX

