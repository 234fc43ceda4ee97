/- Texts of one's own in one file: CoP, CoW, CoE, IphcShortA, CoF, BMu, Mu2, CoR, Rd8q, Rd8, CoD, CoT, CoL, CompressNoticesA, CoG, CompressNoticesW. -/
import Derived.Test.YtjknkfjhcapocaaDoorJCompressNoticese
import Derived.Test.YtjknkfjhcapocaaDoorJCompressNoticesd
import Derived.Test.YtjknkfjhcapocaaDoorJCompressNoticesb
import Derived.Test.YtjknkfjhcapocaaDoorJCompressNoticesc
import Derived.Test.YtjknkfjhcapocaaDoorRows
import Derived.Test.YtjknkfjhcapocaaDoorJCompressNoticesa
import Derived.LaidLaws
import Derived.ChangeArms
import Derived.FnData
import Derived.KernelRfl
/- Compressed packets: plain functions and laws; no program in sight. -/
namespace Go.Proofs.YtjknkfjhcapocaaDoor.AX
open Go.RowKit
set_option linter.unusedVariables false
set_option linter.unusedSimpArgs false
def half (x : Int) : Bool := decide (61616 ≤ x) && decide (x < 61632)
def byt (x : Int) : Bool := decide (61440 ≤ x) && decide (x < 61696)
theorem half_iff {x : Int} : half x = true ↔ 61616 ≤ x ∧ x < 61632 := by unfold half; simp
theorem byt_iff {x : Int} : byt x = true ↔ 61440 ≤ x ∧ x < 61696 := by unfold byt; simp
/-- The compressed ports, with the byte of their form. -/
def portsF (s d : Int) : List Int :=
  if half s = true ∧ half d = true then [243, (s - 61616) * 16 + (d - 61616)]
  else if byt d = true then [241, s / 256 % 256, s % 256, d - 61440]
  else if byt s = true then [242, s - 61440, d / 256 % 256, d % 256]
  else [240, s / 256 % 256, s % 256, d / 256 % 256, d % 256]
def udpF (p : Pkt) : List Int := portsF p.1.sp p.1.dp ++ beB (sumP p) 2
def encC (p : Pkt) (f t : Adr) (l : List Ctx) (now : Int) : List Int × Int :=
  if (encI p f t l now).2 = 0 then ((encI p f t l now).1 ++ ((if p.1.nxt = 17 then udpF p else []) ++ p.2), 0) else ([], (encI p f t l now).2)
def plainZ (p : Pkt) : List Int × Int := if validP p = true then (65 :: encB p (sumP p), 0) else ([], 1)
def gB (r : List Int) (i : Nat) : Int := r.getD i default
def pN (k : Int) : Nat := if k = 0 then 4 else if k = 3 then 1 else 3
/-- The four bytes of the ports. -/
def pB (k : Int) (r : List Int) : List Int :=
  if k = 0 then [gB r 1, gB r 2, gB r 3, gB r 4] else if k = 1 then [gB r 1, gB r 2, 240, gB r 3] else if k = 2 then [240, gB r 1, gB r 2, gB r 3] else [240, 176 + gB r 1 / 16, 240, 176 + gB r 1 % 16]
def rdU (k : Int) (r : List Int) : (Int × Int) × Int × Int :=
  ((gB (pB k r) 0 * 256 + gB (pB k r) 1, gB (pB k r) 2 * 256 + gB (pB k r) 3), gB r (1 + pN k) * 256 + gB r (2 + pN k), (pN k + 3 : Int))
/-- The compressed UDP header: the ports, the checksum, its size; the error's number. -/
def udpD (r : List Int) : ((Int × Int) × Int × Int) × Int :=
  if r.length = 0 then (((0, 0), 0, 0), 4) else if gB r 0 < 240 ∨ 243 < gB r 0 then (((0, 0), 0, 0), 5)
  else if r.length < pN (gB r 0 - 240) + 3 then (((0, 0), 0, 0), 4) else (rdU (gB r 0 - 240) r, 0)
def finC (p : Pkt) (sum : Int) : Pkt × Int := if 1280 < sizeP p then (pk0, 3) else if p.1.nxt = 17 ∧ sum ≠ sumP p then (pk0, 6) else (p, 0)
def restC (h : Hdr) (r : List Int) : Pkt × Int :=
  if h.nxt = 17 then (if (udpD r).2 = 0 then finC ({ h with sp := (udpD r).1.1.1, dp := (udpD r).1.1.2 }, r.drop (udpD r).1.2.2.toNat) (udpD r).1.2.1 else (pk0, (udpD r).2)) else finC (h, r) 0
def decC (b : List Int) (f t : Adr) (l : List Ctx) (now : Int) : Pkt × Int :=
  if b.length = 0 then (pk0, 4) else if gB b 0 = 65 then decF (b.drop 1)
  else if (decI b f t l now).2 = 0 then restC (decI b f t l now).1.1.1 (b.drop (decI b f t l now).1.2.toNat) else (pk0, (decI b f t l now).2)
/-! ### Reading back -/
theorem ports_len (s d : Int) : 2 ≤ (portsF s d).length ∧ (portsF s d).length ≤ 5 := by
  unfold portsF
  split
  · exact ⟨by simp, by simp⟩
  · split
    · exact ⟨by simp, by simp⟩
    · split
      · exact ⟨by simp, by simp⟩
      · exact ⟨by simp, by simp⟩
theorem ports_bl {s d : Int} : BL (portsF s d) := by
  have m : ∀ x : Int, 0 ≤ x % 256 ∧ x % 256 < 256 := fun x => by omega
  unfold portsF
  split
  · rename_i h
    have h1 := half_iff.1 h.1; have h2 := half_iff.1 h.2
    exact .cons (by omega) (.cons (by omega) .nil)
  · split
    · rename_i h
      have h1 := byt_iff.1 h
      exact .cons (by omega) (.cons (m _) (.cons (m _) (.cons (by omega) .nil)))
    · split
      · rename_i h
        have h1 := byt_iff.1 h
        exact .cons (by omega) (.cons (by omega) (.cons (m _) (.cons (m _) .nil)))
      · exact .cons (by omega) (.cons (m _) (.cons (m _) (.cons (m _) (.cons (m _) .nil))))
theorem udp_bl (p : Pkt) : BL (udpF p) := bl_app ports_bl (beB_bl _ _)
theorem udp_len (p : Pkt) : (udpF p).length = (portsF p.1.sp p.1.dp).length + 2 := by
  unfold udpF
  rw [List.length_append, beB2]; rfl
theorem encC_ok {p : Pkt} {f t : Adr} {l : List Ctx} {now : Int} (hp : validP p = true) (hf : adrValid f = true) (ht : adrValid t = true) (hl : validT l = true) (hn : vt now = true) : encC p f t l now = ((encI p f t l now).1 ++ ((if p.1.nxt = 17 then udpF p else []) ++ p.2), 0) := by
  unfold encC
  rw [if_pos (by rw [encI_ok hp hf ht hl hn])]
theorem tail_bl {p : Pkt} (hp : PkW p) : BL ((if p.1.nxt = 17 then udpF p else []) ++ p.2) := bl_app (bl_if (udp_bl p) .nil) hp.pay
/-! ### Lengths -/
/-! ### Packets between the link-local addresses of one and two -/
def lX : Fin 16 → Int := jn llP.ip 1099478073345
def lY : Fin 16 → Int := jn llP.ip 1099478073346
def locP (s d : Int) (b : List Int) : Pkt := (⟨0, 0, 17, 64, lX, lY, s, d⟩, b)
theorem lX_b : byteOk lX := jn_ok llP_b _
theorem lY_b : byteOk lY := jn_ok llP_b _
theorem lX_0 : vget lX 0 = 254 := by decide +kernel
theorem locP_m {s d : Int} {b : List Int} (hs : 0 ≤ s ∧ s < 65536) (hd : 0 ≤ d ∧ d < 65536) (hb : BL b) (hbl : b.length ≤ 100) : PkM (locP s d b) :=
  pkM_mk (by decide) (by decide) (by decide) (by decide) lX_b lY_b hs hd hb (by rw [lX_0]; decide) (by rw [if_pos rfl]; omega) (.inl rfl)
theorem k_val : adrValid k1 = true ∧ adrValid k2 = true := by decide
theorem locP_I {s d : Int} {b : List Int} (hs : 0 ≤ s ∧ s < 65536) (hd : 0 ≤ d ∧ d < 65536) (hb : BL b) (hbl : b.length ≤ 100) : encI (locP s d b) k1 k2 [] 0 = ([126, 51], 0) := by
  rw [encI_ok (locP_m hs hd hb hbl).v k_val.1 k_val.2 rfl rfl, ← k_enc]
  rw [encI_ok (hP_v (by show vget lX 0 ≠ 255; rw [lX_0]; decide)) k_val.1 k_val.2 rfl rfl]
  rfl
theorem locP_C {s d : Int} {b : List Int} (hs : 0 ≤ s ∧ s < 65536) (hd : 0 ≤ d ∧ d < 65536) (hb : BL b) (hbl : b.length ≤ 100) : encC (locP s d b) k1 k2 [] 0 = ([126, 51] ++ ((portsF s d ++ beB (sumP (locP s d b)) 2) ++ b), 0) := by
  rw [encC_ok (locP_m hs hd hb hbl).v k_val.1 k_val.2 rfl rfl, locP_I hs hd hb hbl]
  rfl
/-- How many bytes the ports cost. -/
def nPorts (s d : Int) : Int := if half s = true ∧ half d = true then 1 else if byt s = true ∨ byt d = true then 3 else 4
theorem ports_cost (s d : Int) : ((portsF s d).length : Int) = 1 + nPorts s d := by
  unfold portsF nPorts
  by_cases h1 : half s = true ∧ half d = true
  · rw [if_pos h1, if_pos h1]; rfl
  · rw [if_neg h1, if_neg h1]
    by_cases h2 : byt d = true
    · rw [if_pos h2, if_pos (.inr h2)]; rfl
    · rw [if_neg h2]
      by_cases h3 : byt s = true
      · rw [if_pos h3, if_pos (.inl h3)]; rfl
      · rw [if_neg h3, if_neg (by rintro (h | h); exact h3 h; exact h2 h)]; rfl
theorem loc_len {s d : Int} {b : List Int} (hs : 0 ≤ s ∧ s < 65536) (hd : 0 ≤ d ∧ d < 65536) (hb : BL b) (hbl : b.length ≤ 100) : ((encC (locP s d b) k1 k2 [] 0).1.length : Int) = 2 + 1 + nPorts s d + 2 + b.length := by
  rw [locP_C hs hd hb hbl]
  have := ports_cost s d
  simp only [List.length_append, beB2, List.length_cons, List.length_nil]
  omega
/-! ### A changed bit -/
theorem fin_bad {p : Pkt} {sum : Int} (hz : sizeP p ≤ 1280) (hu : p.1.nxt = 17) (h : sum ≠ sumP p) : finC p sum = (pk0, 6) := by
  unfold finC
  rw [if_neg (by omega), if_pos ⟨hu, h⟩]
/-- What a checksum covers of a packet between one and two. -/
theorem cov_loc (s d : Int) (b : List Int) : ∃ A B : List Int, ∀ (s' d' : Int) (b' : List Int), b'.length = b.length → covL (locP s' d' b') = A ++ ([s' / 256 % 256, s' % 256, d' / 256 % 256, d' % 256] ++ (B ++ b')) := by
  obtain ⟨z, hz⟩ : ∃ z, sizeP (locP s d b) = z := ⟨_, rfl⟩
  refine ⟨[vget lX 0, vget lX 1, vget lX 2, vget lX 3, vget lX 4, vget lX 5, vget lX 6, vget lX 7, vget lX 8, vget lX 9, vget lX 10, vget lX 11, vget lX 12, vget lX 13, vget lX 14, vget lX 15, vget lY 0, vget lY 1, vget lY 2, vget lY 3, vget lY 4, vget lY 5, vget lY 6, vget lY 7, vget lY 8, vget lY 9, vget lY 10, vget lY 11, vget lY 12, vget lY 13, vget lY 14, vget lY 15] ++ (beB (z - 40) 4 ++ [0, 0, 0, 17]), [(z - 40) / 256 % 256, (z - 40) % 256, 0, 0], fun s' d' b' hl => ?_⟩
  have e : sizeP (locP s' d' b') = z := by
    rw [← hz]
    show (if (17 : Int) = 17 then (48 : Int) else 40) + (b'.length : Int) = (if (17 : Int) = 17 then (48 : Int) else 40) + (b.length : Int)
    rw [hl]
  unfold covL
  rw [e]
  simp [locP]
theorem cov_pos (s d : Int) (b : List Int) : 0 < totI (covL (locP s d b)) := by
  rw [← cover_enc (p := locP s d b) rfl 0]
  exact cover_pos _
theorem fin_dif {s d s' d' : Int} {b b' : List Int} (hs : 0 ≤ s ∧ s < 65536) (hd : 0 ≤ d ∧ d < 65536) (hb : BL b) (hbl : b.length ≤ 100) (hs' : 0 ≤ s' ∧ s' < 65536) (hd' : 0 ≤ d' ∧ d' < 65536) (hb' : BL b') (hl : b'.length = b.length) {x y : Int} (hx : 0 ≤ x ∧ x < 256) (hy : 0 ≤ y ∧ y < 256) (hne : x ≠ y)
    (h : Dif [s / 256 % 256, s % 256, d / 256 % 256, d % 256] [s' / 256 % 256, s' % 256, d' / 256 % 256, d' % 256] x y ∧ b' = b ∨ Dif b b' x y ∧ s' = s ∧ d' = d) {sum : Int} (hsum : sum = sumP (locP s d b)) : finC (locP s' d' b') sum = (pk0, 6) := by
  have hm := locP_m hs hd hb hbl
  have hm' := locP_m hs' hd' hb' (by omega)
  refine fin_bad (valid_size hm'.v) rfl ?_
  rw [hsum, sumP_covL hm.v rfl, sumP_covL hm'.v rfl]
  obtain ⟨A, B, e⟩ := cov_loc s d b
  refine sum0_ne (x := x) (y := y) ?_ hx hy hne (cov_pos _ _ _) (cov_pos _ _ _)
  rw [e s d b rfl, e s' d' b' hl]
  rcases h with ⟨h, rfl⟩ | ⟨h, rfl, rfl⟩
  · exact Dif.left (Dif.right h)
  · exact Dif.left (Dif.left (Dif.left h))
theorem fin_sum {s d : Int} {b : List Int} (hs : 0 ≤ s ∧ s < 65536) (hd : 0 ≤ d ∧ d < 65536) (hb : BL b) (hbl : b.length ≤ 100) {sum : Int} (h : sum ≠ sumP (locP s d b)) : finC (locP s d b) sum = (pk0, 6) :=
  fin_bad (valid_size (locP_m hs hd hb hbl).v) rfl h
def H0 : Hdr := (locP 0 0 []).1
theorem rest_of {r : List Int} {U : (Int × Int) × Int × Int} {s d sum : Int} {n : Nat} (h : udpD r = (((s, d), sum, (n : Int)), 0)) : restC H0 r = finC (locP s d (r.drop n)) sum := by
  unfold restC
  rw [if_pos (show H0.nxt = 17 from rfl), h, if_pos rfl]
  rfl
theorem rest0 {a1 a2 a3 a4 m1 m2 : Int} {b : List Int} : restC H0 (240 :: a1 :: a2 :: a3 :: a4 :: m1 :: m2 :: b) = finC (locP (a1 * 256 + a2) (a3 * 256 + a4) b) (m1 * 256 + m2) := by
  refine rest_of (U := ((0, 0), 0, 0)) (n := 7) ?_
  show (if _ then _ else if (240 : Int) < 240 ∨ 243 < (240 : Int) then _ else if _ < 4 + 3 then _ else (((a1 * 256 + a2, a3 * 256 + a4), m1 * 256 + m2, (4 + 3 : Int)), (0 : Int))) = _
  rw [if_neg (by simp), if_neg (by omega), if_neg (by simp)]; rfl
theorem rest1 {a1 a2 a3 m1 m2 : Int} {b : List Int} : restC H0 (241 :: a1 :: a2 :: a3 :: m1 :: m2 :: b) = finC (locP (a1 * 256 + a2) (240 * 256 + a3) b) (m1 * 256 + m2) := by
  refine rest_of (U := ((0, 0), 0, 0)) (n := 6) ?_
  show (if _ then _ else if (241 : Int) < 240 ∨ 243 < (241 : Int) then _ else if _ < 3 + 3 then _ else (((a1 * 256 + a2, 240 * 256 + a3), m1 * 256 + m2, (3 + 3 : Int)), (0 : Int))) = _
  rw [if_neg (by simp), if_neg (by omega), if_neg (by simp)]; rfl
theorem rest2 {a1 a2 a3 m1 m2 : Int} {b : List Int} : restC H0 (242 :: a1 :: a2 :: a3 :: m1 :: m2 :: b) = finC (locP (240 * 256 + a1) (a2 * 256 + a3) b) (m1 * 256 + m2) := by
  refine rest_of (U := ((0, 0), 0, 0)) (n := 6) ?_
  show (if _ then _ else if (242 : Int) < 240 ∨ 243 < (242 : Int) then _ else if _ < 3 + 3 then _ else (((240 * 256 + a1, a2 * 256 + a3), m1 * 256 + m2, (3 + 3 : Int)), (0 : Int))) = _
  rw [if_neg (by simp), if_neg (by omega), if_neg (by simp)]; rfl
theorem rest3 {a1 m1 m2 : Int} {b : List Int} : restC H0 (243 :: a1 :: m1 :: m2 :: b) = finC (locP (240 * 256 + (176 + a1 / 16)) (240 * 256 + (176 + a1 % 16)) b) (m1 * 256 + m2) := by
  refine rest_of (U := ((0, 0), 0, 0)) (n := 4) ?_
  show (if _ then _ else if (243 : Int) < 240 ∨ 243 < (243 : Int) then _ else if _ < 1 + 3 then _ else (((240 * 256 + (176 + a1 / 16), 240 * 256 + (176 + a1 % 16)), m1 * 256 + m2, (1 + 3 : Int)), (0 : Int))) = _
  rw [if_neg (by simp), if_neg (by omega), if_neg (by simp)]; rfl
theorem dif4_0 {a b c d a' : Int} : Dif [a, b, c, d] [a', b, c, d] a a' := ⟨[], [b, c, d], rfl, rfl⟩
theorem dif4_1 {a b c d a' : Int} : Dif [a, b, c, d] [a, a', c, d] b a' := ⟨[a], [c, d], rfl, rfl⟩
theorem dif4_2 {a b c d a' : Int} : Dif [a, b, c, d] [a, b, a', d] c a' := ⟨[a, b], [d], rfl, rfl⟩
theorem dif4_3 {a b c d a' : Int} : Dif [a, b, c, d] [a, b, c, a'] d a' := ⟨[a, b, c], [], rfl, rfl⟩
/-- A changed bit behind the form of the ports. -/
theorem flip_law {s d : Int} {b : List Int} (hs : 0 ≤ s ∧ s < 65536) (hd : 0 ≤ d ∧ d < 65536) (hb : BL b) (hbl : b.length ≤ 100) {i : Nat} {y x : Int} (hi : 1 ≤ i) (hx : ((portsF s d ++ beB (sumP (locP s d b)) 2) ++ b).getD i default = x) (hil : i < ((portsF s d ++ beB (sumP (locP s d b)) 2) ++ b).length) (hy : 0 ≤ y ∧ y < 256) (hne : x ≠ y) (hnib : y / 16 = x / 16 ∨ y % 16 = x % 16) :
    restC H0 (((portsF s d ++ beB (sumP (locP s d b)) 2) ++ b).set i y) = (pk0, 6) := by
  have hsm := sumP_r (locP s d b)
  obtain ⟨m, em⟩ : ∃ m, sumP (locP s d b) = m := ⟨_, rfl⟩
  have hsum : m / 256 % 256 * 256 + m % 256 = sumP (locP s d b) := by omega
  rw [em] at hsm
  rw [em, beB2] at hx hil ⊢
  have pay : ∀ k, k < b.length → b.getD k default = x → finC (locP s d (b.set k y)) (m / 256 % 256 * 256 + m % 256) = (pk0, 6) := fun k hk hxk => by
    refine fin_dif hs hd hb hbl hs hd (bl_set hb hy) (List.length_set ..) (x := x) (y := y) (by rw [← hxk]; exact hb.get k) hy hne (.inr ⟨?_, rfl, rfl⟩) hsum
    rw [← hxk]
    exact Dif.set hk
  have chk : ∀ m1 m2 : Int, (m1 = m / 256 % 256 ∧ m2 = y ∧ x = m % 256 ∨ m1 = y ∧ m2 = m % 256 ∧ x = m / 256 % 256) → finC (locP s d b) (m1 * 256 + m2) = (pk0, 6) := fun m1 m2 h => by
    refine fin_sum hs hd hb hbl ?_
    rw [em]
    omega
  have prt : ∀ s' d' : Int, (0 ≤ s' ∧ s' < 65536) → (0 ≤ d' ∧ d' < 65536) → (0 ≤ x ∧ x < 256) → Dif [s / 256 % 256, s % 256, d / 256 % 256, d % 256] [s' / 256 % 256, s' % 256, d' / 256 % 256, d' % 256] x y → finC (locP s' d' b) (m / 256 % 256 * 256 + m % 256) = (pk0, 6) := fun s' d' g1 g2 g3 g4 =>
    fin_dif hs hd hb hbl g1 g2 hb rfl g3 hy hne (.inl ⟨g4, rfl⟩) hsum
  have hm : ∀ z : Int, 0 ≤ z % 256 ∧ z % 256 < 256 := fun z => by omega
  have es : s / 256 % 256 * 256 + s % 256 = s := by omega
  have ed : d / 256 % 256 * 256 + d % 256 = d := by omega
  unfold portsF at hx hil ⊢
  by_cases h1 : half s = true ∧ half d = true
  · rw [if_pos h1] at hx hil ⊢
    have g1 := half_iff.1 h1.1; have g2 := half_iff.1 h1.2
    have es3 : 240 * 256 + (176 + ((s - 61616) * 16 + (d - 61616)) / 16) = s := by omega
    have ed3 : 240 * 256 + (176 + ((s - 61616) * 16 + (d - 61616)) % 16) = d := by omega
    rcases i with _ | _ | _ | _ | i
    · omega
    · have hx' : (s - 61616) * 16 + (d - 61616) = x := hx
      refine rest3.trans ?_
      rcases hnib with hn | hn
      · have e1 : 240 * 256 + (176 + y / 16) = s := by omega
        rw [e1]
        refine fin_dif hs hd hb hbl hs (by omega) hb rfl (x := d % 256) (y := (240 * 256 + (176 + y % 16)) % 256) (hm _) (hm _) (by omega) (.inl ⟨?_, rfl⟩) hsum
        rw [show (240 * 256 + (176 + y % 16)) / 256 % 256 = d / 256 % 256 by omega]
        exact dif4_3
      · have e1 : 240 * 256 + (176 + y % 16) = d := by omega
        rw [e1]
        refine fin_dif hs hd hb hbl (by omega) hd hb rfl (x := s % 256) (y := (240 * 256 + (176 + y / 16)) % 256) (hm _) (hm _) (by omega) (.inl ⟨?_, rfl⟩) hsum
        rw [show (240 * 256 + (176 + y / 16)) / 256 % 256 = s / 256 % 256 by omega]
        exact dif4_1
    · refine rest3.trans ?_
      rw [es3, ed3]
      exact chk _ _ (.inr ⟨rfl, rfl, hx.symm⟩)
    · refine rest3.trans ?_
      rw [es3, ed3]
      exact chk _ _ (.inl ⟨rfl, rfl, hx.symm⟩)
    · refine rest3.trans ?_
      rw [es3, ed3]
      exact pay i (by simpa using hil) hx
  · rw [if_neg h1] at hx hil ⊢
    by_cases h2 : byt d = true
    · rw [if_pos h2] at hx hil ⊢
      have g2 := byt_iff.1 h2
      have ed1 : 240 * 256 + (d - 61440) = d := by omega
      rcases i with _ | _ | _ | _ | _ | _ | i
      · omega
      · have hx' : s / 256 % 256 = x := hx
        refine rest1.trans ?_
        rw [ed1]
        refine prt _ _ (by omega) hd (by omega) ?_
        rw [show (y * 256 + s % 256) / 256 % 256 = y by omega, show (y * 256 + s % 256) % 256 = s % 256 by omega, hx']
        exact dif4_0
      · have hx' : s % 256 = x := hx
        refine rest1.trans ?_
        rw [ed1]
        refine prt _ _ (by omega) hd (by omega) ?_
        rw [show (s / 256 % 256 * 256 + y) / 256 % 256 = s / 256 % 256 by omega, show (s / 256 % 256 * 256 + y) % 256 = y by omega, hx']
        exact dif4_1
      · have hx' : d - 61440 = x := hx
        refine rest1.trans ?_
        rw [es]
        refine prt _ _ hs (by omega) (by omega) ?_
        rw [show (240 * 256 + y) / 256 % 256 = d / 256 % 256 by omega, show (240 * 256 + y) % 256 = y by omega, show d % 256 = x by omega]
        exact dif4_3
      · refine rest1.trans ?_
        rw [es, ed1]
        exact chk _ _ (.inr ⟨rfl, rfl, hx.symm⟩)
      · refine rest1.trans ?_
        rw [es, ed1]
        exact chk _ _ (.inl ⟨rfl, rfl, hx.symm⟩)
      · refine rest1.trans ?_
        rw [es, ed1]
        exact pay i (by simpa using hil) hx
    · rw [if_neg h2] at hx hil ⊢
      by_cases h3 : byt s = true
      · rw [if_pos h3] at hx hil ⊢
        have g3 := byt_iff.1 h3
        have es1 : 240 * 256 + (s - 61440) = s := by omega
        rcases i with _ | _ | _ | _ | _ | _ | i
        · omega
        · have hx' : s - 61440 = x := hx
          refine rest2.trans ?_
          rw [ed]
          refine prt _ _ (by omega) hd (by omega) ?_
          rw [show (240 * 256 + y) / 256 % 256 = s / 256 % 256 by omega, show (240 * 256 + y) % 256 = y by omega, show s % 256 = x by omega]
          exact dif4_1
        · have hx' : d / 256 % 256 = x := hx
          refine rest2.trans ?_
          rw [es1]
          refine prt _ _ hs (by omega) (by omega) ?_
          rw [show (y * 256 + d % 256) / 256 % 256 = y by omega, show (y * 256 + d % 256) % 256 = d % 256 by omega, hx']
          exact dif4_2
        · have hx' : d % 256 = x := hx
          refine rest2.trans ?_
          rw [es1]
          refine prt _ _ hs (by omega) (by omega) ?_
          rw [show (d / 256 % 256 * 256 + y) / 256 % 256 = d / 256 % 256 by omega, show (d / 256 % 256 * 256 + y) % 256 = y by omega, hx']
          exact dif4_3
        · refine rest2.trans ?_
          rw [es1, ed]
          exact chk _ _ (.inr ⟨rfl, rfl, hx.symm⟩)
        · refine rest2.trans ?_
          rw [es1, ed]
          exact chk _ _ (.inl ⟨rfl, rfl, hx.symm⟩)
        · refine rest2.trans ?_
          rw [es1, ed]
          exact pay i (by simpa using hil) hx
      · rw [if_neg h3] at hx hil ⊢
        rcases i with _ | _ | _ | _ | _ | _ | _ | i
        · omega
        · have hx' : s / 256 % 256 = x := hx
          refine rest0.trans ?_
          rw [ed]
          refine prt _ _ (by omega) hd (by omega) ?_
          rw [show (y * 256 + s % 256) / 256 % 256 = y by omega, show (y * 256 + s % 256) % 256 = s % 256 by omega, hx']
          exact dif4_0
        · have hx' : s % 256 = x := hx
          refine rest0.trans ?_
          rw [ed]
          refine prt _ _ (by omega) hd (by omega) ?_
          rw [show (s / 256 % 256 * 256 + y) / 256 % 256 = s / 256 % 256 by omega, show (s / 256 % 256 * 256 + y) % 256 = y by omega, hx']
          exact dif4_1
        · have hx' : d / 256 % 256 = x := hx
          refine rest0.trans ?_
          rw [es]
          refine prt _ _ hs (by omega) (by omega) ?_
          rw [show (y * 256 + d % 256) / 256 % 256 = y by omega, show (y * 256 + d % 256) % 256 = d % 256 by omega, hx']
          exact dif4_2
        · have hx' : d % 256 = x := hx
          refine rest0.trans ?_
          rw [es]
          refine prt _ _ hs (by omega) (by omega) ?_
          rw [show (d / 256 % 256 * 256 + y) / 256 % 256 = d / 256 % 256 by omega, show (d / 256 % 256 * 256 + y) % 256 = y by omega, hx']
          exact dif4_3
        · refine rest0.trans ?_
          rw [es, ed]
          exact chk _ _ (.inr ⟨rfl, rfl, hx.symm⟩)
        · refine rest0.trans ?_
          rw [es, ed]
          exact chk _ _ (.inl ⟨rfl, rfl, hx.symm⟩)
        · refine rest0.trans ?_
          rw [es, ed]
          exact pay i (by simpa using hil) hx
theorem nibF : ∀ (x : Fin 256) (k : Fin 8), bits .xor .u8 (x.1 : Int) (shlI .u8 1 (k.1 : Int)) / 16 = (x.1 : Int) / 16 ∨ bits .xor .u8 (x.1 : Int) (shlI .u8 1 (k.1 : Int)) % 16 = (x.1 : Int) % 16 := by decide +kernel
theorem flip_nib {x k : Int} (hx : 0 ≤ x ∧ x < 256) (hk : 0 ≤ k ∧ k < 8) : bits .xor .u8 x (shlI .u8 1 k) / 16 = x / 16 ∨ bits .xor .u8 x (shlI .u8 1 k) % 16 = x % 16 := by
  have h := nibF ⟨x.toNat, by omega⟩ ⟨k.toNat, by omega⟩
  dsimp only at h
  rw [Int.toNat_of_nonneg hx.1, Int.toNat_of_nonneg hk.1] at h
  exact h
/-- CompressNotices. -/
theorem notice_law {s d : Int} {b : List Int} (hs : 0 ≤ s ∧ s < 65536) (hd : 0 ≤ d ∧ d < 65536) (hb : BL b) (hbl : b.length ≤ 100) {C : List Int} (hC : (encC (locP s d b) k1 k2 [] 0).1 = C) {i : Nat} {k : Int} (hi : 3 ≤ i) (hil : i < C.length) (hk : 0 ≤ k ∧ k < 8) :
    decC (C.set i (bits .xor .u8 (C.getD i default) (shlI .u8 1 k))) k1 k2 [] 0 = (pk0, 6) := by
  obtain ⟨U, eU⟩ : ∃ U, (portsF s d ++ beB (sumP (locP s d b)) 2) ++ b = U := ⟨_, rfl⟩
  have hUb : BL U := by rw [← eU]; exact bl_app (bl_app ports_bl (beB_bl _ _)) hb
  have hUl : U.length ≤ 107 := by
    rw [← eU, beB2]
    have := (ports_len s d).2
    simp only [List.length_append, List.length_cons, List.length_nil]
    omega
  have eC : C = 126 :: 51 :: U := by rw [← hC, locP_C hs hd hb hbl, ← eU]; rfl
  subst eC
  obtain ⟨j, rfl⟩ : ∃ j, i = j + 2 := ⟨i - 2, by omega⟩
  have hjl : j < U.length := by simpa using hil
  have hg : (126 :: 51 :: U : List Int).getD (j + 2) default = U.getD j default := rfl
  rw [hg]
  obtain ⟨y, ey⟩ : ∃ y, bits .xor .u8 (U.getD j default) (shlI .u8 1 k) = y := ⟨_, rfl⟩
  have hne := flip_ne (hUb.get j) hk
  have hnib := flip_nib (hUb.get j) hk
  rw [ey] at hne hnib ⊢
  have hy : 0 ≤ y ∧ y < 256 := by rw [← ey]; exact u8r _
  have hset : (126 :: 51 :: U : List Int).set (j + 2) y = [126, 51] ++ U.set j y := rfl
  rw [hset]
  have hm := locP_m hs hd hb hbl
  have hI := locP_I hs hd hb hbl
  have hb' := decI_back hm.w hm.v k_val.1 k_val.2 (l := []) bytes_nil rfl (now := 0) (now' := 0) rfl rfl (by decide) (rest := U.set j y) (bl_set hUb hy) (by rw [List.length_set]; omega)
  rw [hI] at hb'
  have hb'' : decI ([126, 51] ++ U.set j y) k1 k2 [] 0 = (((H0, []), 2), 0) := hb'
  unfold decC
  rw [if_neg (by simp), if_neg (by show ¬ (126 : Int) = 65; decide), hb'', if_pos rfl]
  show restC H0 (U.set j y) = _
  have hfl := flip_law hs hd hb hbl (i := j) (y := y) (x := U.getD j default) (by omega) (by rw [eU]) (by rw [eU]; exact hjl) hy hne hnib
  rw [eU] at hfl
  exact hfl
end Go.Proofs.YtjknkfjhcapocaaDoor.AX

/- Headers that are read hold bytes and numbers in range: plain laws. -/
namespace Go.Proofs.YtjknkfjhcapocaaDoor.AX
open Go.RowKit
set_option linter.unusedVariables false
set_option linter.unusedSimpArgs false
theorem thenD_q {α β : Type} {P : α → Prop} {R : β → Prop} {x : RD α} {z : β} {f : α → Int → RD β} (hx : P x.1.1) (hz : R z) (hf : ∀ v q, P v → R (f v q).1.1) : R (thenD x z f).1.1 := by
  unfold thenD
  split
  · exact hf _ _ hx
  · exact hz
abbrev by8 (v : Int) : Prop := 0 ≤ v ∧ v < 256
structure HdW (h : Hdr) : Prop where
  cls : by8 h.cls
  flow : 0 ≤ h.flow ∧ h.flow < 4294967296
  nxt : by8 h.nxt
  hops : by8 h.hops
  sp : h.sp = 0
  dp : h.dp = 0
structure HdO (h : Hdr) : Prop where
  w : HdW h
  src : byteOk h.src
  dst : byteOk h.dst
theorem zA_b : byteOk zeroA := ⟨fun q => ⟨Int.le_refl 0, (by decide : (0 : Int) < 256)⟩⟩
theorem zH_w : HdW zeroH := ⟨by decide, by decide, by decide, by decide, rfl, rfl⟩
theorem zH_o : HdO zeroH := ⟨zH_w, zA_b, zA_b⟩
theorem hop_w8 (x : Int) : by8 (hopV x) := by
  unfold hopV by8
  split
  · decide
  · split
    · decide
    · split <;> decide
theorem fieldsD_w {b : List Int} {x q : Int} (hb : BL b) : HdW (fieldsD b x q).1.1 := by
  unfold fieldsD
  refine thenD_q (P := by8) (R := HdW) (ite_p (P := by8) (num1_v hb) (show by8 0 by decide)) zH_w fun c q hc => ?_
  refine thenD_q (P := fun v => 0 ≤ v ∧ v < 16777216) (R := HdW) (ite_p (P := fun v : Int => 0 ≤ v ∧ v < 16777216) (num3_v hb) (show (0 : Int) ≤ 0 ∧ (0 : Int) < 16777216 by decide)) zH_w fun fl q hf => ite_p (P := HdW) zH_w ?_
  refine thenD_q (P := by8) (R := HdW) (ite_p (P := by8) (num1_v hb) (show by8 17 by decide)) zH_w fun nx q hn => ite_p (P := HdW) zH_w ?_
  refine thenD_q (P := by8) (R := HdW) (ite_p (P := by8) (num1_v hb) (hop_w8 _)) zH_w fun hp q hh => ?_
  exact ⟨hc, ⟨hf.1, by dsimp only; omega⟩, hn, hh, rfl, rfl⟩
theorem ipRF_w {b : List Int} {q : Int} (hb : BL b) : byteOk (ipRF b q).1.1 := by
  unfold ipRF
  split
  · exact zA_b
  · exact ⟨fun i => hb.get _⟩
theorem findDec_b {id now : Int} : ∀ {l : List Ctx}, (∀ c ∈ l, byteOk c.ip) → byteOk (findDec id now l).1.ip := by
  intro l
  induction l with
  | nil => intro _; exact zA_b
  | cons c l ih =>
    intro h
    unfold findDec
    split
    · exact h c (List.mem_cons_self ..)
    · exact ih fun d hd => h d (List.mem_cons_of_mem _ hd)
theorem forDec_b {l : List Ctx} (hl : bytesL l) (id now : Int) : byteOk (forDec l id now).1.ip := by
  unfold forDec
  split
  · exact findDec_b hl.b
  · exact zA_b
theorem uniD_w {b : List Int} {c : Bool} {m q : Int} {k : Adr} {C : Ctx × Bool} (hb : BL b) (hC : byteOk C.1.ip) : byteOk (uniD b c m k C q).1.1 := by
  have hp : byteOk (prefD c C).ip := by
    unfold prefD
    split
    · exact hC
    · exact llP_b
  unfold uniD uniV
  refine ite_p (P := byteOk) zA_b (ite_p (P := byteOk) zA_b (ite_p (P := byteOk) zA_b (thenD_q (P := byteOk) (R := byteOk) (ite_p (P := byteOk) (ipRF_w hb) (ite_p (P := byteOk) (thenD_p (P := byteOk) zA_b fun v q => jn_ok hp _) (ite_p (P := byteOk) (thenD_p (P := byteOk) zA_b fun v q => jn_ok hp _) (jn_ok hp _)))) zA_b fun a q ha => ite_p (P := byteOk) zA_b ha)))
theorem grpV_w {n : Nat} {w : List Int} (h : BL w) : byteOk (grpV n w) := ⟨fun i => by
  unfold grpV
  split
  · decide
  · split
    · split
      · decide
      · exact h.get _
    · split
      · decide
      · exact h.get _⟩
theorem grpD_w {b : List Int} {m q : Int} (hb : BL b) : byteOk (grpD b m q).1.1 := by
  unfold grpD
  exact ite_p (P := byteOk) (thenD_q (P := byteOk) (R := byteOk) (ipRF_w hb) zA_b fun a q ha => ite_p (P := byteOk) ha ha) (thenD_p (P := byteOk) zA_b fun v q => grpV_w ((hb.drop _).take _))
theorem readD_w {b : List Int} {f t : Adr} {l : List Ctx} {now : Int} (hb : BL b) (hl : bytesL l) : HdO (readD b f t l now).1.1 := by
  unfold readD
  refine thenD_p (P := HdO) zH_o fun s q => thenD_q (P := HdW) (R := HdO) (fieldsD_w hb) zH_o fun h q hh => thenD_q (P := byteOk) (R := HdO) ?_ zH_o fun x q hx => thenD_q (P := byteOk) (R := HdO) ?_ zH_o fun y q hy => ⟨⟨hh.cls, hh.flow, hh.nxt, hh.hops, hh.sp, hh.dp⟩, hx, hy⟩
  · unfold srcD
    exact ite_p (P := byteOk) (uniD_w hb (forDec_b hl _ _)) zA_b
  · unfold dstD
    exact ite_p (P := byteOk) (grpD_w hb) (uniD_w hb (forDec_b hl _ _))
/-- What is read of a header: its place and its numbers. -/
theorem decI_w {b : List Int} {f t : Adr} {l : List Ctx} {now : Int} (hb : BL b) (hbl : b.length ≤ 140737488355328) (hl : bytesL l) : HdO (decI b f t l now).1.1.1 ∧ 0 ≤ (decI b f t l now).1.2 ∧ (decI b f t l now).1.2 ≤ b.length := by
  have r0 : RdOk b 0 := ⟨hb, hbl, Int.le_refl 0, Int.natCast_nonneg _⟩
  have h1 : RdOk b (readD b f t l now).2 := readD_r r0
  have h2 : HdO (readD b f t l now).1.1 := readD_w hb hl
  unfold decI
  split
  · exact ⟨zH_o, Int.le_refl 0, Int.natCast_nonneg _⟩
  · split
    · exact ⟨h2, h1.lo, h1.hi⟩
    · exact ⟨zH_o, Int.le_refl 0, Int.natCast_nonneg _⟩
theorem gB_r {b : List Int} (h : BL b) (i : Nat) : 0 ≤ gB b i ∧ gB b i < 256 := h.get i
theorem udpD_w {r : List Int} (hr : BL r) : (0 ≤ (udpD r).1.1.1 ∧ (udpD r).1.1.1 < 65536) ∧ (0 ≤ (udpD r).1.1.2 ∧ (udpD r).1.1.2 < 65536) ∧ (0 ≤ (udpD r).1.2.1 ∧ (udpD r).1.2.1 < 65536) := by
  have g := gB_r hr
  unfold udpD
  split
  · exact ⟨by decide, by decide, by decide⟩
  · split
    · exact ⟨by decide, by decide, by decide⟩
    · split
      · exact ⟨by decide, by decide, by decide⟩
      · have hp : ∀ i, i < 4 → 0 ≤ gB (pB (gB r 0 - 240) r) i ∧ gB (pB (gB r 0 - 240) r) i < 256 := by
          have q0 := g 1
          have q1 := g 2
          have q2 := g 3
          have q3 := g 4
          intro i hi
          unfold pB
          split
          · rcases i with _ | _ | _ | _ | i <;> first | assumption | omega
          · split
            · rcases i with _ | _ | _ | _ | i <;> first | assumption | (show (0 : Int) ≤ 240 ∧ (240 : Int) < 256; omega) | omega
            · split
              · rcases i with _ | _ | _ | _ | i <;> first | assumption | (show (0 : Int) ≤ 240 ∧ (240 : Int) < 256; omega) | omega
              · rcases i with _ | _ | _ | _ | i
                · show (0 : Int) ≤ 240 ∧ (240 : Int) < 256; omega
                · show 0 ≤ 176 + gB r 1 / 16 ∧ 176 + gB r 1 / 16 < 256; omega
                · show (0 : Int) ≤ 240 ∧ (240 : Int) < 256; omega
                · show 0 ≤ 176 + gB r 1 % 16 ∧ 176 + gB r 1 % 16 < 256; omega
                · omega
        have h0 := hp 0 (by decide)
        have h1 := hp 1 (by decide)
        have h2 := hp 2 (by decide)
        have h3 := hp 3 (by decide)
        have h4 := g (1 + pN (gB r 0 - 240))
        have h5 := g (2 + pN (gB r 0 - 240))
        unfold rdU
        dsimp only
        omega
theorem udpD_n {r : List Int} (hr : BL r) (h : (udpD r).2 = 0) : 4 ≤ (udpD r).1.2.2 ∧ (udpD r).1.2.2 ≤ r.length := by
  unfold udpD at h ⊢
  split at h
  · exact absurd (show (4 : Int) = 0 from h) (by decide)
  · split at h
    · exact absurd (show (5 : Int) = 0 from h) (by decide)
    · split at h
      · exact absurd (show (4 : Int) = 0 from h) (by decide)
      · rename_i h1 h2 h3
        rw [if_neg h1, if_neg h2, if_neg h3]
        show (4 : Int) ≤ (pN (gB r 0 - 240) : Int) + 3 ∧ (pN (gB r 0 - 240) : Int) + 3 ≤ r.length
        have : 1 ≤ pN (gB r 0 - 240) := by
          unfold pN
          split
          · decide
          · split <;> decide
        omega
theorem pkw_of {h : Hdr} {r : List Int} (hh : HdO h) (hr : BL r) {s d : Int} (hs : 0 ≤ s ∧ s < 65536) (hd : 0 ≤ d ∧ d < 65536) : PkW ({ h with sp := s, dp := d }, r) :=
  ⟨hh.w.cls, hh.w.flow, hh.w.nxt, hh.w.hops, fun i => hh.src.v i, fun i => hh.dst.v i, hs, hd, hr⟩
end Go.Proofs.YtjknkfjhcapocaaDoor.AX

/- Compressed packets are made: appendUDP, Encode, Plain (by AX2). -/
namespace Go.Proofs.YtjknkfjhcapocaaDoor.AX
open Go.RowKit
set_option linter.unusedVariables false
set_option linter.unusedSimpArgs false
def wthF (x f c : Int) : Bool := decide (f ≤ x) && decide (x < f + c)
theorem wth_half (x : Int) : wthF x 61616 16 = half x := rfl
theorem wth_byt (x : Int) : wthF x 61440 256 = byt x := rfl
set_option maxHeartbeats 4000000 in
theorem wth_ok (x f c : Int) (hx : 0 ≤ x ∧ x < 65536) (hf : 0 ≤ f ∧ f ≤ 65536) (hc : 0 ≤ c ∧ c ≤ 65536) : PureOk Tryd.prog 51 [(cI .u16).enc x, (cI .i64).enc f, (cI .i64).enc c] (cB.enc (wthF x f c)) := by
  have w1 : IntKind.i64.wrap x = x := IntWalk.i64_in _ (by omega)
  have w2 : IntKind.i64.wrap (f + c) = f + c := IntWalk.i64_in _ (by omega)
  unfold wthF
  refine pure_intro (wd := 1) (Q := mkQ LE0) (by decide) tysOk (q_of LE0_ok) mixed Tryd.func51 rfl _ (by show 3 ≤ _; decide) _ ?_
  repeat' (first | (apply And.intro <;> intro hc <;> (first | exact Bool.noConfusion hc | (simp only [decide_eq_true_eq, decide_eq_false_iff_not, Bool.not_eq_true', Bool.not_eq_false', beq_iff_eq, beq_eq_false_iff_ne, bne_iff_ne, bne_eq_false_iff_eq, Bool.true_eq_false, Bool.false_eq_true] at hc) | skip)) | (refine And.intro (by first | exact trivial | decide | omega | (dsimp only; omega) | exact fun _ _ => rfl | exact ⟨by assumption, by first | exact trivial | decide | omega | (dsimp only; omega)⟩) ?_) | (apply And.intro) | (intro s hs))
  · rw [w1] at hc
    refine Done.mk (leF_bool ?_)
    show decide (IntKind.i64.wrap x < IntKind.i64.wrap (f + c)) = (decide (f ≤ x) && decide (x < f + c))
    rw [w1, w2, decide_eq_true hc]; rfl
  · rw [w1] at hc
    refine Done.mk (leF_bool ?_)
    show false = (decide (f ≤ x) && decide (x < f + c))
    rw [decide_eq_false hc]; rfl
abbrev wthE : Entry := pureE (AC.cons (cI .u16) (AC.cons (cI .i64) (AC.cons (cI .i64) AC.nil))) (fun a => (0 ≤ a.1 ∧ a.1 < 65536) ∧ (0 ≤ a.2.1 ∧ a.2.1 ≤ 65536) ∧ 0 ≤ a.2.2.1 ∧ a.2.2.1 ≤ 65536) (fun a => wthF a.1 a.2.1 a.2.2.1) cB.enc
def LCa0 : CsL := (53, some oappE) :: []
theorem LCa0_ok : AllOk Tryd.prog LCa0 := ⟨oappE_ok, trivial⟩
def adE : Entry := inlE T (mkQ LCa0) 1 Tryd.f52.ntmps Tryd.f52.results.toList (Tryd.f52.body.getD Code.ret)
theorem adE_ok : EntOk Tryd.prog 52 adE := inlE_ok (by decide) tysOk (q_of LCa0_ok) (mono_of LCa0_ok) mixed Tryd.func52 rfl rfl
def LCa : CsL := (51, some wthE) :: (52, some adE) :: (37, some sumE) :: []
theorem LCa_ok : AllOk Tryd.prog LCa := ⟨pureE_ok ⟨_, Tryd.func51, rfl, by kernel_rfl⟩ fun a h => wth_ok a.1 a.2.1 a.2.2.1 h.1 h.2.1 h.2.2, adE_ok, pureE_ok ⟨_, Tryd.func37, rfl, by kernel_rfl⟩ fun a h => psum_ok a.1 h.1 h.2, trivial⟩
theorem ports_3 {s d : Int} (h1 : half s = true) (h2 : half d = true) : portsF s d = [243, (s - 61616) * 16 + (d - 61616)] := if_pos ⟨h1, h2⟩
theorem ports_1 {s d : Int} (h : ¬ (half s = true ∧ half d = true)) (h1 : byt d = true) : portsF s d = [241, s / 256 % 256, s % 256, d - 61440] := by unfold portsF; rw [if_neg h, if_pos h1]
theorem ports_2 {s d : Int} (h : ¬ (half s = true ∧ half d = true)) (h1 : byt d = false) (h2 : byt s = true) : portsF s d = [242, s - 61440, d / 256 % 256, d % 256] := by unfold portsF; rw [if_neg h, if_neg (by rw [h1]; decide), if_pos h2]
theorem ports_0 {s d : Int} (h : ¬ (half s = true ∧ half d = true)) (h1 : byt d = false) (h2 : byt s = false) : portsF s d = [240, s / 256 % 256, s % 256, d / 256 % 256, d % 256] := by unfold portsF; rw [if_neg h, if_neg (by rw [h1]; decide), if_neg (by rw [h2]; decide)]
/-! appendUDP -/
theorem ap_eq {s l l' w : List Int} {v v' n : Int} (hs : s = l' ++ beB v' n) (h1 : l' = l) (h2 : v' = v) (h3 : beB v n = w) : s = l ++ w := by rw [hs, h1, h2, h3]
set_option maxHeartbeats 8000000 in
set_option maxRecDepth 20000 in
theorem aud_3 (b : List Int) (p : Pkt) (hbl : b.length ≤ 70368744170000) (hp : PkW p) (hpl : p.2.length ≤ 140737488355328) (h1 : half p.1.sp = true) (h2 : half p.1.dp = true) : NewOk Tryd.prog 29 [(cSl eB eB_sz).enc b, cPk.enc p] (some (b ++ udpF p).length) none (ents eB 5 (b ++ udpF p)) := by
  obtain ⟨M, eM⟩ : ∃ M, sumP p = M := ⟨_, rfl⟩
  have hM := sumP_r p
  rw [eM] at hM
  have hsp := hp.sp
  have hdp := hp.dp
  have b1 := half_iff.1 h1
  have b2 := half_iff.1 h2
  have wS : IntKind.u64.wrap p.1.sp = p.1.sp := IntWalk.u64_in _ (by omega)
  have wD : IntKind.u64.wrap p.1.dp = p.1.dp := IntWalk.u64_in _ (by omega)
  have wM : IntKind.u64.wrap M = M := IntWalk.u64_in _ (by omega)
  have wX : IntKind.u64.wrap (IntKind.u64.wrap (IntKind.u64.wrap (IntKind.u64.wrap (IntKind.u64.wrap p.1.sp - 61616) * 16) + IntKind.u64.wrap p.1.dp) - 61616) = (p.1.sp - 61616) * 16 + (p.1.dp - 61616) := by
    simp (disch := omega) only [IntWalk.u64_in]
    try omega
  obtain ⟨B1, e1⟩ : ∃ x, b ++ [243] = x := ⟨_, rfl⟩
  have l1 : B1.length = b.length + 1 := by rw [← e1, List.length_append]; rfl
  obtain ⟨B2, e2⟩ : ∃ x, B1 ++ [(p.1.sp - 61616) * 16 + (p.1.dp - 61616)] = x := ⟨_, rfl⟩
  have l2 : B2.length = B1.length + 1 := by rw [← e2, List.length_append]; rfl
  obtain ⟨B3, e3⟩ : ∃ x, B2 ++ beB M 2 = x := ⟨_, rfl⟩
  have l3 : B3.length = B2.length + 2 := by rw [← e3, List.length_append, beB2]; rfl
  have eF : b ++ udpF p = B3 := by
    unfold udpF
    rw [eM, ports_3 h1 h2, ← e3, ← e2, ← e1]
    simp only [List.append_assoc, List.cons_append, List.nil_append]
  rw [eF]
  have g0 : True := trivial
  have g1 : True := trivial
  have g2 : True := trivial
  refine new_intro (wd := 64) (Q := mkQ LCa) (by decide) tysOk (q_of LCa_ok) mixed Tryd.func29 rfl _ (by show 2 ≤ _; decide) (fun i _ j _ => row_nf eB _ i j) ?_
  repeat' (first | (apply And.intro <;> intro hc <;> (first | exact Bool.noConfusion hc | (exfalso; first | exact absurd hc (by assumption) | exact absurd (by assumption) hc | exact Bool.noConfusion (hc.symm.trans h1) | exact Bool.noConfusion (hc.symm.trans h2)) | (simp only [decide_eq_true_eq, decide_eq_false_iff_not, Bool.not_eq_true', Bool.not_eq_false', beq_iff_eq, beq_eq_false_iff_ne, bne_iff_ne, bne_eq_false_iff_eq, Bool.true_eq_false, Bool.false_eq_true, ne_eq, not_true_eq_false] at hc <;> first | exact absurd rfl hc | (exfalso; first | exact absurd hc (by assumption) | exact absurd (by assumption) hc | exact Bool.noConfusion (hc.symm.trans h1) | exact Bool.noConfusion (hc.symm.trans h2)) | skip) | skip)) | (refine And.intro (by first | exact trivial | decide | omega | (dsimp only; omega) | exact fun _ _ => rfl | exact ⟨by assumption, by first | exact trivial | decide | omega | (dsimp only; omega)⟩) ?_) | (apply And.intro) | (intro s hs; (first | (have q : s = half p.1.sp := hs.trans (wth_half _); clear hs; subst q) | (have q : s = half p.1.dp := hs.trans (wth_half _); clear hs; subst q) | (have q : s = byt p.1.sp := hs.trans (wth_byt _); clear hs; subst q) | (have q : s = byt p.1.dp := hs.trans (wth_byt _); clear hs; subst q) | (have q : M = s := (hs.trans ((congrArg sumP (pk_eq p _)).trans eM)).symm; clear hs; subst q) | (clear g0; have q : B1 = s := ((ap_eq (v := 243) (n := 1) hs (toL_b b) rfl (beB1 _ (by decide))).trans e1).symm; clear hs; subst q) | (clear g1; have q : B2 = s := ((ap_eq (v := (p.1.sp - 61616) * 16 + (p.1.dp - 61616)) (n := 1) hs (toL_b0 _) wX (beB1 _ (by omega))).trans e2).symm; clear hs; subst q) | (clear g2; have q : B3 = s := ((ap_eq (v := M) (n := 2) hs (toL_b0 _) wM rfl).trans e3).symm; clear hs; subst q) | skip)))
  all_goals first
    | exact Nat.le_of_ble_eq_true rfl
    | exact rfl
    | exact fun _ => rfl
    | (show (toL eB _ _).length ≤ _; rw [toL_len]; omega)
    | exact Eq.mp (congrArg PkW (pk_eq p _).symm) hp
    | exact ⟨⟨some _, leF_c (leC_os rfl rfl), leN_ents⟩⟩
    | skip
set_option maxHeartbeats 8000000 in
set_option maxRecDepth 20000 in
theorem aud_1 (b : List Int) (p : Pkt) (hbl : b.length ≤ 70368744170000) (hp : PkW p) (hpl : p.2.length ≤ 140737488355328) (h : ¬ (half p.1.sp = true ∧ half p.1.dp = true)) (h1 : byt p.1.dp = true) : NewOk Tryd.prog 29 [(cSl eB eB_sz).enc b, cPk.enc p] (some (b ++ udpF p).length) none (ents eB 5 (b ++ udpF p)) := by
  obtain ⟨M, eM⟩ : ∃ M, sumP p = M := ⟨_, rfl⟩
  have hM := sumP_r p
  rw [eM] at hM
  have hsp := hp.sp
  have hdp := hp.dp
  have b1 := byt_iff.1 h1
  have wS : IntKind.u64.wrap p.1.sp = p.1.sp := IntWalk.u64_in _ (by omega)
  have wD : IntKind.u64.wrap p.1.dp = p.1.dp := IntWalk.u64_in _ (by omega)
  have wM : IntKind.u64.wrap M = M := IntWalk.u64_in _ (by omega)
  have wX : IntKind.u64.wrap (IntKind.u64.wrap p.1.dp - 61440) = p.1.dp - 61440 := by
    simp (disch := omega) only [IntWalk.u64_in]
    try omega
  obtain ⟨B1, e1⟩ : ∃ x, b ++ [241] = x := ⟨_, rfl⟩
  have l1 : B1.length = b.length + 1 := by rw [← e1, List.length_append]; rfl
  obtain ⟨B2, e2⟩ : ∃ x, B1 ++ [p.1.sp / 256 % 256, p.1.sp % 256] = x := ⟨_, rfl⟩
  have l2 : B2.length = B1.length + 2 := by rw [← e2, List.length_append]; rfl
  obtain ⟨B3, e3⟩ : ∃ x, B2 ++ [p.1.dp - 61440] = x := ⟨_, rfl⟩
  have l3 : B3.length = B2.length + 1 := by rw [← e3, List.length_append]; rfl
  obtain ⟨B4, e4⟩ : ∃ x, B3 ++ beB M 2 = x := ⟨_, rfl⟩
  have l4 : B4.length = B3.length + 2 := by rw [← e4, List.length_append, beB2]; rfl
  have eF : b ++ udpF p = B4 := by
    unfold udpF
    rw [eM, ports_1 h h1, ← e4, ← e3, ← e2, ← e1]
    simp only [List.append_assoc, List.cons_append, List.nil_append]
  rw [eF]
  have g0 : True := trivial
  have g1 : True := trivial
  have g2 : True := trivial
  have g3 : True := trivial
  refine new_intro (wd := 64) (Q := mkQ LCa) (by decide) tysOk (q_of LCa_ok) mixed Tryd.func29 rfl _ (by show 2 ≤ _; decide) (fun i _ j _ => row_nf eB _ i j) ?_
  repeat' (first | (apply And.intro <;> intro hc <;> (first | exact Bool.noConfusion hc | (exfalso; first | exact absurd hc (by assumption) | exact absurd (by assumption) hc | exact h ⟨by assumption, hc⟩ | exact Bool.noConfusion (hc.symm.trans h1)) | (simp only [decide_eq_true_eq, decide_eq_false_iff_not, Bool.not_eq_true', Bool.not_eq_false', beq_iff_eq, beq_eq_false_iff_ne, bne_iff_ne, bne_eq_false_iff_eq, Bool.true_eq_false, Bool.false_eq_true, ne_eq, not_true_eq_false] at hc <;> first | exact absurd rfl hc | (exfalso; first | exact absurd hc (by assumption) | exact absurd (by assumption) hc | exact h ⟨by assumption, hc⟩ | exact Bool.noConfusion (hc.symm.trans h1)) | skip) | skip)) | (refine And.intro (by first | exact trivial | decide | omega | (dsimp only; omega) | exact fun _ _ => rfl | exact ⟨by assumption, by first | exact trivial | decide | omega | (dsimp only; omega)⟩) ?_) | (apply And.intro) | (intro s hs; (first | (have q : s = half p.1.sp := hs.trans (wth_half _); clear hs; subst q) | (have q : s = half p.1.dp := hs.trans (wth_half _); clear hs; subst q) | (have q : s = byt p.1.sp := hs.trans (wth_byt _); clear hs; subst q) | (have q : s = byt p.1.dp := hs.trans (wth_byt _); clear hs; subst q) | (have q : M = s := (hs.trans ((congrArg sumP (pk_eq p _)).trans eM)).symm; clear hs; subst q) | (clear g0; have q : B1 = s := ((ap_eq (v := 241) (n := 1) hs (toL_b b) rfl (beB1 _ (by decide))).trans e1).symm; clear hs; subst q) | (clear g1; have q : B2 = s := ((ap_eq (v := p.1.sp) (n := 2) hs (toL_b0 _) wS (beB2 _)).trans e2).symm; clear hs; subst q) | (clear g2; have q : B3 = s := ((ap_eq (v := p.1.dp - 61440) (n := 1) hs (toL_b0 _) wX (beB1 _ (by omega))).trans e3).symm; clear hs; subst q) | (clear g3; have q : B4 = s := ((ap_eq (v := M) (n := 2) hs (toL_b0 _) wM rfl).trans e4).symm; clear hs; subst q) | skip)))
  all_goals first
    | exact Nat.le_of_ble_eq_true rfl
    | exact rfl
    | exact fun _ => rfl
    | (show (toL eB _ _).length ≤ _; rw [toL_len]; omega)
    | exact Eq.mp (congrArg PkW (pk_eq p _).symm) hp
    | exact ⟨⟨some _, leF_c (leC_os rfl rfl), leN_ents⟩⟩
    | skip
set_option maxHeartbeats 8000000 in
set_option maxRecDepth 20000 in
theorem aud_2 (b : List Int) (p : Pkt) (hbl : b.length ≤ 70368744170000) (hp : PkW p) (hpl : p.2.length ≤ 140737488355328) (h : ¬ (half p.1.sp = true ∧ half p.1.dp = true)) (h1 : byt p.1.dp = false) (h2 : byt p.1.sp = true) : NewOk Tryd.prog 29 [(cSl eB eB_sz).enc b, cPk.enc p] (some (b ++ udpF p).length) none (ents eB 5 (b ++ udpF p)) := by
  obtain ⟨M, eM⟩ : ∃ M, sumP p = M := ⟨_, rfl⟩
  have hM := sumP_r p
  rw [eM] at hM
  have hsp := hp.sp
  have hdp := hp.dp
  have b2 := byt_iff.1 h2
  have wS : IntKind.u64.wrap p.1.sp = p.1.sp := IntWalk.u64_in _ (by omega)
  have wD : IntKind.u64.wrap p.1.dp = p.1.dp := IntWalk.u64_in _ (by omega)
  have wM : IntKind.u64.wrap M = M := IntWalk.u64_in _ (by omega)
  have wX : IntKind.u64.wrap (IntKind.u64.wrap p.1.sp - 61440) = p.1.sp - 61440 := by
    simp (disch := omega) only [IntWalk.u64_in]
    try omega
  obtain ⟨B1, e1⟩ : ∃ x, b ++ [242] = x := ⟨_, rfl⟩
  have l1 : B1.length = b.length + 1 := by rw [← e1, List.length_append]; rfl
  obtain ⟨B2, e2⟩ : ∃ x, B1 ++ [p.1.sp - 61440] = x := ⟨_, rfl⟩
  have l2 : B2.length = B1.length + 1 := by rw [← e2, List.length_append]; rfl
  obtain ⟨B3, e3⟩ : ∃ x, B2 ++ [p.1.dp / 256 % 256, p.1.dp % 256] = x := ⟨_, rfl⟩
  have l3 : B3.length = B2.length + 2 := by rw [← e3, List.length_append]; rfl
  obtain ⟨B4, e4⟩ : ∃ x, B3 ++ beB M 2 = x := ⟨_, rfl⟩
  have l4 : B4.length = B3.length + 2 := by rw [← e4, List.length_append, beB2]; rfl
  have eF : b ++ udpF p = B4 := by
    unfold udpF
    rw [eM, ports_2 h h1 h2, ← e4, ← e3, ← e2, ← e1]
    simp only [List.append_assoc, List.cons_append, List.nil_append]
  rw [eF]
  have g0 : True := trivial
  have g1 : True := trivial
  have g2 : True := trivial
  have g3 : True := trivial
  refine new_intro (wd := 64) (Q := mkQ LCa) (by decide) tysOk (q_of LCa_ok) mixed Tryd.func29 rfl _ (by show 2 ≤ _; decide) (fun i _ j _ => row_nf eB _ i j) ?_
  repeat' (first | (apply And.intro <;> intro hc <;> (first | exact Bool.noConfusion hc | (exfalso; first | exact absurd hc (by assumption) | exact absurd (by assumption) hc | exact h ⟨by assumption, hc⟩ | exact Bool.noConfusion (hc.symm.trans h1) | exact Bool.noConfusion (hc.symm.trans h2)) | (simp only [decide_eq_true_eq, decide_eq_false_iff_not, Bool.not_eq_true', Bool.not_eq_false', beq_iff_eq, beq_eq_false_iff_ne, bne_iff_ne, bne_eq_false_iff_eq, Bool.true_eq_false, Bool.false_eq_true, ne_eq, not_true_eq_false] at hc <;> first | exact absurd rfl hc | (exfalso; first | exact absurd hc (by assumption) | exact absurd (by assumption) hc | exact h ⟨by assumption, hc⟩ | exact Bool.noConfusion (hc.symm.trans h1) | exact Bool.noConfusion (hc.symm.trans h2)) | skip) | skip)) | (refine And.intro (by first | exact trivial | decide | omega | (dsimp only; omega) | exact fun _ _ => rfl | exact ⟨by assumption, by first | exact trivial | decide | omega | (dsimp only; omega)⟩) ?_) | (apply And.intro) | (intro s hs; (first | (have q : s = half p.1.sp := hs.trans (wth_half _); clear hs; subst q) | (have q : s = half p.1.dp := hs.trans (wth_half _); clear hs; subst q) | (have q : s = byt p.1.sp := hs.trans (wth_byt _); clear hs; subst q) | (have q : s = byt p.1.dp := hs.trans (wth_byt _); clear hs; subst q) | (have q : M = s := (hs.trans ((congrArg sumP (pk_eq p _)).trans eM)).symm; clear hs; subst q) | (clear g0; have q : B1 = s := ((ap_eq (v := 242) (n := 1) hs (toL_b b) rfl (beB1 _ (by decide))).trans e1).symm; clear hs; subst q) | (clear g1; have q : B2 = s := ((ap_eq (v := p.1.sp - 61440) (n := 1) hs (toL_b0 _) wX (beB1 _ (by omega))).trans e2).symm; clear hs; subst q) | (clear g2; have q : B3 = s := ((ap_eq (v := p.1.dp) (n := 2) hs (toL_b0 _) wD (beB2 _)).trans e3).symm; clear hs; subst q) | (clear g3; have q : B4 = s := ((ap_eq (v := M) (n := 2) hs (toL_b0 _) wM rfl).trans e4).symm; clear hs; subst q) | skip)))
  all_goals first
    | exact Nat.le_of_ble_eq_true rfl
    | exact rfl
    | exact fun _ => rfl
    | (show (toL eB _ _).length ≤ _; rw [toL_len]; omega)
    | exact Eq.mp (congrArg PkW (pk_eq p _).symm) hp
    | exact ⟨⟨some _, leF_c (leC_os rfl rfl), leN_ents⟩⟩
    | skip
set_option maxHeartbeats 8000000 in
set_option maxRecDepth 20000 in
theorem aud_0 (b : List Int) (p : Pkt) (hbl : b.length ≤ 70368744170000) (hp : PkW p) (hpl : p.2.length ≤ 140737488355328) (h : ¬ (half p.1.sp = true ∧ half p.1.dp = true)) (h1 : byt p.1.dp = false) (h2 : byt p.1.sp = false) : NewOk Tryd.prog 29 [(cSl eB eB_sz).enc b, cPk.enc p] (some (b ++ udpF p).length) none (ents eB 5 (b ++ udpF p)) := by
  obtain ⟨M, eM⟩ : ∃ M, sumP p = M := ⟨_, rfl⟩
  have hM := sumP_r p
  rw [eM] at hM
  have hsp := hp.sp
  have hdp := hp.dp
  have wS : IntKind.u64.wrap p.1.sp = p.1.sp := IntWalk.u64_in _ (by omega)
  have wD : IntKind.u64.wrap p.1.dp = p.1.dp := IntWalk.u64_in _ (by omega)
  have wM : IntKind.u64.wrap M = M := IntWalk.u64_in _ (by omega)
  obtain ⟨B1, e1⟩ : ∃ x, b ++ [240] = x := ⟨_, rfl⟩
  have l1 : B1.length = b.length + 1 := by rw [← e1, List.length_append]; rfl
  obtain ⟨B2, e2⟩ : ∃ x, B1 ++ [p.1.sp / 256 % 256, p.1.sp % 256] = x := ⟨_, rfl⟩
  have l2 : B2.length = B1.length + 2 := by rw [← e2, List.length_append]; rfl
  obtain ⟨B3, e3⟩ : ∃ x, B2 ++ [p.1.dp / 256 % 256, p.1.dp % 256] = x := ⟨_, rfl⟩
  have l3 : B3.length = B2.length + 2 := by rw [← e3, List.length_append]; rfl
  obtain ⟨B4, e4⟩ : ∃ x, B3 ++ beB M 2 = x := ⟨_, rfl⟩
  have l4 : B4.length = B3.length + 2 := by rw [← e4, List.length_append, beB2]; rfl
  have eF : b ++ udpF p = B4 := by
    unfold udpF
    rw [eM, ports_0 h h1 h2, ← e4, ← e3, ← e2, ← e1]
    simp only [List.append_assoc, List.cons_append, List.nil_append]
  rw [eF]
  have g0 : True := trivial
  have g1 : True := trivial
  have g2 : True := trivial
  have g3 : True := trivial
  refine new_intro (wd := 64) (Q := mkQ LCa) (by decide) tysOk (q_of LCa_ok) mixed Tryd.func29 rfl _ (by show 2 ≤ _; decide) (fun i _ j _ => row_nf eB _ i j) ?_
  repeat' (first | (apply And.intro <;> intro hc <;> (first | exact Bool.noConfusion hc | (exfalso; first | exact absurd hc (by assumption) | exact absurd (by assumption) hc | exact h ⟨by assumption, hc⟩ | exact Bool.noConfusion (hc.symm.trans h1) | exact Bool.noConfusion (hc.symm.trans h2)) | (simp only [decide_eq_true_eq, decide_eq_false_iff_not, Bool.not_eq_true', Bool.not_eq_false', beq_iff_eq, beq_eq_false_iff_ne, bne_iff_ne, bne_eq_false_iff_eq, Bool.true_eq_false, Bool.false_eq_true, ne_eq, not_true_eq_false] at hc <;> first | exact absurd rfl hc | (exfalso; first | exact absurd hc (by assumption) | exact absurd (by assumption) hc | exact h ⟨by assumption, hc⟩ | exact Bool.noConfusion (hc.symm.trans h1) | exact Bool.noConfusion (hc.symm.trans h2)) | skip) | skip)) | (refine And.intro (by first | exact trivial | decide | omega | (dsimp only; omega) | exact fun _ _ => rfl | exact ⟨by assumption, by first | exact trivial | decide | omega | (dsimp only; omega)⟩) ?_) | (apply And.intro) | (intro s hs; (first | (have q : s = half p.1.sp := hs.trans (wth_half _); clear hs; subst q) | (have q : s = half p.1.dp := hs.trans (wth_half _); clear hs; subst q) | (have q : s = byt p.1.sp := hs.trans (wth_byt _); clear hs; subst q) | (have q : s = byt p.1.dp := hs.trans (wth_byt _); clear hs; subst q) | (have q : M = s := (hs.trans ((congrArg sumP (pk_eq p _)).trans eM)).symm; clear hs; subst q) | (clear g0; have q : B1 = s := ((ap_eq (v := 240) (n := 1) hs (toL_b b) rfl (beB1 _ (by decide))).trans e1).symm; clear hs; subst q) | (clear g1; have q : B2 = s := ((ap_eq (v := p.1.sp) (n := 2) hs (toL_b0 _) wS (beB2 _)).trans e2).symm; clear hs; subst q) | (clear g2; have q : B3 = s := ((ap_eq (v := p.1.dp) (n := 2) hs (toL_b0 _) wD (beB2 _)).trans e3).symm; clear hs; subst q) | (clear g3; have q : B4 = s := ((ap_eq (v := M) (n := 2) hs (toL_b0 _) wM rfl).trans e4).symm; clear hs; subst q) | skip)))
  all_goals first
    | exact Nat.le_of_ble_eq_true rfl
    | exact rfl
    | exact fun _ => rfl
    | (show (toL eB _ _).length ≤ _; rw [toL_len]; omega)
    | exact Eq.mp (congrArg PkW (pk_eq p _).symm) hp
    | exact ⟨⟨some _, leF_c (leC_os rfl rfl), leN_ents⟩⟩
    | skip
theorem aud_ok (b : List Int) (p : Pkt) (hbl : b.length ≤ 70368744170000) (hp : PkW p) (hpl : p.2.length ≤ 140737488355328) : NewOk Tryd.prog 29 [(cSl eB eB_sz).enc b, cPk.enc p] (some (b ++ udpF p).length) none (ents eB 5 (b ++ udpF p)) := by
  by_cases h : half p.1.sp = true ∧ half p.1.dp = true
  · exact aud_3 b p hbl hp hpl h.1 h.2
  · cases h1 : byt p.1.dp with
    | true => exact aud_1 b p hbl hp hpl h h1
    | false =>
      cases h2 : byt p.1.sp with
      | true => exact aud_2 b p hbl hp hpl h h1 h2
      | false => exact aud_0 b p hbl hp hpl h h1 h2
end Go.Proofs.YtjknkfjhcapocaaDoor.AX

/- IphcShort, by AX2: the law returns true. -/
namespace Go.Proofs.YtjknkfjhcapocaaDoor.AX
open Go.RowKit
set_option linter.unusedVariables false
set_option linter.unusedSimpArgs false
theorem encI_congr {p p' : Pkt} {a a' b b' : Adr} {l l' : List Ctx} {n : Int} (h1 : p' = p) (h2 : a' = a) (h3 : b' = b) (h4 : l' = l) : encI p' a' b' l' n = encI p a b l n := by rw [h1, h2, h3, h4]
end Go.Proofs.YtjknkfjhcapocaaDoor.AX

/- Compressed packets are made: Encode, Plain (by AX2). -/
namespace Go.Proofs.YtjknkfjhcapocaaDoor.AX
open Go.RowKit
set_option linter.unusedVariables false
set_option linter.unusedSimpArgs false
abbrev audE : Entry := newE (AC.cons (cSl eB eB_sz) (AC.cons cPk AC.nil)) (fun a => a.1.length ≤ 70368744170000 ∧ PkW a.2.1 ∧ a.2.1.2.length ≤ 140737488355328) (fun a => a.1 ++ udpF a.2.1) (fun s => some s.length) (fun _ => none) (fun s => ents eB 5 s)
def LCe : CsL := (29, some audE) :: (28, some enIE) :: (30, some encE) :: []
theorem LCe_ok : AllOk Tryd.prog LCe := ⟨newE_ok ⟨_, Tryd.func29, rfl, by kernel_rfl⟩ (fun s l h => by cases h) fun a h => aud_ok a.1 a.2.1 h.1 h.2.1 h.2.2, enIE_ok, (LPf_ok).1, trivial⟩
theorem encI_v {p : Pkt} {f t : Adr} {l : List Ctx} {now : Int} {C : List Int × Int} (eC : encI p f t l now = C) (h : C.2 = 0) : p.2.length ≤ 1280 := by
  cases hv : validP p with
  | true => have := valid_len hv; omega
  | false =>
    subst eC
    unfold encI at h
    rw [hv] at h
    exact absurd (show (1 : Int) = 0 from h) (by decide)
theorem encC_1 {p : Pkt} {f t : Adr} {l : List Ctx} {now : Int} {C : List Int × Int} (eC : encI p f t l now = C) (h : ¬ C.2 = 0) : encC p f t l now = ([], C.2) := by subst eC; exact if_neg h
theorem encC_2 {p : Pkt} {f t : Adr} {l : List Ctx} {now : Int} {C : List Int × Int} (eC : encI p f t l now = C) (h : C.2 = 0) (hu : p.1.nxt = 17) : encC p f t l now = (C.1 ++ udpF p ++ p.2, 0) := by
  subst eC; unfold encC; rw [if_pos h, if_pos hu, List.append_assoc]
theorem encC_3 {p : Pkt} {f t : Adr} {l : List Ctx} {now : Int} {C : List Int × Int} (eC : encI p f t l now = C) (h : C.2 = 0) (hu : ¬ p.1.nxt = 17) : encC p f t l now = (C.1 ++ p.2, 0) := by
  subst eC; unfold encC; rw [if_pos h, if_neg hu, List.nil_append]
set_option maxHeartbeats 8000000 in
set_option maxRecDepth 20000 in
theorem cenc_ok (p : Pkt) (f t : Adr) (l : List Ctx) (now : Int) (hp : PkW p) (hpl : p.2.length ≤ 140737488355328) (hl : bytesL l) : NewOk Tryd.prog 12 [cPk.enc p, (cE eAdr).enc f, (cE eAdr).enc t, (cSl eCtx eCtx_sz).enc l, (cI .i64).enc now] (some (encC p f t l now).1.length) (some [i64V (encC p f t l now).2]) (ents eB 5 (encC p f t l now).1) := by
  obtain ⟨W, eW⟩ : ∃ W, encC p f t l now = W := ⟨_, rfl⟩
  have hCl := encI_len p f t l now
  obtain ⟨C, eC⟩ : ∃ C, encI p f t l now = C := ⟨_, rfl⟩
  rw [eC] at hCl
  have hsm := encI_v eC
  have e1 := fun h => eW.symm.trans (encC_1 (p := p) (f := f) (t := t) (l := l) (now := now) eC h)
  have e2 := fun h g => eW.symm.trans (encC_2 (p := p) (f := f) (t := t) (l := l) (now := now) eC h g)
  have e3 := fun h g => eW.symm.trans (encC_3 (p := p) (f := f) (t := t) (l := l) (now := now) eC h g)
  rw [eW]
  clear eW
  have hU := udp_len p
  have hP := ports_len p.1.sp p.1.dp
  obtain ⟨U, eU⟩ : ∃ U, udpF p = U := ⟨_, rfl⟩
  rw [eU] at hU e2
  have g1 : True := trivial
  refine new_intro (wd := 1) (Q := mkQ LCe) (by decide) tysOk (q_of LCe_ok) mixed Tryd.func12 rfl _ (by show 5 ≤ _; decide) (fun i _ j _ => row_nf eB _ i j) ?_
  repeat' (first | (apply And.intro <;> intro hc <;> (first | exact Bool.noConfusion hc | (exfalso; first | exact absurd hc (by assumption) | exact absurd (by assumption) hc) | (simp only [decide_eq_true_eq, decide_eq_false_iff_not, Bool.not_eq_true', Bool.not_eq_false', beq_iff_eq, beq_eq_false_iff_ne, bne_iff_ne, bne_eq_false_iff_eq, Bool.true_eq_false, Bool.false_eq_true, ne_eq, not_true_eq_false] at hc <;> first | exact absurd rfl hc | (exfalso; first | exact absurd hc (by assumption) | exact absurd (by assumption) hc) | skip) | skip)) | (refine And.intro (by first | exact trivial | decide | omega | (dsimp only; omega) | exact fun _ _ => rfl | exact ⟨by assumption, by first | exact trivial | decide | omega | (dsimp only; omega)⟩) ?_) | (apply And.intro) | (intro s hs; (first | (clear g1; have q : C = s := (hs.trans ((encI_congr (pk_eq p _) (rd_adr f) (rd_adr t) (toL_ctx l)).trans eC)).symm; clear hs; subst q) | (have q : s = C.1 ++ U := hs.trans ((congr (congrArg (fun a b => a ++ udpF b) (toL_b0 C.1)) (pk_eq p _)).trans (congrArg (fun x => C.1 ++ x) eU)); clear hs; subst q) | skip)))
  all_goals first
    | exact fun _ => rfl
    | exact Eq.mp (congrArg PkW (pk_eq p _).symm) hp
    | (show (toL eB _ _).length ≤ _; rw [toL_len]; omega)
    | exact Eq.mp (congrArg bytesL (toL_ctx l).symm) hl
    | (rw [e1 (by assumption)]
       exact ⟨⟨none, leF_tup ⟨leC_nils_os rfl, leC_int rfl, trivial⟩, rfl, rfl, (by show 0 < 1; omega)⟩⟩)
    | omega
    | (have := hsm (by assumption); rw [List.length_append]; omega)
    | (have := hsm (by assumption); omega)
    | exact rfl
    | (rw [e2 (by assumption) (by assumption)]
       refine ⟨⟨some _, leF_tup ⟨leC_os rfl ?_, leC_int rfl, trivial⟩, leN_is ?_ (isRow_sel rfl (isRow_row _) (fun k hk => rowF_at (by omega)))⟩⟩
       · exact (List.length_append ..).symm
       · exact (List.length_append ..).symm)
    | (rw [e3 (by assumption) (by assumption)]
       refine ⟨⟨some _, leF_tup ⟨leC_os rfl ?_, leC_int rfl, trivial⟩, leN_is ?_ (isRow_sel rfl (isRow_row _) (fun k hk => rowF_at (by omega)))⟩⟩
       · exact (List.length_append ..).symm
       · exact (List.length_append ..).symm)
    | skip
set_option maxHeartbeats 8000000 in
set_option maxRecDepth 20000 in
theorem plain_ok (p : Pkt) (hp : PkW p) (hpl : p.2.length ≤ 140737488355328) : NewOk Tryd.prog 13 [cPk.enc p] (some (plainZ p).1.length) (some [i64V (plainZ p).2]) (ents eB 5 (plainZ p).1) := by
  obtain ⟨W, eW⟩ : ∃ W, plainZ p = W := ⟨_, rfl⟩
  have hl : ((encR p).getD []).length ≤ 1280 := by
    unfold encR
    split
    · rename_i h
      have h1 := encB_len p (sumP p)
      have h2 := valid_size h
      show (encB p (sumP p)).length ≤ 1280
      omega
    · exact Nat.zero_le _
  obtain ⟨E, eE⟩ : ∃ E, encR p = E := ⟨_, rfl⟩
  have e0 : ¬ ecR E = 0 → W = ([], 1) := fun h => by
    rw [← eW]
    unfold plainZ
    rw [if_neg]
    intro hv
    apply h
    rw [← eE]
    unfold encR
    rw [if_pos hv]; rfl
  have e1 : ecR E = 0 → W = (65 :: E.getD [], 0) := fun h => by
    rw [← eW]
    unfold plainZ
    by_cases hv : validP p = true
    · rw [if_pos hv, ← eE]
      unfold encR
      rw [if_pos hv]; rfl
    · exfalso
      rw [← eE] at h
      unfold encR at h
      rw [if_neg hv] at h
      exact absurd h (by decide)
  rw [eE] at hl
  rw [eW]
  clear eW
  refine new_intro (wd := 1) (Q := mkQ LCe) (by decide) tysOk (q_of LCe_ok) mixed Tryd.func13 rfl _ (by show 1 ≤ _; decide) (fun i _ j _ => row_nf eB _ i j) ?_
  repeat' (first | (apply And.intro <;> intro hc <;> (first | exact Bool.noConfusion hc | (exfalso; first | exact absurd hc (by assumption) | exact absurd (by assumption) hc) | (simp only [decide_eq_true_eq, decide_eq_false_iff_not, Bool.not_eq_true', Bool.not_eq_false', beq_iff_eq, beq_eq_false_iff_ne, bne_iff_ne, bne_eq_false_iff_eq, Bool.true_eq_false, Bool.false_eq_true, ne_eq, not_true_eq_false] at hc <;> first | exact absurd rfl hc | (exfalso; first | exact absurd hc (by assumption) | exact absurd (by assumption) hc) | skip) | skip)) | (refine And.intro (by first | exact trivial | decide | omega | (dsimp only; omega) | exact fun _ _ => rfl | exact ⟨by assumption, by first | exact trivial | decide | omega | (dsimp only; omega)⟩) ?_) | (apply And.intro) | (intro s hs; (first | (have q : E = s := (hs.trans ((congrArg encR (pk_eq p _)).trans eE)).symm; clear hs; subst q) | skip)))
  · exact Eq.mp (congrArg PkW (pk_eq p _).symm) hp
  · show (toL eB _ _).length ≤ _; rw [toL_len]; omega
  · have he : ecR E = 1 := by
      cases E with
      | none => rfl
      | some x => exact absurd rfl (by assumption : ¬ ecR (some x) = 0)
    rw [e0 (by assumption)]
    exact ⟨⟨none, leF_tup ⟨leC_nils_os rfl, leC_int he, trivial⟩, rfl, rfl, (by show 0 < 1; omega)⟩⟩
  · rw [e1 (by assumption)]
    refine ⟨⟨some _, leF_tup ⟨leC_os rfl ?_, leC_int rfl, trivial⟩, leN_is (l := [65] ++ E.getD []) ?_ (isRow_sel (n := 1) (C := fun k j => rowF eB (E.getD []) (0 + (k - 1)) j) (l1 := [65]) rfl ⟨fun k hk => ?_⟩ (fun k hk => rowF_at (by omega)))⟩⟩
    · show _ = (65 :: E.getD []).length
      rw [List.length_cons]; omega
    · rw [List.length_append]; exact rfl
    · have hk' : k < 1 := hk
      have : k = 0 := by omega
      subst this; rfl
end Go.Proofs.YtjknkfjhcapocaaDoor.AX

/- Functions that work on several variables of the caller's (closures that write captured variables): their contract. The pointers come behind the other arguments. -/
namespace Go.Proofs.YtjknkfjhcapocaaDoor.AX
open Go.RowKit
set_option linter.unusedVariables false
set_option linter.unusedSimpArgs false
def hpK (ks : Nat → Nat) (es : Nat → Ent) : Nat → Hp
  | 0 => []
  | m + 1 => (ks m, some (es m)) :: hpK ks es m
theorem hpK_in {ks : Nat → Nat} {es : Nat → Ent} : ∀ {m : Nat}, (∀ i, i < m → ∀ j, j < m → ks i = ks j → i = j) → ∀ i, i < m → ∀ H : Hp, hget (hpK ks es m ++ H) (ks i) = some (es i) := by
  intro m
  induction m with
  | zero => intro _ i hi; omega
  | succ m ih =>
    intro hd i hi H
    by_cases h : i = m
    · subst h; exact look_cons_eq _ _ _ _
    · have hne : ks i ≠ ks m := fun e => h (hd i hi m (Nat.lt_succ_self m) e)
      exact (look_cons_ne _ _ _ hne).trans (ih (fun a ha b hb => hd a (by omega) b (by omega)) i (by omega) H)
theorem hpK_out {ks : Nat → Nat} {es : Nat → Ent} : ∀ {m k : Nat}, (∀ i, i < m → ks i ≠ k) → ∀ H : Hp, hget (hpK ks es m ++ H) k = hget H k := by
  intro m
  induction m with
  | zero => intro k _ H; rfl
  | succ m ih =>
    intro k h H
    exact (look_cons_ne _ _ _ (Ne.symm (h m (Nat.lt_succ_self m)))).trans (ih (fun i hi => h i (by omega)) H)
/-- The blocks 0, .., m - 1. -/
abbrev hpL (es : Nat → Ent) (m : Nat) : Hp := hpK (fun k => k) es m
theorem hpL_get {es : Nat → Ent} {m k : Nat} : hget (hpL es m) k = if k < m then some (es k) else none := by
  have e : hpL es m = hpK (fun k => k) es m ++ [] := by simp
  rw [e]
  split
  · exact hpK_in (fun i _ j _ h => h) k (by assumption) []
  · exact hpK_out (fun i hi h => by omega) []
def atL (m : Nat) (xs : Nat → Bi) : Ren := fun k => if k < m then some (xs k) else none
def inX (m : Nat) (xs : Nat → Bi) (b : Nat) : Prop := ∃ k, k < m ∧ (xs k).b = b
def ptrs (ks : Nat → Nat) (m : Nat) : List FV := (List.range m).map fun k => .e (.c (.ptr (ks k) 0 0 false))
theorem ptrs_at {ks : Nat → Nat} {m i : Nat} {y : FV} (h : (ptrs ks m)[i]? = some y) : i < m ∧ y = .e (.c (.ptr (ks i) 0 0 false)) := by
  unfold ptrs at h
  rw [List.getElem?_map] at h
  by_cases hi : i < m
  · rw [List.getElem?_range hi] at h
    exact ⟨hi, by simpa using h.symm⟩
  · rw [List.getElem?_eq_none (by simp; omega)] at h; cases h
def MultOk (P : Program) (f : FuncId) (rest : List FV) (m : Nat) (es : Nat → Ent) (val : FV) (es' : Nat → Ent) : Prop :=
  ∀ X w (xs : Nat → Bi) (vals : Array Value), (∀ k, k < m → (xs k).b < w.heap.size ∧ ¬ X (xs k).b) → (∀ i, i < m → ∀ j, j < m → (xs i).b = (xs j).b → i = j) → Xw (fun b => X b ∨ inX m xs b) w →
    (∀ k, k < m → EntIn (fun _ => none) X (inX m xs) w (es k) (some (xs k)) w.heap) → RelL (atL m xs) X (inX m xs) w (rest ++ ptrs (fun k => k) m) vals →
    Calls P f vals w fun en w' => ∃ v, en = .returned v ∧ w'.os = w.os ∧ w'.tape = w.tape ∧ w'.output = w.output ∧ w.heap.size ≤ w'.heap.size ∧ (∀ b, b < w.heap.size → ¬ inX m xs b → w'.heap[b]? = w.heap[b]?) ∧
      (∀ k, k < m → EntIn (fun _ => none) X (fun b => X b ∨ inX m xs b) w' (es' k) (some (xs k)) w'.heap) ∧ val.rel (fun _ => none) X (fun b => X b ∨ inX m xs b) w' v
structure FinU (val : FV) (m : Nat) (es' : Nat → Ent) (x : FV) (H : Hp) : Prop where
  le : LeF ⟨H, hpL es' m, [], m, true⟩ x val
  ent : ∀ k, k < m → WkE ⟨H, hpL es' m, [], m, true⟩ (es' k) (some k)
section
variable {P : Program} {T : Tys} {Q : Qs} {wd : Nat}
theorem mult_intro (hwd : 0 < wd) (hT : TysOk P T) (hQ : QsOk P Q) (hm : P.follows .mixedOrders = true) {f : FuncId} {fn : Func} {c : Code} (hf : P.funcs[f]? = some fn) (hb : fn.body = some c) (rest : List FV) {m : Nat} (hn : rest.length + m ≤ fn.ntmps) {es es' : Nat → Ent} {val : FV}
    (hval : NFF val) (hnf : ∀ k, k < m → ∀ i, i < (es' k).n → ∀ j, j < (es' k).sz → NF ((es' k).f i j)) (h : exec T Q wd fn.ntmps m c (argFr (rest ++ ptrs (fun k => k) m) 0) (hpL es m) m (endH T fn.results.toList fun x H _ => FinU val m es' x H)) : MultOk P f rest m es val es' := by
  intro X w xs vals hxs hinj hX hent hrel
  have hwr : wr (atL m xs) (hpL es m) = inX m xs := by
    funext b
    apply propext
    constructor
    · rintro ⟨k, e1, y, _, hy, rfl⟩
      unfold atL at hy
      split at hy
      · injection hy with hy; exact ⟨k, by assumption, by rw [hy]⟩
      · cases hy
    · rintro ⟨k, hk, rfl⟩
      exact ⟨k, es k, xs k, by rw [hpL_get, if_pos hk], if_pos hk, rfl⟩
  have hat : ∀ k y, atL m xs k = some y → k < m ∧ y = xs k := fun k y hy => by
    unfold atL at hy
    split at hy
    · injection hy with hy; exact ⟨by assumption, hy.symm⟩
    · cases hy
  have hget' : ∀ k e1, hget (hpL es m) k = some e1 → k < m ∧ e1 = es k := fun k e1 he => by
    rw [hpL_get] at he
    split at he
    · injection he with he; exact ⟨by assumption, he.symm⟩
    · cases he
  have st0 : St ⟨w, inX m xs, inX m xs, X, atL m xs⟩ (atL m xs) (hpL es m) w := by
    refine ⟨rfl, rfl, rfl, Nat.le_refl _, fun _ _ _ => rfl, ⟨fun b hb => hX.1 b (.inl hb), glob_more hX.2 fun p _ h => h.elim .inl fun h => h.elim .inr .inr⟩, fun k y hy => ?_, fun k e1 y _ hy => ?_, fun n k e1 e2 y z _ _ hy hz hyz => ?_, fun k b hk => hk, fun k e1 he1 => ?_⟩
    · obtain ⟨h1, rfl⟩ := hat k y hy
      exact ⟨(hxs k h1).1, .inr ⟨k, h1, rfl⟩, (hxs k h1).2⟩
    · obtain ⟨h1, rfl⟩ := hat k y hy
      exact .inr ⟨k, h1, rfl⟩
    · obtain ⟨h1, rfl⟩ := hat n y hy
      obtain ⟨h2, rfl⟩ := hat k z hz
      exact hinj n h1 k h2 hyz
    · obtain ⟨h1, rfl⟩ := hget' k e1 he1
      rw [hwr]
      exact (hent k h1).map rfl rfl rfl rfl (if_pos h1).symm (fun _ _ => rfl) fun i _ j _ u hu => CV.rel_ext ⟨fun _ _ h => (by cases h), Nat.le_refl _, fun _ _ _ => rfl, fun _ _ h => h⟩ _ _ hu
  refine (fn_run (np := m) hwd hT hQ hm hf hb (by simpa [ptrs] using hn) h (fun k b hk => (hat k b hk).1) st0 (by rw [hwr]; exact hrel) (fun k hk => ⟨if_neg (by omega), by rw [hpL_get, if_neg (by omega)]⟩)).mono fun en w' he => ?_
  obtain ⟨v, r', y, Hf, nf, rfl, ⟨hfin, hent'⟩, st, _, hy, _⟩ := he
  have hr0 : ∀ k, k < m → r' k = some (xs k) := fun k hk => st.pin k (xs k) (if_pos hk)
  have hsrc : ∀ k, Wc.src ⟨Hf, hpL es' m, [], m, true⟩ k = if k < m then some k else none := fun k => by
    unfold Wc.src
    simp only [lookR]
    by_cases hk : k < m
    · have h2 : Nat.blt k m = true := Nat.ble_eq_true_of_le hk
      simp [h2, hk]
    · have h2 : Nat.blt k m = false := by
        cases hb : Nat.blt k m with
        | false => rfl
        | true => have := Nat.le_of_ble_eq_true hb; omega
      simp [h2, hk]
  have hren : Wc.ren ⟨Hf, hpL es' m, [], m, true⟩ r' = atL m xs := by
    funext k
    unfold Wc.ren atL
    rw [hsrc]
    by_cases hk : k < m
    · rw [if_pos hk, if_pos hk]; exact hr0 k hk
    · rw [if_neg hk, if_neg hk]
  have hlive : Wc.Live ⟨Hf, hpL es' m, [], m, true⟩ := fun k e1 he1 k0 hk0' => by
    rw [hsrc] at hk0'
    split at hk0'
    · injection hk0' with hk0'
      subst hk0'
      have := hent' k (by assumption)
      unfold WkE at this
      simp only at this
      split at this
      · rename_i e2 hh; exact ⟨e2, hh⟩
      · exact this.elim
    · cases hk0'
  have hwr2 : ∀ b, X b ∨ inX m xs b → Wc.wr ⟨Hf, hpL es' m, [], m, true⟩ ⟨w, inX m xs, inX m xs, X, atL m xs⟩ r' b := fun b hb => by
    rcases hb with hb | ⟨k, hk, hkb⟩
    · exact .inr ⟨rfl, hb⟩
    · exact .inl ⟨k, es' k, xs k, by show hget (hpL es' m) k = _; rw [hpL_get, if_pos hk], by rw [hren]; exact if_pos hk, hkb⟩
  refine ⟨v, rfl, st.os, st.tape, st.output, st.size, fun b hb hne => st.kept b hb hne, fun k hk => ?_, ?_⟩
  · have hk' := hent' k hk
    unfold WkE at hk'
    simp only at hk'
    split at hk'
    · rename_i e2 hh
      exact (st.blk k e2 hh).map hk'.t hk'.n hk'.sz hk'.v (hr0 k hk) (fun _ _ => rfl) fun i hi j' hj u hu => by
        have h1 := hk'.f i hi j' hj hlive _ r' w' u st hu
        exact CV.rel_w hwr2 _ _ (hnf k hk i (by rw [← hk'.n]; exact hi) j' (by rw [← hk'.sz]; exact hj) _ _ _ _ _ _ h1)
    · exact hk'.elim
  · have h1 := hfin hlive _ r' w' v st hy
    exact FV.rel_w hwr2 _ _ (hval _ _ _ _ _ _ h1)
end
/-- Names that are not among ks. -/
def wrNot (r : Ren) (H : Hp) (ks : Nat → Nat) (m : Nat) (b : Nat) : Prop := ∃ nm e x, hget H nm = some e ∧ r nm = some x ∧ x.b = b ∧ ∀ i, i < m → ks i ≠ nm
def ksL (ks : Nat → Nat) (m : Nat) : List Nat := (List.range m).map ks
theorem ksL_mem {ks : Nat → Nat} {m i : Nat} (h : i < m) : ks i ∈ ksL ks m := List.mem_map.2 ⟨i, List.mem_range.2 h, rfl⟩
end Go.Proofs.YtjknkfjhcapocaaDoor.AX

/- Functions that work on several variables, one of which holds a slice that is only read: their calls. -/
namespace Go.Proofs.YtjknkfjhcapocaaDoor.AX
open Go.RowKit
set_option linter.unusedVariables false
set_option linter.unusedSimpArgs false
theorem callR_mrd {P : Program} {f : FuncId} (hb : hasBody P f) {m : Nat} {ks : Nat → Nat} {rest rest' : List FV} {H : Hp} {rd : List Nat} {nm wd : Nat} {es eT eT' es' : Nat → Ent} {val : FV} (hd : ∀ i, i < m → ∀ j, j < m → ks i = ks j → i = j)
    (hk : ∀ i, i < m → hget H (ks i) = some (es i)) (hv : ∀ i, i < m → (es i).v = true) (hkr : ∀ i, i < m → ks i ∉ rd)
    (hin : ∀ i, i < m → ∀ r X W w o hp X' W', (∀ b, X' b → W b) → (∀ b, W' b → W b) → EntIn r X W w (es i) o hp → EntIn (fun _ => none) X' W' w (eT i) o hp)
    (hout : ∀ i, i < m → ∀ r X X2 W W' w o hp, (∀ b, W b → W' b) → EntIn (fun _ => none) X W' w (eT' i) o hp → EntIn r X2 W w (es' i) o hp) (hfl : FlatF val)
    (hbo : ∀ H', (∀ k ∈ rd, hget H k = hget H' k) → BoL H' rd rest rest') (h : MultOk P f rest' m eT val eT') : CallR P f (rest ++ ptrs ks m) H nm wd ⟨none, val, hpK ks es' m, ksL ks m ++ rd⟩ := by
  refine ⟨hb, fun H' hh cx r w vals st hfr _ hrel => ?_⟩
  obtain ⟨h1, h2⟩ := hbo H' (fun k hk => hh k (List.mem_append_right _ hk))
  have hk' : ∀ i, i < m → hget H' (ks i) = some (es i) := fun i hi => by rw [← hh _ (List.mem_append_left _ (ksL_mem hi))]; exact hk i hi
  have hbi : ∀ i, i < m → ∃ x, r (ks i) = some x ∧ InCells r cx.X (wr r H') w (es i) (r (ks i)) w.heap := fun i hi => by
    obtain ⟨g1, g2, g3⟩ := st.blk (ks i) (es i) (hk' i hi)
    rcases g3 with ⟨_, g4⟩ | g3 | ⟨hfit, _⟩
    · have := g2 (hv i hi); omega
    · have g4 := g3
      obtain ⟨x, cs, c1, _⟩ := g4
      exact ⟨x, c1, g3⟩
    · have hf : (es i).v = false := hfit.1
      rw [hv i hi] at hf; cases hf
  obtain ⟨xs, hxs⟩ : ∃ xs : Nat → Bi, ∀ i, i < m → r (ks i) = some (xs i) := by
    refine ⟨fun i => (r (ks i)).getD ⟨0, 0, 0⟩, fun i hi => ?_⟩
    obtain ⟨x, hx, _⟩ := hbi i hi
    show r (ks i) = some ((r (ks i)).getD ⟨0, 0, 0⟩)
    rw [hx]; rfl
  have hdom : ∀ i, i < m → (xs i).b < w.heap.size ∧ (cx.w0.heap.size ≤ (xs i).b ∨ cx.D (xs i).b) ∧ ¬ cx.X (xs i).b := fun i hi => st.dom (ks i) (xs i) (hxs i hi)
  have hsubX : ∀ b, wrNot r H' ks m b → wr r H' b := by
    rintro b ⟨k2, e2, y, he2, hy, hyb, _⟩
    exact ⟨k2, e2, y, he2, hy, hyb⟩
  have hsubW : ∀ b, inX m xs b → wr r H' b := by
    rintro b ⟨k, hk, hkb⟩
    exact ⟨ks k, es k, xs k, hk' k hk, hxs k hk, hkb⟩
  have hXlt : Xw (fun b => wrNot r H' ks m b ∨ inX m xs b) w := xw_more (st_xw st) fun b hb => .inr (hb.elim (hsubX b) (hsubW b))
  refine (h (fun b => wrNot r H' ks m b) w xs vals (fun k hkm => ⟨(hdom k hkm).1, ?_⟩) (fun i hi j hj hij => ?_) hXlt (fun k hkm => ?_) ⟨by rw [hrel.1]; simp [h1, ptrs], fun i y u hy hu => ?_⟩).mono fun en w' he => ?_
  · rintro ⟨k2, e2, y, he2, hy, hyb, hne⟩
    exact hne k hkm (st.inj (ks k) k2 (es k) e2 (xs k) y (hk' k hkm) he2 (hxs k hkm) hy hyb.symm)
  · exact hd i hi j hj (st.inj (ks i) (ks j) (es i) (es j) (xs i) (xs j) (hk' i hi) (hk' j hj) (hxs i hi) (hxs j hj) hij)
  · have h0 := st.blk (ks k) (es k) (hk' k hkm)
    rw [hxs k hkm] at h0
    exact hin k hkm r cx.X (wr r H') w (some (xs k)) w.heap _ _ hsubX hsubW h0
  · by_cases hi : i < rest'.length
    · have hy' : rest'[i]? = some y := by rw [List.getElem?_append_left hi] at hy; exact hy
      have hi' : i < rest.length := by rw [h1]; exact hi
      have h3 := h2 i _ y (List.getElem?_eq_getElem hi') hy' cx r w u st (hrel.2 i _ u (by rw [List.getElem?_append_left hi']; exact List.getElem?_eq_getElem hi') hu)
      have h4 : y.rel (atL m xs) (fun b => cx.X b ∨ wr r H' b) (wrBut r H' rd) w u := FV.rel_ext ⟨fun _ _ h => (by cases h), Nat.le_refl _, fun _ _ _ => rfl, fun _ _ h => h⟩ _ _ h3
      have h5 : y.rel (atL m xs) (fun b => cx.X b ∨ wr r H' b) (inX m xs) w u := FV.rel_w (fun b ⟨k, hkm, hkb⟩ => ⟨ks k, es k, xs k, hk' k hkm, hxs k hkm, hkb, hkr k hkm⟩) _ _ h4
      cases y with
      | top => trivial
      | e y =>
        cases y with
        | c y => exact CV.rel_sub (fun b hb => .inl (.inr (hsubX b hb))) (fun b hb => hb) _ _ h5
        | agg n g => obtain ⟨cs', e1, e2, e3⟩ := h5; exact ⟨cs', e1, e2, fun i u hu => CV.rel_sub (fun b hb => .inl (.inr (hsubX b hb))) (fun b hb => hb) _ _ (e3 i u hu)⟩
      | tup l =>
        obtain ⟨vs, e1, e2, e3⟩ := h5
        refine ⟨vs, e1, e2, fun i z u hz hu => ?_⟩
        have := e3 i z u hz hu
        cases z with
        | c z => exact CV.rel_sub (fun b hb => .inl (.inr (hsubX b hb))) (fun b hb => hb) _ _ this
        | agg n g => obtain ⟨cs', e1, e2, e3⟩ := this; exact ⟨cs', e1, e2, fun i u hu => CV.rel_sub (fun b hb => .inl (.inr (hsubX b hb))) (fun b hb => hb) _ _ (e3 i u hu)⟩
    · rw [List.getElem?_append_right (by omega)] at hy
      obtain ⟨g1, rfl⟩ := ptrs_at hy
      obtain ⟨z, hz, hzv⟩ := hrel.2 i (.e (.c (.ptr (ks (i - rest'.length)) 0 0 false))) u (by
        rw [List.getElem?_append_right (by omega), h1]
        unfold ptrs
        rw [List.getElem?_map, List.getElem?_range g1]; rfl) hu
      have hz1 := hz.1
      rw [hxs _ g1] at hz1; injection hz1 with hz1; subst hz1
      exact ⟨xs (i - rest'.length), ⟨if_pos g1, hz.2⟩, hzv⟩
  · obtain ⟨v, rfl, o1, o2, o3, o4, o5, o6, o7⟩ := he
    have hY : ∀ b, wr r H' b → wrNot r H' ks m b ∨ inX m xs b := by
      rintro b ⟨k2, e2, y, he2, hy, hyb⟩
      by_cases hk2 : ∃ i, i < m ∧ ks i = k2
      · obtain ⟨i, hi, rfl⟩ := hk2
        rw [hxs i hi] at hy; injection hy with hy; subst hy
        exact .inr ⟨i, hi, hyb⟩
      · exact .inl ⟨k2, e2, y, he2, hy, hyb, fun i hi e => hk2 ⟨i, hi, e⟩⟩
    have hl0 : ∀ i, i < m → hget (hpK ks es' m ++ H') (ks i) = some (es' i) := fun i hi => hpK_in hd i hi H'
    have hl : ∀ j, (∀ i, i < m → ks i ≠ j) → hget (hpK ks es' m ++ H') j = hget H' j := fun j hj => hpK_out hj H'
    have live : ∀ j e1, hget (hpK ks es' m ++ H') j = some e1 → ∃ e2, hget H' j = some e2 := fun j e1 hj => by
      by_cases hjk : ∃ i, i < m ∧ ks i = j
      · obtain ⟨i, hi, rfl⟩ := hjk; exact ⟨es i, hk' i hi⟩
      · rw [hl j fun i hi e => hjk ⟨i, hi, e⟩] at hj; exact ⟨e1, hj⟩
    have hwr2 : ∀ b, wr r (hpK ks es' m ++ H') b → wr r H' b := by
      rintro b ⟨j, e1, y, h1, h2, h3⟩
      obtain ⟨e2, h1⟩ := live j e1 h1
      exact ⟨j, e2, y, h1, h2, h3⟩
    have hE : Ext r (wr r H') w r (wr r (hpK ks es' m ++ H')) w' := ⟨fun _ _ h => h, o4, fun b hb hw => o5 b hb fun hbx => hw (hsubW b hbx), fun b _ hb => hwr2 b hb⟩
    refine ⟨v, rfl, r, hE, ⟨o1.trans st.os, o2.trans st.tape, o3.trans st.output, Nat.le_trans st.size o4, fun b hb hne => ?_, st.xlt, fun j y hy => ?_, fun j e1 y hj hy => ?_, fun n k e1 e2 y z h1 h2 hy hz hyz => ?_, st.pin, fun j e1 hj => ?_⟩, fun _ _ => rfl, fun j e1 hj => .inr (live j e1 hj), ?_⟩
    · rw [← st.kept b hb hne]
      refine o5 b (Nat.lt_of_lt_of_le hb st.size) ?_
      rintro ⟨k, hkm, hkb⟩
      rcases st.ow (ks k) (es k) (xs k) (hk' k hkm) (hxs k hkm) with h | h
      · omega
      · exact hne (hkb ▸ h)
    · obtain ⟨a1, a2, a3⟩ := st.dom j y hy
      exact ⟨Nat.lt_of_lt_of_le a1 o4, a2, a3⟩
    · obtain ⟨e2, hj⟩ := live j e1 hj
      exact st.ow j e2 y hj hy
    · obtain ⟨e1', h1⟩ := live n e1 h1
      obtain ⟨e2', h2⟩ := live k e2 h2
      exact st.inj n k e1' e2' y z h1 h2 hy hz hyz
    · have hj' : hget (hpK ks es' m ++ H') j = some e1 := hj
      by_cases hjk : ∃ i, i < m ∧ ks i = j
      · obtain ⟨i, hi, rfl⟩ := hjk
        rw [hl0 i hi] at hj'; injection hj' with hj'; subst hj'
        rw [hxs i hi]
        exact hout i hi r _ cx.X (wr r (hpK ks es' m ++ H')) _ w' (some (xs i)) w'.heap (fun b hb => hY b (hwr2 b hb)) (o6 i hi)
      · have hjk' : ∀ i, i < m → ks i ≠ j := fun i hi e => hjk ⟨i, hi, e⟩
        rw [hl j hjk'] at hj'
        have hold := st.old hj' rfl (w' := w') fun y hy => o5 _ (st.dom j y hy).1 (by
          rintro ⟨k, hkm, hkb⟩
          exact hjk' k hkm (st.inj (ks k) j (es k) e1 (xs k) y (hk' k hkm) hj' (hxs k hkm) hy hkb))
        exact hold.ext hE
    · exact hfl _ _ _ _ _ _ _ _ _ o7
/-! ### take: the bytes, the place, the error -/
def tmN (sh : Bool) (b : List Int) (q e : Int) : Nat → Ent := fun i =>
  bif Nat.beq i 0 then ⟨38, 1, 1, true, fun _ _ => .sl sh b.length 1 (rowF eB b)⟩ else bif Nat.beq i 1 then ⟨3, 1, 1, true, fun _ _ => .int .i64 q⟩ else ⟨42, 1, 1, true, fun _ _ => .int .i64 e⟩
def takeF (b : List Int) (q n e : Int) : Int × Int × Int := ((uintF b q n).1, q + n, if q + n ≤ b.length then e else 4)
def tmE : Entry := fun args H _ _ =>
  match args with
  | [.e (.c (.int .i64 n)), .e (.c (.ptr k0 0 0 false)), .e (.c (.ptr k1 0 0 false)), .e (.c (.ptr k2 0 0 false))] =>
    match hget H k0, hget H k1, hget H k2 with
    | some ⟨t0, n0, z0, v0, f0⟩, some ⟨t1, n1, z1, v1, f1⟩, some ⟨t2, n2, z2, v2, f2⟩ =>
      match f0 0 0, f1 0 0, f2 0 0 with
      | .sl sh ln s g, .int .i64 q, .int .i64 e =>
        bif Nat.beq t0 38 && Nat.beq n0 1 && Nat.beq z0 1 && v0 && (Nat.beq t1 3 && Nat.beq n1 1 && Nat.beq z1 1 && v1) && (Nat.beq t2 42 && Nat.beq n2 1 && Nat.beq z2 1 && v2) && Nat.beq s 1 && !(Nat.beq k0 k1) && !(Nat.beq k0 k2) && !(Nat.beq k1 k2) then
          some fun K => ∃ b : List Int, (ln = b.length ∧ g = rowF eB b ∧ (BL b ∧ b.length ≤ 140737488355328) ∧ (0 ≤ q ∧ q ≤ 100) ∧ (1 ≤ n ∧ n ≤ 8)) ∧ ∀ s, s = takeF b q n e → K ((cI .u64).enc s.1) [(k2, some (tmN false b s.2.1 s.2.2 2)), (k1, some (tmN false b s.2.1 s.2.2 1)), (k0, some (tmN false b s.2.1 s.2.2 0))] [k0, k1, k2] else none
      | _, _, _ => none
    | _, _, _ => none
  | _ => none
def k3 (k0 k1 k2 : Nat) (i : Nat) : Nat := bif Nat.beq i 0 then k0 else bif Nat.beq i 1 then k1 else k2
theorem i3 {i : Nat} (h : i < 3) : i = 0 ∨ i = 1 ∨ i = 2 := by omega
theorem beq_no {a b : Nat} (h : Nat.beq a b = false) : a ≠ b := fun e => by subst e; simp at h
theorem tmE_ok {P : Program} {f : FuncId} (hb : hasBody P f) (h : ∀ b q n e, BL b → b.length ≤ 140737488355328 → (0 ≤ q ∧ q ≤ 100) → (1 ≤ n ∧ n ≤ 8) → MultOk P f [(cI .i64).enc n] 3 (tmN true b q e) ((cI .u64).enc (takeF b q n e).1) (tmN true b (takeF b q n e).2.1 (takeF b q n e).2.2)) : EntOk P f tmE := by
  refine ⟨fun args H nm wd q _ hq K hK => ?_, fun args H nm wd q hq K K' hKK hK => ?_⟩
  · unfold tmE at hq
    split at hq
    · rename_i n k0 k1 k2
      split at hq
      · rename_i t0 n0 z0 v0 f0 t1 n1 z1 v1 f1 t2 n2 z2 v2 f2 he0 he1 he2
        split at hq
        · rename_i sh ln s g q0 e0 hg0 hg1 hg2
          obtain ⟨hc, hq⟩ := cond_some hq
          subst hq
          simp only [Bool.and_eq_true, Bool.not_eq_true'] at hc
          obtain ⟨⟨⟨⟨⟨⟨⟨⟨⟨a1, a2⟩, a3⟩, a4⟩, ⟨⟨⟨b1, b2⟩, b3⟩, b4⟩⟩, ⟨⟨⟨c1, c2⟩, c3⟩, c4⟩⟩, d1⟩, d2⟩, d3⟩, d4⟩ := hc
          have a1 := Nat.eq_of_beq_eq_true a1
          have a2 := Nat.eq_of_beq_eq_true a2
          have a3 := Nat.eq_of_beq_eq_true a3
          have b1 := Nat.eq_of_beq_eq_true b1
          have b2 := Nat.eq_of_beq_eq_true b2
          have b3 := Nat.eq_of_beq_eq_true b3
          have c1 := Nat.eq_of_beq_eq_true c1
          have c2 := Nat.eq_of_beq_eq_true c2
          have c3 := Nat.eq_of_beq_eq_true c3
          have d1 := Nat.eq_of_beq_eq_true d1
          subst a1 a2 a3 a4 b1 b2 b3 b4 c1 c2 c3 c4 d1
          have d2 := beq_no d2
          have d3 := beq_no d3
          have d4 := beq_no d4
          obtain ⟨b, ⟨h1, h2, ⟨h3, h4⟩, h5, h6⟩, hK⟩ := hK
          subst h1 h2
          have hm := h b q0 n e0 h3 h4 h5 h6
          have hx : ∀ i, i < 3 → hget H (k3 k0 k1 k2 i) = some ((fun i => bif Nat.beq i 0 then (⟨38, 1, 1, true, f0⟩ : Ent) else bif Nat.beq i 1 then ⟨3, 1, 1, true, f1⟩ else ⟨42, 1, 1, true, f2⟩) i) := fun i hi => by
            rcases i3 hi with rfl | rfl | rfl
            · exact he0
            · exact he1
            · exact he2
          refine ⟨_, _, _, callR_mrd (m := 3) (ks := k3 k0 k1 k2) (rest := [(cI .i64).enc n]) (rest' := [(cI .i64).enc n]) (rd := []) (es := fun i => bif Nat.beq i 0 then (⟨38, 1, 1, true, f0⟩ : Ent) else bif Nat.beq i 1 then ⟨3, 1, 1, true, f1⟩ else ⟨42, 1, 1, true, f2⟩) (eT := tmN true b q0 e0) (eT' := tmN true b (takeF b q0 n e0).2.1 (takeF b q0 n e0).2.2) (es' := tmN false b (takeF b q0 n e0).2.1 (takeF b q0 n e0).2.2) hb ?_ hx ?_ ?_ ?_ ?_ ?_ (fun H' hh => (AC.cons (cI .i64) AC.nil).sound H H' [(cI .i64).enc n] (n, ()) none [] rfl trivial hh) hm, hK _ rfl⟩
          · intro i hi j hj hij
            rcases i3 hi with rfl | rfl | rfl <;> rcases i3 hj with rfl | rfl | rfl <;> first | rfl | exact absurd hij d2 | exact absurd hij d3 | exact absurd hij d4 | exact absurd hij.symm d2 | exact absurd hij.symm d3 | exact absurd hij.symm d4
          · intro i hi
            rcases i3 hi with rfl | rfl | rfl <;> rfl
          · intro i hi hm
            cases hm
          · intro i hi r X W w o hp X' W' hX hW hE
            rcases i3 hi with rfl | rfl | rfl
            · refine entIn_map (e := ⟨38, 1, 1, true, f0⟩) (e' := tmN true b q0 e0 0) rfl rfl rfl rfl (fun i hi j hj u hu => ?_) hE
              have hi' : i < 1 := hi
              have hj' : j < 1 := hj
              obtain rfl : i = 0 := by omega
              obtain rfl : j = 0 := by omega
              have hu' : (f0 0 0).rel r X W w u := hu
              rw [hg0] at hu'
              exact sl_in hX hW hu'
            · refine entIn_map (e := ⟨3, 1, 1, true, f1⟩) (e' := tmN true b q0 e0 1) rfl rfl rfl rfl (fun i hi j hj u hu => ?_) hE
              have hi' : i < 1 := hi
              have hj' : j < 1 := hj
              obtain rfl : i = 0 := by omega
              obtain rfl : j = 0 := by omega
              have hu' : (f1 0 0).rel r X W w u := hu
              rw [hg1] at hu'
              exact hu'
            · refine entIn_map (e := ⟨42, 1, 1, true, f2⟩) (e' := tmN true b q0 e0 2) rfl rfl rfl rfl (fun i hi j hj u hu => ?_) hE
              have hi' : i < 1 := hi
              have hj' : j < 1 := hj
              obtain rfl : i = 0 := by omega
              obtain rfl : j = 0 := by omega
              have hu' : (f2 0 0).rel r X W w u := hu
              rw [hg2] at hu'
              exact hu'
          · intro i hi r X X2 W W' w o hp hW hE
            rcases i3 hi with rfl | rfl | rfl
            · exact entIn_map (e := tmN true b (takeF b q0 n e0).2.1 (takeF b q0 n e0).2.2 0) (e' := tmN false b (takeF b q0 n e0).2.1 (takeF b q0 n e0).2.2 0) rfl rfl rfl rfl (fun i hi j hj u hu => sl_out hW hu) hE
            · exact entIn_map (e := tmN true b (takeF b q0 n e0).2.1 (takeF b q0 n e0).2.2 1) (e' := tmN false b (takeF b q0 n e0).2.1 (takeF b q0 n e0).2.2 1) rfl rfl rfl rfl (fun i hi j hj u hu => (by exact hu)) hE
            · exact entIn_map (e := tmN true b (takeF b q0 n e0).2.1 (takeF b q0 n e0).2.2 2) (e' := tmN false b (takeF b q0 n e0).2.1 (takeF b q0 n e0).2.2 2) rfl rfl rfl rfl (fun i hi j hj u hu => (by exact hu)) hE
          · exact flatF_e (flatE_c flat_int)
        · cases hq
      · cases hq
    · cases hq
  · unfold tmE at hq
    split at hq
    · split at hq
      · split at hq
        · obtain ⟨hc, hq⟩ := cond_some hq
          subst hq
          obtain ⟨b, h1, h2⟩ := hK
          exact ⟨b, h1, fun s hs => hKK _ _ _ (h2 s hs)⟩
        · cases hq
      · cases hq
    · cases hq
end Go.Proofs.YtjknkfjhcapocaaDoor.AX

/- Compressed UDP headers are read: take, readUDP (by AX2; printed by gen/cor.py). -/
namespace Go.Proofs.YtjknkfjhcapocaaDoor.AX
open Go.RowKit
set_option linter.unusedVariables false
set_option linter.unusedSimpArgs false
def LCu : CsL := (56, some uint2E) :: []
theorem LCu_ok : AllOk Tryd.prog LCu := ⟨(LOc2_ok).1, trivial⟩
theorem uint_ok2 {b : List Int} {q n : Int} (hq : 0 ≤ q) (hn : 1 ≤ n ∧ n ≤ 8) : (uintF b q n).2 = decide (q + n ≤ b.length) := by
  unfold uintF
  by_cases h : q + n ≤ b.length
  · rw [if_pos ⟨hn.1, hn.2, hq, by omega⟩, decide_eq_true h]
  · rw [if_neg (fun g => h (by omega)), decide_eq_false h]
set_option maxHeartbeats 4000000 in
set_option maxRecDepth 20000 in
theorem tk_ok (b : List Int) (q n e : Int) (hb : BL b) (hbl : b.length ≤ 140737488355328) (hq : 0 ≤ q ∧ q ≤ 100) (hn : 1 ≤ n ∧ n ≤ 8) : MultOk Tryd.prog 65 [(cI .i64).enc n] 3 (tmN true b q e) ((cI .u64).enc (takeF b q n e).1) (tmN true b (takeF b q n e).2.1 (takeF b q n e).2.2) := by
  refine mult_intro (wd := 1) (Q := mkQ LCu) (by decide) tysOk (q_of LCu_ok) mixed Tryd.func65 rfl [(cI .i64).enc n] (by show 1 + 3 ≤ _; decide) nff_int (fun k hk => ?_) ?_
  · rcases i3 hk with rfl | rfl | rfl
    · exact fun _ _ _ _ => sl_keep
    · exact fun _ _ _ _ => nf_int
    · exact fun _ _ _ _ => nf_int
  have hu := uint_ok2 (b := b) hq.1 hn
  repeat' (first | (apply And.intro <;> intro hc <;> (first | exact Bool.noConfusion hc | (simp only [decide_eq_true_eq, decide_eq_false_iff_not, Bool.not_eq_true', Bool.not_eq_false', beq_iff_eq, beq_eq_false_iff_ne, bne_iff_ne, bne_eq_false_iff_eq, Bool.true_eq_false, Bool.false_eq_true, ne_eq, not_true_eq_false] at hc <;> first | exact absurd rfl hc | skip) | skip)) | (refine And.intro (by first | exact trivial | decide | omega | (dsimp only; omega) | exact fun _ _ => rfl | exact ⟨by assumption, by first | exact trivial | decide | omega | (dsimp only; omega)⟩) ?_) | (apply And.intro) | (intro s hs; (have q : s = uintF b q n := (hs.trans (by show uintF (toL eB b.length (rowF eB b)) q n = _; rw [toL_b])); clear hs; subst q)))
  · show BL (toL eB b.length (rowF eB b)); rw [toL_b]; exact hb
  · show (toL eB b.length (rowF eB b)).length ≤ _; rw [toL_b]; exact hbl
  · have hc2 : (uintF b q n).2 = false := by assumption
    rw [hu, decide_eq_false_iff_not] at hc2
    refine ⟨leF_int rfl, fun k hk => ?_⟩
    rcases i3 hk with rfl | rfl | rfl
    · refine leN_var ⟨trivial, ?_⟩
      exact leC_sl (fun _ => rfl) rfl rfl fun i _ j _ => leC_cell rfl
    · refine leN_var ⟨trivial, leC_int ?_⟩
      show IntKind.i64.wrap (q + n) = q + n
      exact IntWalk.i64_in _ (by omega)
    · refine leN_var ⟨trivial, leC_int ?_⟩
      show (4 : Int) = if q + n ≤ b.length then e else 4
      rw [if_neg hc2]
  · have hc2 : (uintF b q n).2 = true := by assumption
    rw [hu, decide_eq_true_eq] at hc2
    refine ⟨leF_int rfl, fun k hk => ?_⟩
    rcases i3 hk with rfl | rfl | rfl
    · refine leN_var ⟨trivial, ?_⟩
      exact leC_sl (fun _ => rfl) rfl rfl fun i _ j _ => leC_cell rfl
    · refine leN_var ⟨trivial, leC_int ?_⟩
      show IntKind.i64.wrap (q + n) = q + n
      exact IntWalk.i64_in _ (by omega)
    · refine leN_var ⟨trivial, leC_int ?_⟩
      show e = if q + n ≤ b.length then e else 4
      rw [if_pos hc2]
def LCr : CsL := (65, some tmE) :: []
theorem LCr_ok : AllOk Tryd.prog LCr := ⟨tmE_ok ⟨_, Tryd.func65, rfl, by kernel_rfl⟩ fun b q n e h1 h2 h3 h4 => tk_ok b q n e h1 h2 h3 h4, trivial⟩
abbrev UD := ((Int × Int) × Int × Int) × Int
def encUD (s : UD) : FV := .tup [.c (.int .u16 s.1.1.1), .c (.int .u16 s.1.1.2), .c (.int .u16 s.1.2.1), .c (.int .i64 s.1.2.2), .c (.int .i64 s.2)]
theorem uI_1 {b : List Int} {a : Int} {k : Nat} (e : a = k) (h : k + 1 ≤ b.length) : (uintF b a 1).1 = gB b k := by
  subst e
  unfold uintF
  rw [if_pos ⟨by decide, by decide, by omega, by omega⟩]
  show beVal ((b.drop (k : Int).toNat).take (1 : Int).toNat) = _
  rw [Int.toNat_natCast, drop_at (show k < b.length by omega)]
  show beVal [b.getD k default] = _
  rw [beVal_1]; rfl
theorem uI_2' {b : List Int} {a : Int} {k : Nat} (e : a = k) (h : k + 2 ≤ b.length) : (uintF b a 2).1 = gB b k * 256 + gB b (k + 1) := uI_2 e h
theorem ud_short {r : List Int} {k : Int} (h0 : 0 < r.length) (h : gB r 0 = 240 + k) (hk : 0 ≤ k ∧ k ≤ 3) (hl : r.length < pN k + 3) : udpD r = (((0, 0), 0, 0), 4) := by
  unfold udpD
  rw [if_neg (by omega), if_neg (by omega), if_pos (by rw [h, show 240 + k - 240 = k by omega]; exact hl)]
theorem ud_long {r : List Int} {k : Int} (h : gB r 0 = 240 + k) (hk : 0 ≤ k ∧ k ≤ 3) (hl : ¬ r.length < pN k + 3) : udpD r = (rdU k r, 0) := by
  have : 0 < r.length := by omega
  unfold udpD
  rw [if_neg (by omega), if_neg (by omega), if_neg (by rw [h, show 240 + k - 240 = k by omega]; exact hl), h, show 240 + k - 240 = k by omega]
theorem ud_bad {r : List Int} (h0 : 0 < r.length) (h : gB r 0 < 240 ∨ 243 < gB r 0) : udpD r = (((0, 0), 0, 0), 5) := by
  unfold udpD
  rw [if_neg (by omega), if_pos h]
set_option maxHeartbeats 4000000 in
set_option maxRecDepth 20000 in
theorem rdu_0 (t : List Int) (hb : BL (240 :: t)) (hbl : (240 :: t : List Int).length ≤ 140737488355328) : PureOk Tryd.prog 35 [(cSl eB eB_sz).enc (240 :: t)] (encUD (udpD (240 :: t))) := by
  obtain ⟨W, eW⟩ : ∃ W, udpD (240 :: t) = W := ⟨_, rfl⟩
  rw [eW]
  have hsh : (240 :: t : List Int).length < 7 → W = (((0, 0), 0, 0), 4) := fun h => eW.symm.trans (ud_short (k := 0) (by simp) rfl (by decide) (by show _ < 7; exact h))
  have hlo : ¬ (240 :: t : List Int).length < 7 → W = (rdU 0 (240 :: t), 0) := fun h => eW.symm.trans (ud_long (k := 0) rfl (by decide) (by show ¬ _ < 7; exact h))
  have hgr : ∀ i, 0 ≤ gB (240 :: t) i ∧ gB (240 :: t) i < 256 := fun i => gB_r hb i
  obtain ⟨v0, e0, t0, u0, z0⟩ : ∃ v e, takeF (240 :: t) 1 2 0 = (v, 3, e) ∧ ((240 :: t : List Int).length ≥ 3 → v = gB (240 :: t) 1 * 256 + gB (240 :: t) 2) ∧ e = if (1 : Int) + 2 ≤ (240 :: t : List Int).length then 0 else 4 := ⟨_, _, rfl, fun h => uI_2' (k := 1) rfl (by omega), rfl⟩
  obtain ⟨v1, e1, t1, u1, z1⟩ : ∃ v e, takeF (240 :: t) 3 2 e0 = (v, 5, e) ∧ ((240 :: t : List Int).length ≥ 5 → v = gB (240 :: t) 3 * 256 + gB (240 :: t) 4) ∧ e = if (3 : Int) + 2 ≤ (240 :: t : List Int).length then e0 else 4 := ⟨_, _, rfl, fun h => uI_2' (k := 3) rfl (by omega), rfl⟩
  obtain ⟨v2, e2, t2, u2, z2⟩ : ∃ v e, takeF (240 :: t) 5 2 e1 = (v, 7, e) ∧ ((240 :: t : List Int).length ≥ 7 → v = gB (240 :: t) 5 * 256 + gB (240 :: t) 6) ∧ e = if (5 : Int) + 2 ≤ (240 :: t : List Int).length then e1 else 4 := ⟨_, _, rfl, fun h => uI_2' (k := 5) rfl (by omega), rfl⟩
  clear eW
  have g0 : True := trivial
  have g1 : True := trivial
  have g2 : True := trivial
  refine pure_intro (wd := 1) (Q := mkQ LCr) (by decide) tysOk (q_of LCr_ok) mixed Tryd.func35 rfl _ (by show 1 ≤ _; decide) _ ?_
  repeat' (first | (apply And.intro <;> intro hc <;> (first | exact Bool.noConfusion hc | (exfalso; first | exact absurd hc (by decide) | exact absurd hc (by assumption) | exact absurd (by assumption) hc | exact absurd rfl hc) | (simp only [decide_eq_true_eq, decide_eq_false_iff_not, Bool.not_eq_true', Bool.not_eq_false', beq_iff_eq, beq_eq_false_iff_ne, bne_iff_ne, bne_eq_false_iff_eq, Bool.true_eq_false, Bool.false_eq_true, ne_eq, not_true_eq_false] at hc <;> first | exact absurd rfl hc | (exfalso; first | exact absurd hc (by decide) | exact absurd hc (by assumption) | exact absurd (by assumption) hc | exact absurd rfl hc) | skip) | skip)) | (refine And.intro (by first | exact trivial | decide | omega | (dsimp only; omega) | exact fun _ _ => rfl | exact ⟨by assumption, by first | exact trivial | decide | omega | (dsimp only; omega)⟩) ?_) | (apply And.intro) | (refine Exists.intro (240 :: t) (And.intro ⟨rfl, rfl, by first | exact ⟨⟨hb, hbl⟩, ⟨of_decide_eq_true rfl, of_decide_eq_true rfl⟩, of_decide_eq_true rfl, of_decide_eq_true rfl⟩⟩ ?_)) | (intro s hs; (first | (clear g0; have q : (v0, (3 : Int), e0) = s := (hs.trans t0).symm; clear hs; subst q) | (clear g1; have q : (v1, (5 : Int), e1) = s := (hs.trans t1).symm; clear hs; subst q) | (clear g2; have q : (v2, (7 : Int), e2) = s := (hs.trans t2).symm; clear hs; subst q))))
  all_goals first
    | exact of_decide_eq_true rfl
    | exact Nat.le_of_ble_eq_true rfl
    | skip
  · by_cases h : (240 :: t : List Int).length < 7
    · rw [hsh h]
      have he : e2 = 4 := by rw [z2, if_neg (by omega)]
      exact Done.mk (leF_tup ⟨leC_int rfl, leC_int rfl, leC_int rfl, leC_int rfl, leC_int he, trivial⟩)
    · exfalso
      have he : e2 = 0 := by rw [z2, if_pos (by omega), z1, if_pos (by omega), z0, if_pos (by omega)]
      have hx : ¬ e2 = 0 := by assumption
      exact hx he
  · have h : ¬ (240 :: t : List Int).length < 7 := fun h => by
      have he : e2 = 4 := by rw [z2, if_neg (by omega)]
      have hx : e2 = 0 := by assumption
      omega
    have r1 := hgr 1
    have r2 := hgr 2
    have r3 := hgr 3
    have r4 := hgr 4
    have r5 := hgr 5
    have r6 := hgr 6
    have y0 := u0 (by omega)
    have y1 := u1 (by omega)
    have y2 := u2 (by omega)
    have f0 : IntKind.u16.wrap (IntKind.u64.wrap (v0 + 0)) = gB (240 :: t) 1 * 256 + gB (240 :: t) 2 := by rw [IntWalk.u64_in _ (by omega), IntWalk.u16_in _ (by omega)]; omega
    have f1 : IntKind.u16.wrap (IntKind.u64.wrap (v1 + 0)) = gB (240 :: t) 3 * 256 + gB (240 :: t) 4 := by rw [IntWalk.u64_in _ (by omega), IntWalk.u16_in _ (by omega)]; omega
    have f2 : IntKind.u16.wrap v2 = gB (240 :: t) 5 * 256 + gB (240 :: t) 6 := by rw [IntWalk.u16_in _ (by omega)]; omega
    rw [hlo h]
    exact Done.mk (leF_tup ⟨leC_int f0, leC_int f1, leC_int f2, leC_int rfl, leC_int rfl, trivial⟩)
set_option maxHeartbeats 4000000 in
set_option maxRecDepth 20000 in
theorem rdu_1 (t : List Int) (hb : BL (241 :: t)) (hbl : (241 :: t : List Int).length ≤ 140737488355328) : PureOk Tryd.prog 35 [(cSl eB eB_sz).enc (241 :: t)] (encUD (udpD (241 :: t))) := by
  obtain ⟨W, eW⟩ : ∃ W, udpD (241 :: t) = W := ⟨_, rfl⟩
  rw [eW]
  have hsh : (241 :: t : List Int).length < 6 → W = (((0, 0), 0, 0), 4) := fun h => eW.symm.trans (ud_short (k := 1) (by simp) rfl (by decide) (by show _ < 6; exact h))
  have hlo : ¬ (241 :: t : List Int).length < 6 → W = (rdU 1 (241 :: t), 0) := fun h => eW.symm.trans (ud_long (k := 1) rfl (by decide) (by show ¬ _ < 6; exact h))
  have hgr : ∀ i, 0 ≤ gB (241 :: t) i ∧ gB (241 :: t) i < 256 := fun i => gB_r hb i
  obtain ⟨v0, e0, t0, u0, z0⟩ : ∃ v e, takeF (241 :: t) 1 2 0 = (v, 3, e) ∧ ((241 :: t : List Int).length ≥ 3 → v = gB (241 :: t) 1 * 256 + gB (241 :: t) 2) ∧ e = if (1 : Int) + 2 ≤ (241 :: t : List Int).length then 0 else 4 := ⟨_, _, rfl, fun h => uI_2' (k := 1) rfl (by omega), rfl⟩
  obtain ⟨v1, e1, t1, u1, z1⟩ : ∃ v e, takeF (241 :: t) 3 1 e0 = (v, 4, e) ∧ ((241 :: t : List Int).length ≥ 4 → v = gB (241 :: t) 3) ∧ e = if (3 : Int) + 1 ≤ (241 :: t : List Int).length then e0 else 4 := ⟨_, _, rfl, fun h => uI_1 (k := 3) rfl (by omega), rfl⟩
  obtain ⟨v2, e2, t2, u2, z2⟩ : ∃ v e, takeF (241 :: t) 4 2 e1 = (v, 6, e) ∧ ((241 :: t : List Int).length ≥ 6 → v = gB (241 :: t) 4 * 256 + gB (241 :: t) 5) ∧ e = if (4 : Int) + 2 ≤ (241 :: t : List Int).length then e1 else 4 := ⟨_, _, rfl, fun h => uI_2' (k := 4) rfl (by omega), rfl⟩
  clear eW
  have g0 : True := trivial
  have g1 : True := trivial
  have g2 : True := trivial
  refine pure_intro (wd := 1) (Q := mkQ LCr) (by decide) tysOk (q_of LCr_ok) mixed Tryd.func35 rfl _ (by show 1 ≤ _; decide) _ ?_
  repeat' (first | (apply And.intro <;> intro hc <;> (first | exact Bool.noConfusion hc | (exfalso; first | exact absurd hc (by decide) | exact absurd hc (by assumption) | exact absurd (by assumption) hc | exact absurd rfl hc) | (simp only [decide_eq_true_eq, decide_eq_false_iff_not, Bool.not_eq_true', Bool.not_eq_false', beq_iff_eq, beq_eq_false_iff_ne, bne_iff_ne, bne_eq_false_iff_eq, Bool.true_eq_false, Bool.false_eq_true, ne_eq, not_true_eq_false] at hc <;> first | exact absurd rfl hc | (exfalso; first | exact absurd hc (by decide) | exact absurd hc (by assumption) | exact absurd (by assumption) hc | exact absurd rfl hc) | skip) | skip)) | (refine And.intro (by first | exact trivial | decide | omega | (dsimp only; omega) | exact fun _ _ => rfl | exact ⟨by assumption, by first | exact trivial | decide | omega | (dsimp only; omega)⟩) ?_) | (apply And.intro) | (refine Exists.intro (241 :: t) (And.intro ⟨rfl, rfl, by first | exact ⟨⟨hb, hbl⟩, ⟨of_decide_eq_true rfl, of_decide_eq_true rfl⟩, of_decide_eq_true rfl, of_decide_eq_true rfl⟩⟩ ?_)) | (intro s hs; (first | (clear g0; have q : (v0, (3 : Int), e0) = s := (hs.trans t0).symm; clear hs; subst q) | (clear g1; have q : (v1, (4 : Int), e1) = s := (hs.trans t1).symm; clear hs; subst q) | (clear g2; have q : (v2, (6 : Int), e2) = s := (hs.trans t2).symm; clear hs; subst q))))
  all_goals first
    | exact of_decide_eq_true rfl
    | exact Nat.le_of_ble_eq_true rfl
    | skip
  · by_cases h : (241 :: t : List Int).length < 6
    · rw [hsh h]
      have he : e2 = 4 := by rw [z2, if_neg (by omega)]
      exact Done.mk (leF_tup ⟨leC_int rfl, leC_int rfl, leC_int rfl, leC_int rfl, leC_int he, trivial⟩)
    · exfalso
      have he : e2 = 0 := by rw [z2, if_pos (by omega), z1, if_pos (by omega), z0, if_pos (by omega)]
      have hx : ¬ e2 = 0 := by assumption
      exact hx he
  · have h : ¬ (241 :: t : List Int).length < 6 := fun h => by
      have he : e2 = 4 := by rw [z2, if_neg (by omega)]
      have hx : e2 = 0 := by assumption
      omega
    have r1 := hgr 1
    have r2 := hgr 2
    have r3 := hgr 3
    have r4 := hgr 4
    have r5 := hgr 5
    have r6 := hgr 6
    have y0 := u0 (by omega)
    have y1 := u1 (by omega)
    have y2 := u2 (by omega)
    have f0 : IntKind.u16.wrap (IntKind.u64.wrap (v0 + 0)) = gB (241 :: t) 1 * 256 + gB (241 :: t) 2 := by rw [IntWalk.u64_in _ (by omega), IntWalk.u16_in _ (by omega)]; omega
    have f1 : IntKind.u16.wrap (IntKind.u64.wrap (v1 + 61440)) = 240 * 256 + gB (241 :: t) 3 := by rw [IntWalk.u64_in _ (by omega), IntWalk.u16_in _ (by omega)]; omega
    have f2 : IntKind.u16.wrap v2 = gB (241 :: t) 4 * 256 + gB (241 :: t) 5 := by rw [IntWalk.u16_in _ (by omega)]; omega
    rw [hlo h]
    exact Done.mk (leF_tup ⟨leC_int f0, leC_int f1, leC_int f2, leC_int rfl, leC_int rfl, trivial⟩)
set_option maxHeartbeats 4000000 in
set_option maxRecDepth 20000 in
theorem rdu_2 (t : List Int) (hb : BL (242 :: t)) (hbl : (242 :: t : List Int).length ≤ 140737488355328) : PureOk Tryd.prog 35 [(cSl eB eB_sz).enc (242 :: t)] (encUD (udpD (242 :: t))) := by
  obtain ⟨W, eW⟩ : ∃ W, udpD (242 :: t) = W := ⟨_, rfl⟩
  rw [eW]
  have hsh : (242 :: t : List Int).length < 6 → W = (((0, 0), 0, 0), 4) := fun h => eW.symm.trans (ud_short (k := 2) (by simp) rfl (by decide) (by show _ < 6; exact h))
  have hlo : ¬ (242 :: t : List Int).length < 6 → W = (rdU 2 (242 :: t), 0) := fun h => eW.symm.trans (ud_long (k := 2) rfl (by decide) (by show ¬ _ < 6; exact h))
  have hgr : ∀ i, 0 ≤ gB (242 :: t) i ∧ gB (242 :: t) i < 256 := fun i => gB_r hb i
  obtain ⟨v0, e0, t0, u0, z0⟩ : ∃ v e, takeF (242 :: t) 1 1 0 = (v, 2, e) ∧ ((242 :: t : List Int).length ≥ 2 → v = gB (242 :: t) 1) ∧ e = if (1 : Int) + 1 ≤ (242 :: t : List Int).length then 0 else 4 := ⟨_, _, rfl, fun h => uI_1 (k := 1) rfl (by omega), rfl⟩
  obtain ⟨v1, e1, t1, u1, z1⟩ : ∃ v e, takeF (242 :: t) 2 2 e0 = (v, 4, e) ∧ ((242 :: t : List Int).length ≥ 4 → v = gB (242 :: t) 2 * 256 + gB (242 :: t) 3) ∧ e = if (2 : Int) + 2 ≤ (242 :: t : List Int).length then e0 else 4 := ⟨_, _, rfl, fun h => uI_2' (k := 2) rfl (by omega), rfl⟩
  obtain ⟨v2, e2, t2, u2, z2⟩ : ∃ v e, takeF (242 :: t) 4 2 e1 = (v, 6, e) ∧ ((242 :: t : List Int).length ≥ 6 → v = gB (242 :: t) 4 * 256 + gB (242 :: t) 5) ∧ e = if (4 : Int) + 2 ≤ (242 :: t : List Int).length then e1 else 4 := ⟨_, _, rfl, fun h => uI_2' (k := 4) rfl (by omega), rfl⟩
  clear eW
  have g0 : True := trivial
  have g1 : True := trivial
  have g2 : True := trivial
  refine pure_intro (wd := 1) (Q := mkQ LCr) (by decide) tysOk (q_of LCr_ok) mixed Tryd.func35 rfl _ (by show 1 ≤ _; decide) _ ?_
  repeat' (first | (apply And.intro <;> intro hc <;> (first | exact Bool.noConfusion hc | (exfalso; first | exact absurd hc (by decide) | exact absurd hc (by assumption) | exact absurd (by assumption) hc | exact absurd rfl hc) | (simp only [decide_eq_true_eq, decide_eq_false_iff_not, Bool.not_eq_true', Bool.not_eq_false', beq_iff_eq, beq_eq_false_iff_ne, bne_iff_ne, bne_eq_false_iff_eq, Bool.true_eq_false, Bool.false_eq_true, ne_eq, not_true_eq_false] at hc <;> first | exact absurd rfl hc | (exfalso; first | exact absurd hc (by decide) | exact absurd hc (by assumption) | exact absurd (by assumption) hc | exact absurd rfl hc) | skip) | skip)) | (refine And.intro (by first | exact trivial | decide | omega | (dsimp only; omega) | exact fun _ _ => rfl | exact ⟨by assumption, by first | exact trivial | decide | omega | (dsimp only; omega)⟩) ?_) | (apply And.intro) | (refine Exists.intro (242 :: t) (And.intro ⟨rfl, rfl, by first | exact ⟨⟨hb, hbl⟩, ⟨of_decide_eq_true rfl, of_decide_eq_true rfl⟩, of_decide_eq_true rfl, of_decide_eq_true rfl⟩⟩ ?_)) | (intro s hs; (first | (clear g0; have q : (v0, (2 : Int), e0) = s := (hs.trans t0).symm; clear hs; subst q) | (clear g1; have q : (v1, (4 : Int), e1) = s := (hs.trans t1).symm; clear hs; subst q) | (clear g2; have q : (v2, (6 : Int), e2) = s := (hs.trans t2).symm; clear hs; subst q))))
  all_goals first
    | exact of_decide_eq_true rfl
    | exact Nat.le_of_ble_eq_true rfl
    | skip
  · by_cases h : (242 :: t : List Int).length < 6
    · rw [hsh h]
      have he : e2 = 4 := by rw [z2, if_neg (by omega)]
      exact Done.mk (leF_tup ⟨leC_int rfl, leC_int rfl, leC_int rfl, leC_int rfl, leC_int he, trivial⟩)
    · exfalso
      have he : e2 = 0 := by rw [z2, if_pos (by omega), z1, if_pos (by omega), z0, if_pos (by omega)]
      have hx : ¬ e2 = 0 := by assumption
      exact hx he
  · have h : ¬ (242 :: t : List Int).length < 6 := fun h => by
      have he : e2 = 4 := by rw [z2, if_neg (by omega)]
      have hx : e2 = 0 := by assumption
      omega
    have r1 := hgr 1
    have r2 := hgr 2
    have r3 := hgr 3
    have r4 := hgr 4
    have r5 := hgr 5
    have r6 := hgr 6
    have y0 := u0 (by omega)
    have y1 := u1 (by omega)
    have y2 := u2 (by omega)
    have f0 : IntKind.u16.wrap (IntKind.u64.wrap (v0 + 61440)) = 240 * 256 + gB (242 :: t) 1 := by rw [IntWalk.u64_in _ (by omega), IntWalk.u16_in _ (by omega)]; omega
    have f1 : IntKind.u16.wrap (IntKind.u64.wrap (v1 + 0)) = gB (242 :: t) 2 * 256 + gB (242 :: t) 3 := by rw [IntWalk.u64_in _ (by omega), IntWalk.u16_in _ (by omega)]; omega
    have f2 : IntKind.u16.wrap v2 = gB (242 :: t) 4 * 256 + gB (242 :: t) 5 := by rw [IntWalk.u16_in _ (by omega)]; omega
    rw [hlo h]
    exact Done.mk (leF_tup ⟨leC_int f0, leC_int f1, leC_int f2, leC_int rfl, leC_int rfl, trivial⟩)
set_option maxHeartbeats 4000000 in
set_option maxRecDepth 20000 in
theorem rdu_3 (t : List Int) (hb : BL (243 :: t)) (hbl : (243 :: t : List Int).length ≤ 140737488355328) : PureOk Tryd.prog 35 [(cSl eB eB_sz).enc (243 :: t)] (encUD (udpD (243 :: t))) := by
  obtain ⟨W, eW⟩ : ∃ W, udpD (243 :: t) = W := ⟨_, rfl⟩
  rw [eW]
  have hsh : (243 :: t : List Int).length < 4 → W = (((0, 0), 0, 0), 4) := fun h => eW.symm.trans (ud_short (k := 3) (by simp) rfl (by decide) (by show _ < 4; exact h))
  have hlo : ¬ (243 :: t : List Int).length < 4 → W = (rdU 3 (243 :: t), 0) := fun h => eW.symm.trans (ud_long (k := 3) rfl (by decide) (by show ¬ _ < 4; exact h))
  have hgr : ∀ i, 0 ≤ gB (243 :: t) i ∧ gB (243 :: t) i < 256 := fun i => gB_r hb i
  obtain ⟨v0, e0, t0, u0, z0⟩ : ∃ v e, takeF (243 :: t) 1 1 0 = (v, 2, e) ∧ ((243 :: t : List Int).length ≥ 2 → v = gB (243 :: t) 1) ∧ e = if (1 : Int) + 1 ≤ (243 :: t : List Int).length then 0 else 4 := ⟨_, _, rfl, fun h => uI_1 (k := 1) rfl (by omega), rfl⟩
  obtain ⟨v1, e1, t1, u1, z1⟩ : ∃ v e, takeF (243 :: t) 2 2 e0 = (v, 4, e) ∧ ((243 :: t : List Int).length ≥ 4 → v = gB (243 :: t) 2 * 256 + gB (243 :: t) 3) ∧ e = if (2 : Int) + 2 ≤ (243 :: t : List Int).length then e0 else 4 := ⟨_, _, rfl, fun h => uI_2' (k := 2) rfl (by omega), rfl⟩
  clear eW
  have g0 : True := trivial
  have g1 : True := trivial
  refine pure_intro (wd := 1) (Q := mkQ LCr) (by decide) tysOk (q_of LCr_ok) mixed Tryd.func35 rfl _ (by show 1 ≤ _; decide) _ ?_
  repeat' (first | (apply And.intro <;> intro hc <;> (first | exact Bool.noConfusion hc | (exfalso; first | exact absurd hc (by decide) | exact absurd hc (by assumption) | exact absurd (by assumption) hc | exact absurd rfl hc) | (simp only [decide_eq_true_eq, decide_eq_false_iff_not, Bool.not_eq_true', Bool.not_eq_false', beq_iff_eq, beq_eq_false_iff_ne, bne_iff_ne, bne_eq_false_iff_eq, Bool.true_eq_false, Bool.false_eq_true, ne_eq, not_true_eq_false] at hc <;> first | exact absurd rfl hc | (exfalso; first | exact absurd hc (by decide) | exact absurd hc (by assumption) | exact absurd (by assumption) hc | exact absurd rfl hc) | skip) | skip)) | (refine And.intro (by first | exact trivial | decide | omega | (dsimp only; omega) | exact fun _ _ => rfl | exact ⟨by assumption, by first | exact trivial | decide | omega | (dsimp only; omega)⟩) ?_) | (apply And.intro) | (refine Exists.intro (243 :: t) (And.intro ⟨rfl, rfl, by first | exact ⟨⟨hb, hbl⟩, ⟨of_decide_eq_true rfl, of_decide_eq_true rfl⟩, of_decide_eq_true rfl, of_decide_eq_true rfl⟩⟩ ?_)) | (intro s hs; (first | (clear g0; have q : (v0, (2 : Int), e0) = s := (hs.trans t0).symm; clear hs; subst q) | (clear g1; have q : (v1, (4 : Int), e1) = s := (hs.trans t1).symm; clear hs; subst q))))
  all_goals first
    | exact of_decide_eq_true rfl
    | exact Nat.le_of_ble_eq_true rfl
    | skip
  · by_cases h : (243 :: t : List Int).length < 4
    · rw [hsh h]
      have he : e1 = 4 := by rw [z1, if_neg (by omega)]
      exact Done.mk (leF_tup ⟨leC_int rfl, leC_int rfl, leC_int rfl, leC_int rfl, leC_int he, trivial⟩)
    · exfalso
      have he : e1 = 0 := by rw [z1, if_pos (by omega), z0, if_pos (by omega)]
      have hx : ¬ e1 = 0 := by assumption
      exact hx he
  · have h : ¬ (243 :: t : List Int).length < 4 := fun h => by
      have he : e1 = 4 := by rw [z1, if_neg (by omega)]
      have hx : e1 = 0 := by assumption
      omega
    have r1 := hgr 1
    have r2 := hgr 2
    have r3 := hgr 3
    have r4 := hgr 4
    have r5 := hgr 5
    have r6 := hgr 6
    have y0 := u0 (by omega)
    have y1 := u1 (by omega)
    have d0 : v0.tdiv 16 = v0 / 16 := Int.tdiv_eq_ediv_of_nonneg (by omega)
    have d1 : v0.tmod 16 = v0 % 16 := Int.tmod_eq_emod_of_nonneg (by omega)
    have f0 : IntKind.u16.wrap (IntKind.u64.wrap (61616 + IntKind.u64.wrap (v0.tdiv 16))) = 240 * 256 + (176 + gB (243 :: t) 1 / 16) := by rw [d0, IntWalk.u64_in (v0 / 16) (by omega)]; rw [IntWalk.u64_in _ (by omega), IntWalk.u16_in _ (by omega)]; omega
    have f1 : IntKind.u16.wrap (IntKind.u64.wrap (61616 + v0.tmod 16)) = 240 * 256 + (176 + gB (243 :: t) 1 % 16) := by rw [d1]; rw [IntWalk.u64_in _ (by omega), IntWalk.u16_in _ (by omega)]; omega
    have f2 : IntKind.u16.wrap v1 = gB (243 :: t) 2 * 256 + gB (243 :: t) 3 := by rw [IntWalk.u16_in _ (by omega)]; omega
    rw [hlo h]
    exact Done.mk (leF_tup ⟨leC_int f0, leC_int f1, leC_int f2, leC_int rfl, leC_int rfl, trivial⟩)
set_option maxHeartbeats 4000000 in
set_option maxRecDepth 20000 in
theorem rdu_n : PureOk Tryd.prog 35 [(cSl eB eB_sz).enc []] (encUD (udpD [])) := by
  refine pure_intro (wd := 1) (Q := mkQ LCr) (by decide) tysOk (q_of LCr_ok) mixed Tryd.func35 rfl _ (by show 1 ≤ _; decide) _ ?_
  repeat' (first | (apply And.intro <;> intro hc <;> (first | exact Bool.noConfusion hc | (simp only [decide_eq_true_eq, decide_eq_false_iff_not, Bool.not_eq_true', Bool.not_eq_false', beq_iff_eq, beq_eq_false_iff_ne, bne_iff_ne, bne_eq_false_iff_eq, Bool.true_eq_false, Bool.false_eq_true] at hc) | skip)) | (refine And.intro (by first | exact trivial | decide | omega | (dsimp only; omega) | exact fun _ _ => rfl) ?_) | (apply And.intro) | (intro s hs))
  all_goals first
    | exact Done.mk (leF_tup ⟨leC_int rfl, leC_int rfl, leC_int rfl, leC_int rfl, leC_int rfl, trivial⟩)
    | skip
set_option maxHeartbeats 4000000 in
set_option maxRecDepth 20000 in
theorem rdu_x (x : Int) (t : List Int) (hx : x < 240 ∨ 243 < x) : PureOk Tryd.prog 35 [(cSl eB eB_sz).enc (x :: t)] (encUD (udpD (x :: t))) := by
  have e := ud_bad (r := x :: t) (by simp) hx
  rw [e]
  have hl : ¬ ((x :: t : List Int).length : Int) = 0 := by simp only [List.length_cons]; omega
  have hl1 : (0 : Int) < ((x :: t : List Int).length : Int) := by simp only [List.length_cons]; omega
  rcases hx with hx | hx
  · refine pure_intro (wd := 1) (Q := mkQ LCr) (by decide) tysOk (q_of LCr_ok) mixed Tryd.func35 rfl _ (by show 1 ≤ _; decide) _ ?_
    repeat' (first | (apply And.intro <;> intro hc <;> (first | exact Bool.noConfusion hc | (exfalso; first | exact absurd hc hl | exact absurd hx hc) | (simp only [decide_eq_true_eq, decide_eq_false_iff_not, Bool.not_eq_true', Bool.not_eq_false', beq_iff_eq, beq_eq_false_iff_ne, bne_iff_ne, bne_eq_false_iff_eq, Bool.true_eq_false, Bool.false_eq_true, ne_eq, not_true_eq_false] at hc <;> first | exact absurd rfl hc | (exfalso; first | exact absurd hc hl | exact absurd hx hc) | skip) | skip)) | (refine And.intro (by first | exact trivial | decide | omega | (dsimp only; omega) | exact fun _ _ => rfl | exact ⟨by assumption, by first | exact trivial | decide | omega | (dsimp only; omega)⟩) ?_) | (apply And.intro) | (intro s hs; skip))
    all_goals first
      | exact Done.mk (leF_tup ⟨leC_int rfl, leC_int rfl, leC_int rfl, leC_int rfl, leC_int rfl, trivial⟩)
      | exact Nat.le_of_ble_eq_true rfl
      | skip
  · refine pure_intro (wd := 1) (Q := mkQ LCr) (by decide) tysOk (q_of LCr_ok) mixed Tryd.func35 rfl _ (by show 1 ≤ _; decide) _ ?_
    repeat' (first | (apply And.intro <;> intro hc <;> (first | exact Bool.noConfusion hc | (exfalso; first | exact absurd hc hl | exact absurd hx hc | (have h2 : x < 240 := hc; exact absurd h2 (by omega))) | (simp only [decide_eq_true_eq, decide_eq_false_iff_not, Bool.not_eq_true', Bool.not_eq_false', beq_iff_eq, beq_eq_false_iff_ne, bne_iff_ne, bne_eq_false_iff_eq, Bool.true_eq_false, Bool.false_eq_true, ne_eq, not_true_eq_false] at hc <;> first | exact absurd rfl hc | (exfalso; first | exact absurd hc hl | exact absurd hx hc | (have h2 : x < 240 := hc; exact absurd h2 (by omega))) | skip) | skip)) | (refine And.intro (by first | exact trivial | decide | omega | (dsimp only; omega) | exact fun _ _ => rfl | exact ⟨by assumption, by first | exact trivial | decide | omega | (dsimp only; omega)⟩) ?_) | (apply And.intro) | (intro s hs; skip))
    all_goals first
      | exact Done.mk (leF_tup ⟨leC_int rfl, leC_int rfl, leC_int rfl, leC_int rfl, leC_int rfl, trivial⟩)
      | exact Nat.le_of_ble_eq_true rfl
      | skip
theorem readUDP_ok (b : List Int) (hb : BL b) (hbl : b.length ≤ 140737488355328) : PureOk Tryd.prog 35 [(cSl eB eB_sz).enc b] (encUD (udpD b)) := by
  match b, hb, hbl with
  | [], _, _ => exact rdu_n
  | x :: t, hb, hbl =>
    by_cases h : x < 240 ∨ 243 < x
    · exact rdu_x x t h
    · have h4 : x = 240 ∨ x = 241 ∨ x = 242 ∨ x = 243 := by omega
      rcases h4 with rfl | rfl | rfl | rfl
      · exact rdu_0 t hb hbl
      · exact rdu_1 t hb hbl
      · exact rdu_2 t hb hbl
      · exact rdu_3 t hb hbl
end Go.Proofs.YtjknkfjhcapocaaDoor.AX

/- The maker of the closure that finds a context, as one step. -/
namespace Go.Proofs.YtjknkfjhcapocaaDoor.AX
open Go.RowKit
set_option linter.unusedVariables false
set_option linter.unusedSimpArgs false
def finderV (k1 nm k2 : Nat) (f1 f2 : Bool) : CV := .fn 61 0 3 (nth [.ptr k1 0 0 f1, .ptr nm 0 0 false, .ptr k2 0 0 f2])
def idBox (id : Int) : Ent := ⟨3, 1, 1, true, fun _ _ => .int .i64 id⟩
theorem mkf_run (id : Int) (k1 k2 nm wd : Nat) (f1 f2 : Bool) (K : FV → Hp → List Nat → Prop) (h : 4 ≤ wd) (h1 : k1 < nm) (h2 : k2 < nm) (hK : K (one (finderV k1 nm k2 f1 f2)) [(nm, some (idBox id))] []) : exec T (mkQ LRd3) 1 Tryd.f60.ntmps nm (Tryd.f60.body.getD Code.ret) (argFr [one (.int .i64 id), one (.ptr k1 0 0 f1), one (.ptr k2 0 0 f2)] 0) [] nm (endH T Tryd.f60.results.toList fun x Hf nf => (Nat.ble nf (nm + wd) = true ∧ plainH nm Hf = true ∧ plainV x = true) ∧ K x Hf []) := by
  repeat' (first | (apply And.intro <;> intro hc <;> (first | exact Bool.noConfusion hc | (simp only [decide_eq_true_eq, decide_eq_false_iff_not, Bool.not_eq_true', Bool.not_eq_false', beq_iff_eq, beq_eq_false_iff_ne, bne_iff_ne, bne_eq_false_iff_eq, Bool.true_eq_false, Bool.false_eq_true] at hc) | skip)) | (refine And.intro (by first | exact trivial | decide | omega | (dsimp only; omega) | exact fun _ _ => rfl) ?_) | (apply And.intro) | (intro s hs))
  · exact Nat.ble_eq_true_of_le (by omega)
  · show (Nat.ble nm nm && true && true) = true
    rw [Nat.ble_eq_true_of_le (Nat.le_refl nm)]
    rfl
  · rfl
  · exact hK
def mkf2E : Entry := fun args _ nm wd =>
  match args with
  | [.e (.c (.int .i64 id)), .e (.c (.ptr k1 0 0 f1)), .e (.c (.ptr k2 0 0 f2))] => bif Nat.blt k1 nm && Nat.blt k2 nm && Nat.ble 4 wd then some fun K => K (one (finderV k1 nm k2 f1 f2)) [(nm, some (idBox id))] [] else none
  | _ => none
theorem mkf2E_ok : EntOk Tryd.prog 60 mkf2E := by
  refine ⟨fun args H nm wd q hwd hq K hK => ?_, fun args H nm wd q hq K K' hKK hK => ?_⟩
  · unfold mkf2E at hq
    split at hq
    · rename_i id k1 f1 k2 f2
      obtain ⟨hb, hq⟩ := cond_some hq
      subst hq
      rw [Bool.and_eq_true, Bool.and_eq_true] at hb
      have b1 : k1 < nm := Nat.le_of_ble_eq_true hb.1.1
      have b2 : k2 < nm := Nat.le_of_ble_eq_true hb.1.2
      have b3 : 4 ≤ wd := Nat.le_of_ble_eq_true hb.2
      have hall : ([FV.e (.c (.int .i64 id)), .e (.c (.ptr k1 0 0 f1)), .e (.c (.ptr k2 0 0 f2))] : List FV).all (argLt nm) = true := by
        show (true && (Nat.blt k1 nm && (Nat.blt k2 nm && true))) = true
        rw [hb.1.1, hb.1.2]; rfl
      have h5 := mkfE_ok.ok [FV.e (.c (.int .i64 id)), .e (.c (.ptr k1 0 0 f1)), .e (.c (.ptr k2 0 0 f2))] H nm wd
      unfold mkfE inl0E at h5
      rw [hall] at h5
      exact h5 _ hwd rfl K ⟨rfl, mkf_run id k1 k2 nm wd f1 f2 K b3 b1 b2 hK⟩
    · cases hq
  · unfold mkf2E at hq
    split at hq
    · obtain ⟨hb, hq⟩ := cond_some hq
      subst hq
      exact hKK _ _ _ hK
    · cases hq
def LRd5 : CsL := (60, some mkf2E) :: (63, some uniRE) :: (64, some grpRE) :: LRd3
theorem LRd5_ok : AllOk Tryd.prog LRd5 := ⟨mkf2E_ok, rdE_ok ⟨_, Tryd.func63, rfl, by kernel_rfl⟩ (fun r => encRA_flat r) fun b q a h => uniR_ok b q a.1 a.2.1 a.2.2.1 a.2.2.2.1.1 a.2.2.2.1.2.1 a.2.2.2.1.2.2 h.1 h.2.1 h.2.2, rdE_ok ⟨_, Tryd.func64, rfl, by kernel_rfl⟩ (fun r => encRA_flat r) fun b q a h => grpR_ok b q a.1 h.1 h.2, LRd3_ok⟩
end Go.Proofs.YtjknkfjhcapocaaDoor.AX

/- Layer 14 by AX2: Decode of the program. (Printed by gen/rddec.py.) -/
namespace Go.Proofs.YtjknkfjhcapocaaDoor.AX
open Go.RowKit
set_option linter.unusedVariables false
set_option linter.unusedSimpArgs false
set_option maxHeartbeats 8000000 in
set_option maxRecDepth 20000 in
theorem dec_ok0 (b : List Int) (f t : Adr) (l : List Ctx) (now : Int) (hb : BL b) (hbl : b.length ≤ 140737488355328) (hl : bytesL l) (hsk : bits .and .i64 (startF b 0).1.1.2.1 64 = 0 ∨ ¬ bits .and .i64 (shrI .i64 (startF b 0).1.1.2.1 4) 3 = 0) : PureOk Tryd.prog 34 [(cSl eB eB_sz).enc b, (cE eAdr).enc f, (cE eAdr).enc t, (cSl eCtx eCtx_sz).enc l, (cI .i64).enc now] (encDec (decI b f t l now)) := by
  have r0 : RdOk b 0 := ⟨hb, hbl, Int.le_refl 0, Int.natCast_nonneg _⟩
  have r1 := startF_r r0
  have r2 := fieldsD_r (x := (startF b 0).1.1.1) r1
  have sv := startF_v (q := 0) hb
  obtain ⟨W, hW⟩ : ∃ W, decI b f t l now = W := ⟨_, rfl⟩
  rw [hW]
  obtain ⟨Ck, eC⟩ : ∃ x, checkF f t l now = x := ⟨_, rfl⟩
  obtain ⟨S, eS⟩ : ∃ x, startF b 0 = x := ⟨_, rfl⟩
  rw [eS] at r1 r2 sv hsk
  obtain ⟨F, eF⟩ : ∃ x, fieldsD b S.1.1.1 S.2 = x := ⟨_, rfl⟩
  rw [eF] at r2
  have e0 : ¬ Ck = 0 → W = (((zeroH, []), 0), Ck) := fun h => by rw [← hW]; exact decI_0 eC h
  have e1 : Ck = 0 → ¬ S.1.2 = 0 → W = (((zeroH, []), 0), S.1.2) := fun h g => by rw [← hW]; exact decI_e (eC.trans h) (read_1 eS g) rfl g
  have e2 : Ck = 0 → S.1.2 = 0 → ¬ F.1.2 = 0 → W = (((zeroH, []), 0), F.1.2) := fun h g i => by rw [← hW]; exact decI_e (eC.trans h) (read_2 eS eF g i) rfl i
  obtain ⟨X, eU⟩ : ∃ x, uniD b (bits .and .i64 S.1.1.2.1 64 != 0) (bits .and .i64 (shrI .i64 S.1.1.2.1 4) 3) f (forDec l (shrI .i64 S.1.1.2.2 4) now) F.2 = x := ⟨_, rfl⟩
  have r3 : RdOk b X.2 := by rw [← eU]; exact uniD_r r2
  have hX : S.1.2 = 0 → srcD b S.1.1.2.1 S.1.1.2.2 f l now F.2 = X := fun g => by
    obtain ⟨p1, p2, p3, p4, p5, p6, p7⟩ := raw_of (sv g).y
    obtain ⟨_, _, _, _, _, p8, p9⟩ := raw_of (sv g).ids
    rw [← eU, p1, p4, p8]
    rw [p4] at hsk
    unfold srcD
    refine if_pos (hsk.imp (fun h => ?_) id)
    rw [← p1, h]
    rfl
  have rm : S.1.2 = 0 → (0 ≤ bits .and .i64 S.1.1.2.1 3 ∧ bits .and .i64 S.1.1.2.1 3 ≤ 3) ∧ 0 ≤ bits .and .i64 (shrI .i64 S.1.1.2.1 4) 3 ∧ bits .and .i64 (shrI .i64 S.1.1.2.1 4) 3 ≤ 3 := fun g => by
    obtain ⟨p1, p2, p3, p4, p5, p6, p7⟩ := raw_of (sv g).y
    rw [p4, p5]
    omega
  obtain ⟨G, eG⟩ : ∃ x, grpD b (bits .and .i64 S.1.1.2.1 3) X.2 = x := ⟨_, rfl⟩
  obtain ⟨D, eD⟩ : ∃ x, uniD b (bits .and .i64 S.1.1.2.1 4 != 0) (bits .and .i64 S.1.1.2.1 3) t (forDec l (bits .and .i64 S.1.1.2.2 15) now) X.2 = x := ⟨_, rfl⟩
  have hG : S.1.2 = 0 → ¬ bits .and .i64 S.1.1.2.1 8 = 0 → dstD b S.1.1.2.1 S.1.1.2.2 t l now X.2 = G := fun g k => by
    obtain ⟨p1, p2, p3, p4, p5, p6, p7⟩ := raw_of (sv g).y
    rw [← eG, p5]
    unfold dstD
    exact if_pos (p3.symm.trans (by simpa using k))
  have hD : S.1.2 = 0 → bits .and .i64 S.1.1.2.1 8 = 0 → dstD b S.1.1.2.1 S.1.1.2.2 t l now X.2 = D := fun g k => by
    obtain ⟨p1, p2, p3, p4, p5, p6, p7⟩ := raw_of (sv g).y
    obtain ⟨_, _, _, _, _, p8, p9⟩ := raw_of (sv g).ids
    rw [← eD, p2, p5, p9]
    unfold dstD
    refine if_neg (fun h => ?_)
    rw [← p3, k] at h
    cases h
  have e3 : Ck = 0 → S.1.2 = 0 → F.1.2 = 0 → ¬ X.1.2 = 0 → W = (((zeroH, []), 0), X.1.2) := fun h g i x => by rw [← hW]; exact decI_e (eC.trans h) (read_3 eS eF (hX g) g i x) rfl x
  have e4G : Ck = 0 → S.1.2 = 0 → F.1.2 = 0 → X.1.2 = 0 → ¬ bits .and .i64 S.1.1.2.1 8 = 0 → ¬ G.1.2 = 0 → W = (((zeroH, []), 0), G.1.2) := fun h g i x k m => by rw [← hW]; exact decI_e (eC.trans h) (read_4 eS eF (hX g) (hG g k) g i x m) rfl m
  have e5G : Ck = 0 → S.1.2 = 0 → F.1.2 = 0 → X.1.2 = 0 → ¬ bits .and .i64 S.1.1.2.1 8 = 0 → G.1.2 = 0 → W = ((({ F.1.1 with src := X.1.1, dst := G.1.1 }, []), G.2), 0) := fun h g i x k m => by rw [← hW]; exact decI_v (eC.trans h) (read_5 eS eF (hX g) (hG g k) g i x m)
  have e4D : Ck = 0 → S.1.2 = 0 → F.1.2 = 0 → X.1.2 = 0 → bits .and .i64 S.1.1.2.1 8 = 0 → ¬ D.1.2 = 0 → W = (((zeroH, []), 0), D.1.2) := fun h g i x k m => by rw [← hW]; exact decI_e (eC.trans h) (read_4 eS eF (hX g) (hD g k) g i x m) rfl m
  have e5D : Ck = 0 → S.1.2 = 0 → F.1.2 = 0 → X.1.2 = 0 → bits .and .i64 S.1.1.2.1 8 = 0 → D.1.2 = 0 → W = ((({ F.1.1 with src := X.1.1, dst := D.1.1 }, []), D.2), 0) := fun h g i x k m => by rw [← hW]; exact decI_v (eC.trans h) (read_5 eS eF (hX g) (hD g k) g i x m)
  clear hX hG hD hW
  have g1 : True := trivial
  have g2 : True := trivial
  have g3 : True := trivial
  have g4 : True := trivial
  have g5 : True := trivial
  have g6 : True := trivial
  have g7 : True := trivial
  refine pure_intro (wd := 8) (Q := mkQ LRd5) (by decide) tysOk (q_of LRd5_ok) mixed Tryd.func34 rfl _ (by show 5 ≤ _; decide) _ ?_
  repeat' (first | (apply And.intro <;> intro hc <;> (first | exact Bool.noConfusion hc | (exfalso; first | exact absurd rfl hc | exact absurd hc (by assumption) | exact absurd (by assumption) hc | exact hsk.elim (fun h => absurd h (by assumption)) (fun h => h hc)) | (simp only [decide_eq_true_eq, decide_eq_false_iff_not, Bool.not_eq_true', Bool.not_eq_false', beq_iff_eq, beq_eq_false_iff_ne, bne_iff_ne, bne_eq_false_iff_eq, Bool.true_eq_false, Bool.false_eq_true, ne_eq, not_true_eq_false] at hc <;> first | exact absurd rfl hc | (exfalso; first | exact absurd rfl hc | exact absurd hc (by assumption) | exact absurd (by assumption) hc | exact hsk.elim (fun h => absurd h (by assumption)) (fun h => h hc)) | skip) | skip)) | (refine And.intro (by first | exact trivial | decide | omega | (dsimp only; omega) | exact fun _ _ => rfl | exact ⟨by assumption, by first | exact trivial | decide | omega | (dsimp only; omega)⟩) ?_) | (apply And.intro) | (refine Exists.intro b (And.intro ⟨rfl, rfl, by first | exact r0 | exact ⟨by assumption, (sv (by assumption)).x⟩ | assumption | exact ⟨by assumption, (rm (by assumption)).1⟩ | exact ⟨by assumption, Eq.mp (congrArg bytesL (toL_ctx l).symm) hl, (rm (by assumption)).1⟩ | exact ⟨by assumption, Eq.mp (congrArg bytesL (toL_ctx l).symm) hl, (rm (by assumption)).2⟩⟩ ?_)) | (intro s hs; (first | (clear g1; have q : Ck = s := (hs.trans ((congr (congr (congrArg (fun a b c => checkF a b c now) (rd_adr f)) (rd_adr t)) (toL_ctx l)).trans eC)).symm; clear hs; subst q) | (clear g2; have q : S = s := (hs.trans eS).symm; clear hs; subst q) | (clear g3; have q : F = s := (hs.trans eF).symm; clear hs; subst q) | (clear g4; have q : X = s := (hs.trans ((congr (congrArg (fun k l => uniD b (bits .and .i64 S.1.1.2.1 64 != 0) (bits .and .i64 (shrI .i64 S.1.1.2.1 4) 3) k (forDec l (shrI .i64 S.1.1.2.2 4) now) F.2) (rd_adr f)) (toL_ctx l)).trans eU)).symm; clear hs; subst q) | (clear g5; have q : G = s := (hs.trans eG).symm; clear hs; subst q) | (clear g6; have q : D = s := (hs.trans ((congr (congrArg (fun k l => uniD b (bits .and .i64 S.1.1.2.1 4 != 0) (bits .and .i64 S.1.1.2.1 3) k (forDec l (bits .and .i64 S.1.1.2.2 15) now) X.2) (rd_adr t)) (toL_ctx l)).trans eD)).symm; clear hs; subst q) | skip)))
  all_goals try (first | exact rfl | exact Nat.le_of_ble_eq_true rfl | exact fun _ => rfl)
  all_goals first
    | (show (toL eCtx l.length _).length ≤ _; rw [toL_len]; have := hl.n; omega)
    | (rw [e0 (by assumption)]
       refine Done.mk (leF_tup ⟨leE_tail rfl (fun j hj => ?_) (leC_nils_sl rfl), leC_int rfl, leC_int rfl, trivial⟩)
       iterate 38 (rcases j with _ | j; exact leC_int rfl)
       exact absurd hj (by show ¬ _ < 38; omega))
    | (rw [e1 (by assumption) (by assumption)]
       refine Done.mk (leF_tup ⟨leE_tail rfl (fun j hj => ?_) (leC_nils_sl rfl), leC_int rfl, leC_int rfl, trivial⟩)
       iterate 38 (rcases j with _ | j; exact leC_int rfl)
       exact absurd hj (by show ¬ _ < 38; omega))
    | (rw [e2 (by assumption) (by assumption) (by assumption)]
       refine Done.mk (leF_tup ⟨leE_tail rfl (fun j hj => ?_) (leC_nils_sl rfl), leC_int rfl, leC_int rfl, trivial⟩)
       iterate 38 (rcases j with _ | j; exact leC_int rfl)
       exact absurd hj (by show ¬ _ < 38; omega))
    | (rw [e3 (by assumption) (by assumption) (by assumption) (by assumption)]
       refine Done.mk (leF_tup ⟨leE_tail rfl (fun j hj => ?_) (leC_nils_sl rfl), leC_int rfl, leC_int rfl, trivial⟩)
       iterate 38 (rcases j with _ | j; exact leC_int rfl)
       exact absurd hj (by show ¬ _ < 38; omega))
    | (rw [e4G (by assumption) (by assumption) (by assumption) (by assumption) (by assumption) (by assumption)]
       refine Done.mk (leF_tup ⟨leE_tail rfl (fun j hj => ?_) (leC_nils_sl rfl), leC_int rfl, leC_int rfl, trivial⟩)
       iterate 38 (rcases j with _ | j; exact leC_int rfl)
       exact absurd hj (by show ¬ _ < 38; omega))
    | (rw [e5G (by assumption) (by assumption) (by assumption) (by assumption) (by assumption) (by assumption)]
       refine Done.mk (leF_tup ⟨leE_tail rfl (fun j hj => ?_) (leC_nils_sl rfl), leC_int rfl, leC_int rfl, trivial⟩)
       iterate 38 (rcases j with _ | j; exact leC_int rfl)
       exact absurd hj (by show ¬ _ < 38; omega))
    | (rw [e4D (by assumption) (by assumption) (by assumption) (by assumption) (by assumption) (by assumption)]
       refine Done.mk (leF_tup ⟨leE_tail rfl (fun j hj => ?_) (leC_nils_sl rfl), leC_int rfl, leC_int rfl, trivial⟩)
       iterate 38 (rcases j with _ | j; exact leC_int rfl)
       exact absurd hj (by show ¬ _ < 38; omega))
    | (rw [e5D (by assumption) (by assumption) (by assumption) (by assumption) (by assumption) (by assumption)]
       refine Done.mk (leF_tup ⟨leE_tail rfl (fun j hj => ?_) (leC_nils_sl rfl), leC_int rfl, leC_int rfl, trivial⟩)
       iterate 38 (rcases j with _ | j; exact leC_int rfl)
       exact absurd hj (by show ¬ _ < 38; omega))
    | skip
set_option maxHeartbeats 8000000 in
set_option maxRecDepth 20000 in
theorem dec_ok1 (b : List Int) (f t : Adr) (l : List Ctx) (now : Int) (hb : BL b) (hbl : b.length ≤ 140737488355328) (hl : bytesL l) (hsk : ¬ bits .and .i64 (startF b 0).1.1.2.1 64 = 0 ∧ bits .and .i64 (shrI .i64 (startF b 0).1.1.2.1 4) 3 = 0) : PureOk Tryd.prog 34 [(cSl eB eB_sz).enc b, (cE eAdr).enc f, (cE eAdr).enc t, (cSl eCtx eCtx_sz).enc l, (cI .i64).enc now] (encDec (decI b f t l now)) := by
  have r0 : RdOk b 0 := ⟨hb, hbl, Int.le_refl 0, Int.natCast_nonneg _⟩
  have r1 := startF_r r0
  have r2 := fieldsD_r (x := (startF b 0).1.1.1) r1
  have sv := startF_v (q := 0) hb
  obtain ⟨W, hW⟩ : ∃ W, decI b f t l now = W := ⟨_, rfl⟩
  rw [hW]
  obtain ⟨Ck, eC⟩ : ∃ x, checkF f t l now = x := ⟨_, rfl⟩
  obtain ⟨S, eS⟩ : ∃ x, startF b 0 = x := ⟨_, rfl⟩
  rw [eS] at r1 r2 sv hsk
  obtain ⟨F, eF⟩ : ∃ x, fieldsD b S.1.1.1 S.2 = x := ⟨_, rfl⟩
  rw [eF] at r2
  have e0 : ¬ Ck = 0 → W = (((zeroH, []), 0), Ck) := fun h => by rw [← hW]; exact decI_0 eC h
  have e1 : Ck = 0 → ¬ S.1.2 = 0 → W = (((zeroH, []), 0), S.1.2) := fun h g => by rw [← hW]; exact decI_e (eC.trans h) (read_1 eS g) rfl g
  have e2 : Ck = 0 → S.1.2 = 0 → ¬ F.1.2 = 0 → W = (((zeroH, []), 0), F.1.2) := fun h g i => by rw [← hW]; exact decI_e (eC.trans h) (read_2 eS eF g i) rfl i
  have r3 := r2
  have hs0 : F.1.1.src = zeroA := by rw [← eF]; exact fieldsD_src b _ _
  have hX : S.1.2 = 0 → srcD b S.1.1.2.1 S.1.1.2.2 f l now F.2 = ((zeroA, 0), F.2) := fun g => by
    obtain ⟨p1, p2, p3, p4, p5, p6, p7⟩ := raw_of (sv g).y
    rw [p4] at hsk
    unfold srcD
    refine if_neg (fun h => h.elim (fun h => ?_) (fun h => h hsk.2))
    rw [← p1] at h
    exact hsk.1 (by simpa using h)
  have rm : S.1.2 = 0 → (0 ≤ bits .and .i64 S.1.1.2.1 3 ∧ bits .and .i64 S.1.1.2.1 3 ≤ 3) ∧ 0 ≤ bits .and .i64 (shrI .i64 S.1.1.2.1 4) 3 ∧ bits .and .i64 (shrI .i64 S.1.1.2.1 4) 3 ≤ 3 := fun g => by
    obtain ⟨p1, p2, p3, p4, p5, p6, p7⟩ := raw_of (sv g).y
    rw [p4, p5]
    omega
  obtain ⟨G, eG⟩ : ∃ x, grpD b (bits .and .i64 S.1.1.2.1 3) F.2 = x := ⟨_, rfl⟩
  obtain ⟨D, eD⟩ : ∃ x, uniD b (bits .and .i64 S.1.1.2.1 4 != 0) (bits .and .i64 S.1.1.2.1 3) t (forDec l (bits .and .i64 S.1.1.2.2 15) now) F.2 = x := ⟨_, rfl⟩
  have hG : S.1.2 = 0 → ¬ bits .and .i64 S.1.1.2.1 8 = 0 → dstD b S.1.1.2.1 S.1.1.2.2 t l now F.2 = G := fun g k => by
    obtain ⟨p1, p2, p3, p4, p5, p6, p7⟩ := raw_of (sv g).y
    rw [← eG, p5]
    unfold dstD
    exact if_pos (p3.symm.trans (by simpa using k))
  have hD : S.1.2 = 0 → bits .and .i64 S.1.1.2.1 8 = 0 → dstD b S.1.1.2.1 S.1.1.2.2 t l now F.2 = D := fun g k => by
    obtain ⟨p1, p2, p3, p4, p5, p6, p7⟩ := raw_of (sv g).y
    obtain ⟨_, _, _, _, _, p8, p9⟩ := raw_of (sv g).ids
    rw [← eD, p2, p5, p9]
    unfold dstD
    refine if_neg (fun h => ?_)
    rw [← p3, k] at h
    cases h
  have e4G : Ck = 0 → S.1.2 = 0 → F.1.2 = 0 → ¬ bits .and .i64 S.1.1.2.1 8 = 0 → ¬ G.1.2 = 0 → W = (((zeroH, []), 0), G.1.2) := fun h g i k m => by rw [← hW]; exact decI_e (eC.trans h) (read_4 eS eF (hX g) (hG g k) g i rfl m) rfl m
  have e5G : Ck = 0 → S.1.2 = 0 → F.1.2 = 0 → ¬ bits .and .i64 S.1.1.2.1 8 = 0 → G.1.2 = 0 → W = ((({ F.1.1 with src := F.1.1.src, dst := G.1.1 }, []), G.2), 0) := fun h g i k m => by rw [← hW, hs0]; exact decI_v (eC.trans h) (read_5 eS eF (hX g) (hG g k) g i rfl m)
  have e4D : Ck = 0 → S.1.2 = 0 → F.1.2 = 0 → bits .and .i64 S.1.1.2.1 8 = 0 → ¬ D.1.2 = 0 → W = (((zeroH, []), 0), D.1.2) := fun h g i k m => by rw [← hW]; exact decI_e (eC.trans h) (read_4 eS eF (hX g) (hD g k) g i rfl m) rfl m
  have e5D : Ck = 0 → S.1.2 = 0 → F.1.2 = 0 → bits .and .i64 S.1.1.2.1 8 = 0 → D.1.2 = 0 → W = ((({ F.1.1 with src := F.1.1.src, dst := D.1.1 }, []), D.2), 0) := fun h g i k m => by rw [← hW, hs0]; exact decI_v (eC.trans h) (read_5 eS eF (hX g) (hD g k) g i rfl m)
  clear hX hG hD hW
  have g1 : True := trivial
  have g2 : True := trivial
  have g3 : True := trivial
  have g4 : True := trivial
  have g5 : True := trivial
  have g6 : True := trivial
  have g7 : True := trivial
  refine pure_intro (wd := 8) (Q := mkQ LRd5) (by decide) tysOk (q_of LRd5_ok) mixed Tryd.func34 rfl _ (by show 5 ≤ _; decide) _ ?_
  repeat' (first | (apply And.intro <;> intro hc <;> (first | exact Bool.noConfusion hc | (exfalso; first | exact absurd rfl hc | exact absurd hc (by assumption) | exact absurd (by assumption) hc | exact absurd hc hsk.1 | exact absurd hsk.2 hc) | (simp only [decide_eq_true_eq, decide_eq_false_iff_not, Bool.not_eq_true', Bool.not_eq_false', beq_iff_eq, beq_eq_false_iff_ne, bne_iff_ne, bne_eq_false_iff_eq, Bool.true_eq_false, Bool.false_eq_true, ne_eq, not_true_eq_false] at hc <;> first | exact absurd rfl hc | (exfalso; first | exact absurd rfl hc | exact absurd hc (by assumption) | exact absurd (by assumption) hc | exact absurd hc hsk.1 | exact absurd hsk.2 hc) | skip) | skip)) | (refine And.intro (by first | exact trivial | decide | omega | (dsimp only; omega) | exact fun _ _ => rfl | exact ⟨by assumption, by first | exact trivial | decide | omega | (dsimp only; omega)⟩) ?_) | (apply And.intro) | (refine Exists.intro b (And.intro ⟨rfl, rfl, by first | exact r0 | exact ⟨by assumption, (sv (by assumption)).x⟩ | assumption | exact ⟨by assumption, (rm (by assumption)).1⟩ | exact ⟨by assumption, Eq.mp (congrArg bytesL (toL_ctx l).symm) hl, (rm (by assumption)).1⟩ | exact ⟨by assumption, Eq.mp (congrArg bytesL (toL_ctx l).symm) hl, (rm (by assumption)).2⟩⟩ ?_)) | (intro s hs; (first | (clear g1; have q : Ck = s := (hs.trans ((congr (congr (congrArg (fun a b c => checkF a b c now) (rd_adr f)) (rd_adr t)) (toL_ctx l)).trans eC)).symm; clear hs; subst q) | (clear g2; have q : S = s := (hs.trans eS).symm; clear hs; subst q) | (clear g3; have q : F = s := (hs.trans eF).symm; clear hs; subst q) | (clear g5; have q : G = s := (hs.trans eG).symm; clear hs; subst q) | (clear g6; have q : D = s := (hs.trans ((congr (congrArg (fun k l => uniD b (bits .and .i64 S.1.1.2.1 4 != 0) (bits .and .i64 S.1.1.2.1 3) k (forDec l (bits .and .i64 S.1.1.2.2 15) now) F.2) (rd_adr t)) (toL_ctx l)).trans eD)).symm; clear hs; subst q) | skip)))
  all_goals try (first | exact rfl | exact Nat.le_of_ble_eq_true rfl | exact fun _ => rfl)
  all_goals first
    | (show (toL eCtx l.length _).length ≤ _; rw [toL_len]; have := hl.n; omega)
    | (rw [e0 (by assumption)]
       refine Done.mk (leF_tup ⟨leE_tail rfl (fun j hj => ?_) (leC_nils_sl rfl), leC_int rfl, leC_int rfl, trivial⟩)
       iterate 38 (rcases j with _ | j; exact leC_int rfl)
       exact absurd hj (by show ¬ _ < 38; omega))
    | (rw [e1 (by assumption) (by assumption)]
       refine Done.mk (leF_tup ⟨leE_tail rfl (fun j hj => ?_) (leC_nils_sl rfl), leC_int rfl, leC_int rfl, trivial⟩)
       iterate 38 (rcases j with _ | j; exact leC_int rfl)
       exact absurd hj (by show ¬ _ < 38; omega))
    | (rw [e2 (by assumption) (by assumption) (by assumption)]
       refine Done.mk (leF_tup ⟨leE_tail rfl (fun j hj => ?_) (leC_nils_sl rfl), leC_int rfl, leC_int rfl, trivial⟩)
       iterate 38 (rcases j with _ | j; exact leC_int rfl)
       exact absurd hj (by show ¬ _ < 38; omega))
    | (rw [e4G (by assumption) (by assumption) (by assumption) (by assumption) (by assumption)]
       refine Done.mk (leF_tup ⟨leE_tail rfl (fun j hj => ?_) (leC_nils_sl rfl), leC_int rfl, leC_int rfl, trivial⟩)
       iterate 38 (rcases j with _ | j; exact leC_int rfl)
       exact absurd hj (by show ¬ _ < 38; omega))
    | (rw [e5G (by assumption) (by assumption) (by assumption) (by assumption) (by assumption)]
       refine Done.mk (leF_tup ⟨leE_tail rfl (fun j hj => ?_) (leC_nils_sl rfl), leC_int rfl, leC_int rfl, trivial⟩)
       iterate 38 (rcases j with _ | j; exact leC_int rfl)
       exact absurd hj (by show ¬ _ < 38; omega))
    | (rw [e4D (by assumption) (by assumption) (by assumption) (by assumption) (by assumption)]
       refine Done.mk (leF_tup ⟨leE_tail rfl (fun j hj => ?_) (leC_nils_sl rfl), leC_int rfl, leC_int rfl, trivial⟩)
       iterate 38 (rcases j with _ | j; exact leC_int rfl)
       exact absurd hj (by show ¬ _ < 38; omega))
    | (rw [e5D (by assumption) (by assumption) (by assumption) (by assumption) (by assumption)]
       refine Done.mk (leF_tup ⟨leE_tail rfl (fun j hj => ?_) (leC_nils_sl rfl), leC_int rfl, leC_int rfl, trivial⟩)
       iterate 38 (rcases j with _ | j; exact leC_int rfl)
       exact absurd hj (by show ¬ _ < 38; omega))
    | skip
theorem decodeI_ok (b : List Int) (f t : Adr) (l : List Ctx) (now : Int) (hb : BL b) (hbl : b.length ≤ 140737488355328) (hl : bytesL l) : PureOk Tryd.prog 34 [(cSl eB eB_sz).enc b, (cE eAdr).enc f, (cE eAdr).enc t, (cSl eCtx eCtx_sz).enc l, (cI .i64).enc now] (encDec (decI b f t l now)) := by
  by_cases h : ¬ bits .and .i64 (startF b 0).1.1.2.1 64 = 0 ∧ bits .and .i64 (shrI .i64 (startF b 0).1.1.2.1 4) 3 = 0
  · exact dec_ok1 b f t l now hb hbl hl h
  · refine dec_ok0 b f t l now hb hbl hl ?_
    by_cases h1 : bits .and .i64 (startF b 0).1.1.2.1 64 = 0
    · exact .inl h1
    · exact .inr fun h2 => h ⟨h1, h2⟩
abbrev decIE : Entry := pureE (AC.cons (cSl eB eB_sz) (AC.cons (cE eAdr) (AC.cons (cE eAdr) (AC.cons (cSl eCtx eCtx_sz) (AC.cons (cI .i64) AC.nil))))) (fun a => BL a.1 ∧ a.1.length ≤ 140737488355328 ∧ bytesL a.2.2.2.1) (fun a => decI a.1 a.2.1 a.2.2.1 a.2.2.2.1 a.2.2.2.2.1) encDec
theorem decIE_ok : EntOk Tryd.prog 34 decIE := pureE_ok ⟨_, Tryd.func34, rfl, by kernel_rfl⟩ fun a h => decodeI_ok a.1 a.2.1 a.2.2.1 a.2.2.2.1 a.2.2.2.2.1 h.1 h.2.1 h.2.2
end Go.Proofs.YtjknkfjhcapocaaDoor.AX

/- Compressed packets are read: Decode (by AX2). -/
namespace Go.Proofs.YtjknkfjhcapocaaDoor.AX
open Go.RowKit
set_option linter.unusedVariables false
set_option linter.unusedSimpArgs false
abbrev udE : Entry := pureE (AC.cons (cSl eB eB_sz) AC.nil) (fun a => BL a.1 ∧ a.1.length ≤ 140737488355328) (fun a => udpD a.1) encUD
def LCd : CsL := (33, some decE) :: (34, some decIE) :: (35, some udE) :: (36, some sizeE) :: (37, some sumE) :: []
theorem LCd_ok : AllOk Tryd.prog LCd := ⟨pureE_ok ⟨_, Tryd.func33, rfl, by kernel_rfl⟩ fun a h => pdecode_ok a.1 h.1 h.2, decIE_ok, pureE_ok ⟨_, Tryd.func35, rfl, by kernel_rfl⟩ fun a h => readUDP_ok a.1 h.1 h.2, pureE_ok ⟨_, Tryd.func36, rfl, by kernel_rfl⟩ fun a h => size_ok a.1 h, pureE_ok ⟨_, Tryd.func37, rfl, by kernel_rfl⟩ fun a h => psum_ok a.1 h.1 h.2, trivial⟩
theorem decI_pay' (b : List Int) (f t : Adr) (l : List Ctx) (now : Int) : (decI b f t l now).1.1.2 = [] := by
  unfold decI
  split
  · rfl
  · split <;> rfl
theorem fin_3 {p : Pkt} {m : Int} (h : 1280 < sizeP p) : finC p m = (pk0, 3) := if_pos h
theorem fin_6 {p : Pkt} {m : Int} (h : ¬ 1280 < sizeP p) (hu : p.1.nxt = 17) (hm : ¬ m = sumP p) : finC p m = (pk0, 6) := by unfold finC; rw [if_neg h, if_pos ⟨hu, hm⟩]
theorem fin_0 {p : Pkt} {m : Int} (h : ¬ 1280 < sizeP p) (hm : p.1.nxt = 17 → m = sumP p) : finC p m = (p, 0) := by unfold finC; rw [if_neg h, if_neg (fun g => g.2 (hm g.1))]
theorem restU {h : Hdr} {r : List Int} (hu : h.nxt = 17) {U : ((Int × Int) × Int × Int) × Int} (eU : udpD r = U) (h0 : U.2 = 0) : restC h r = finC ({ h with sp := U.1.1.1, dp := U.1.1.2 }, r.drop U.1.2.2.toNat) U.1.2.1 := by
  subst eU
  unfold restC
  rw [if_pos hu, if_pos h0]
theorem restU' {h : Hdr} {r : List Int} (hu : h.nxt = 17) {U : ((Int × Int) × Int × Int) × Int} (eU : udpD r = U) (h0 : ¬ U.2 = 0) : restC h r = (pk0, U.2) := by
  subst eU
  unfold restC
  rw [if_pos hu, if_neg h0]
theorem restN {h : Hdr} {r : List Int} (hu : ¬ h.nxt = 17) : restC h r = finC (h, r) 0 := if_neg hu
theorem decC_1 {b : List Int} {f t : Adr} {l : List Ctx} {now : Int} (h : ¬ b.length = 0) (h1 : gB b 0 = 65) : decC b f t l now = decF (b.drop 1) := by unfold decC; rw [if_neg h, if_pos h1]
theorem decC_2 {b : List Int} {f t : Adr} {l : List Ctx} {now : Int} (h : ¬ b.length = 0) (h1 : ¬ gB b 0 = 65) {D : (Pkt × Int) × Int} (eD : decI b f t l now = D) (h2 : ¬ D.2 = 0) : decC b f t l now = (pk0, D.2) := by subst eD; unfold decC; rw [if_neg h, if_neg h1, if_neg h2]
theorem decC_3 {b : List Int} {f t : Adr} {l : List Ctx} {now : Int} (h : ¬ b.length = 0) (h1 : ¬ gB b 0 = 65) {D : (Pkt × Int) × Int} (eD : decI b f t l now = D) (h2 : D.2 = 0) : decC b f t l now = restC D.1.1.1 (b.drop D.1.2.toNat) := by subst eD; unfold decC; rw [if_neg h, if_neg h1, if_pos h2]
theorem toL_drd (b : List Int) (a n : Nat) (h1 : a ≤ b.length) (h2 : n ≤ b.length - a) : (toL eB (b.length - a - n) fun i => rowF eB b (a + (n + i))) = (b.drop a).drop n := by
  have e : (fun i => rowF eB b (a + (n + i))) = fun i => rowF eB b (a + n + i) := by funext i; rw [Nat.add_assoc]
  rw [e, Nat.sub_sub, toL_dr b (a + n) (by omega), List.drop_drop]
theorem isRow_od {z : Nat → Nat → CV} {m : Nat} {b : List Int} {a : Nat} (hn : b.length - a ≤ m) : IsRow (fun k j => ovE z 0 m (fun i => rowF eB b (a + i)) (0 + k) j) (b.drop a) :=
  isRow_ov (by rw [List.length_drop]; omega) fun k hk => by
    show CV.int .u8 (b.getD (a + k) default) = _
    rw [List.getD_eq_getElem?_getD, List.getD_eq_getElem?_getD, List.getElem?_drop]
theorem isRow_odd {z : Nat → Nat → CV} {m : Nat} {b : List Int} {a n : Nat} (hn : b.length - a - n ≤ m) : IsRow (fun k j => ovE z 0 m (fun i => (fun i => rowF eB b (a + i)) (n + i)) (0 + k) j) ((b.drop a).drop n) :=
  isRow_ov (by rw [List.length_drop, List.length_drop]; omega) fun k hk => by
    show CV.int .u8 (b.getD (a + (n + k)) default) = _
    rw [List.getD_eq_getElem?_getD, List.getD_eq_getElem?_getD, List.getElem?_drop, List.getElem?_drop]
set_option maxHeartbeats 8000000 in
set_option maxRecDepth 20000 in
theorem cdec_ok (b : List Int) (f t : Adr) (l : List Ctx) (now : Int) (hb : BL b) (hbl : b.length ≤ 140737488355328) (hl : bytesL l) : PureOk Tryd.prog 17 [(cSl eB eB_sz).enc b, (cE eAdr).enc f, (cE eAdr).enc t, (cSl eCtx eCtx_sz).enc l, (cI .i64).enc now] (encPE (decC b f t l now)) := by
  obtain ⟨W, eW⟩ : ∃ W, decC b f t l now = W := ⟨_, rfl⟩
  rw [eW]
  obtain ⟨hH, hlo, hhi⟩ := decI_w (f := f) (t := t) (now := now) hb hbl hl
  have hpay := decI_pay' b f t l now
  obtain ⟨D, eD⟩ : ∃ D, decI b f t l now = D := ⟨_, rfl⟩
  rw [eD] at hH hlo hhi hpay
  have e0 : b.length = 0 → W = (pk0, 4) := fun h => by rw [← eW]; exact if_pos h
  have e1 : ¬ b.length = 0 → gB b 0 = 65 → W = decF (b.drop 1) := fun h g => by rw [← eW]; exact decC_1 h g
  have e2 : ¬ b.length = 0 → ¬ gB b 0 = 65 → ¬ D.2 = 0 → W = (pk0, D.2) := fun h g i => by rw [← eW]; exact decC_2 h g eD i
  have e3 : ¬ b.length = 0 → ¬ gB b 0 = 65 → D.2 = 0 → W = restC D.1.1.1 (b.drop D.1.2.toNat) := fun h g i => by rw [← eW]; exact decC_3 h g eD i
  obtain ⟨R, eR⟩ : ∃ R, b.drop D.1.2.toNat = R := ⟨_, rfl⟩
  have hR : BL R := by rw [← eR]; exact hb.drop _
  have hRl : R.length = b.length - D.1.2.toNat := by rw [← eR]; exact List.length_drop ..
  have hU := udpD_w hR
  have hn := udpD_n hR
  obtain ⟨U, eU⟩ : ∃ U, udpD R = U := ⟨_, rfl⟩
  rw [eU] at hU hn
  have rowR := toL_dr b D.1.2.toNat (by omega)
  rw [eR] at rowR e3
  obtain ⟨Z, eZ⟩ : ∃ Z, decF (b.drop 1) = Z := ⟨_, rfl⟩
  rw [eZ] at e1
  have row1 : 1 ≤ b.length → (toL eB (b.length - 1) fun i => rowF eB b (1 + i)) = b.drop 1 := fun h => toL_dr b 1 h
  clear eW
  have g1 : True := trivial
  have g2 : True := trivial
  have g3 : True := trivial
  have g4 : True := trivial
  refine pure_intro (wd := 1) (Q := mkQ LCd) (by decide) tysOk (q_of LCd_ok) mixed Tryd.func17 rfl _ (by show 5 ≤ _; decide) _ ?_
  repeat' (first | (apply And.intro <;> intro hc <;> (first | exact Bool.noConfusion hc | (exfalso; first | exact absurd hc (by assumption) | exact absurd (by assumption) hc) | (simp only [decide_eq_true_eq, decide_eq_false_iff_not, Bool.not_eq_true', Bool.not_eq_false', beq_iff_eq, beq_eq_false_iff_ne, bne_iff_ne, bne_eq_false_iff_eq, Bool.true_eq_false, Bool.false_eq_true, ne_eq, not_true_eq_false] at hc <;> first | exact absurd rfl hc | (exfalso; first | exact absurd hc (by assumption) | exact absurd (by assumption) hc) | skip) | skip)) | (refine And.intro (by first | exact trivial | decide | omega | (dsimp only; omega) | exact fun _ _ => rfl | exact ⟨by assumption, by first | exact trivial | decide | omega | (dsimp only; omega)⟩) ?_) | (apply And.intro) | (intro s hs; (first | (clear g1; have q : D = s := (hs.trans ((congr (congr (congr (congrArg (fun b x y l => decI b x y l now) (toL_b b)) (rd_adr f)) (rd_adr t)) (toL_ctx l)).trans eD)).symm; clear hs; subst q) | (clear g2; have q : Z = s := (hs.trans ((congrArg decF (row1 (by omega))).trans eZ)).symm; clear hs; subst q) | (clear g3; have q : U = s := (hs.trans ((congrArg udpD rowR).trans eU)).symm; clear hs; subst q) | skip)))
  · rw [e0 (by omega)]
    refine Done.mk (leF_tup ⟨leE_tail rfl (fun j hj => ?_) (leC_nils_sl rfl), leC_int rfl, trivial⟩)
    iterate 38 (rcases j with _ | j; exact leC_int rfl)
    exact absurd hj (by show ¬ _ < 38; omega)
  · show BL (toL eB (b.length - 1) fun i => rowF eB b (1 + i))
    rw [row1 (by omega)]; exact hb.drop 1
  · show (toL eB (b.length - 1) fun i => rowF eB b (1 + i)).length ≤ _
    rw [toL_len]; omega
  · rw [e1 (by omega) (by assumption)]
    refine Done.mk (leF_tup ⟨leE_tail rfl (fun j hj => ?_) ?_, leC_int rfl, trivial⟩)
    · iterate 38 (rcases j with _ | j; exact leC_int rfl)
      exact absurd hj (by show ¬ _ < 38; omega)
    · exact leC_sl (fun _ => rfl) rfl rfl fun i _ j _ => leC_cell rfl
  · exact fun _ => rfl
  · exact fun _ => rfl
  · show BL (toL eB b.length (rowF eB b)); rw [toL_b]; exact hb
  · show (toL eB b.length (rowF eB b)).length ≤ _; rw [toL_b]; exact hbl
  · show bytesL (toL eCtx l.length (rowF eCtx l)); rw [toL_ctx]; exact hl
  · rw [e2 (by omega) (by assumption) (by assumption)]
    refine Done.mk (leF_tup ⟨leE_tail rfl (fun j hj => ?_) (leC_nils_sl rfl), leC_int rfl, trivial⟩)
    iterate 38 (rcases j with _ | j; exact leC_int rfl)
    exact absurd hj (by show ¬ _ < 38; omega)
  · show BL (toL eB (b.length - D.1.2.toNat) fun i => rowF eB b (D.1.2.toNat + i)); rw [rowR]; exact hR
  · show (toL eB (b.length - D.1.2.toNat) fun i => rowF eB b (D.1.2.toNat + i)).length ≤ _; rw [rowR]; omega
  · rw [e3 (by omega) (by assumption) (by assumption), restU' (by assumption) eU (by assumption)]
    refine Done.mk (leF_tup ⟨leE_tail rfl (fun j hj => ?_) (leC_nils_sl rfl), leC_int rfl, trivial⟩)
    iterate 38 (rcases j with _ | j; exact leC_int rfl)
    exact absurd hj (by show ¬ _ < 38; omega)
  · obtain ⟨hn1, hn2⟩ := hn (by assumption)
    show (toL eB (b.length - D.1.2.toNat - U.1.2.2.toNat) fun i => rowF eB b (D.1.2.toNat + (U.1.2.2.toNat + i))).length ≤ _
    rw [toL_len]; omega
  · obtain ⟨hn1, hn2⟩ := hn (by assumption)
    have rowQ := toL_drd b D.1.2.toNat U.1.2.2.toNat (by omega) (by omega)
    rw [eR] at rowQ
    have q := hs.trans (congrArg sizeP (pk_is (h := { D.1.1.1 with sp := U.1.1.1, dp := U.1.1.2 }) (l := R.drop U.1.2.2.toNat) (fun j hj => (by (iterate 38 (rcases j with _ | j; exact rfl)); exact absurd hj (by omega))) rowQ))
    rw [e3 (by omega) (by assumption) (by assumption), restU (by assumption) eU (by assumption), fin_3 (by rw [← q]; assumption)]
    refine Done.mk (leF_tup ⟨leE_tail rfl (fun j hj => ?_) (leC_nils_sl rfl), leC_int rfl, trivial⟩)
    iterate 38 (rcases j with _ | j; exact leC_int rfl)
    exact absurd hj (by show ¬ _ < 38; omega)
  · obtain ⟨hn1, hn2⟩ := hn (by assumption)
    have rowQ := toL_drd b D.1.2.toNat U.1.2.2.toNat (by omega) (by omega)
    rw [eR] at rowQ
    refine Eq.mp (congrArg PkW (pk_is (h := { D.1.1.1 with sp := U.1.1.1, dp := U.1.1.2 }) (l := R.drop U.1.2.2.toNat) (fun j hj => (by (iterate 38 (rcases j with _ | j; exact rfl)); exact absurd hj (by omega))) rowQ).symm) ?_
    exact pkw_of hH (hR.drop _) hU.1 hU.2.1
  · obtain ⟨hn1, hn2⟩ := hn (by assumption)
    show (toL eB (b.length - D.1.2.toNat - U.1.2.2.toNat) fun i => rowF eB b (D.1.2.toNat + (U.1.2.2.toNat + i))).length ≤ _
    rw [toL_len]; omega
  · obtain ⟨hn1, hn2⟩ := hn (by assumption)
    rename_i z hz hc1 hc2
    have hy := hs
    have hc3 := hc
    have rowQ := toL_drd b D.1.2.toNat U.1.2.2.toNat (by omega) (by omega)
    rw [eR] at rowQ
    have q := hz.trans (congrArg sizeP (pk_is (h := { D.1.1.1 with sp := U.1.1.1, dp := U.1.1.2 }) (l := R.drop U.1.2.2.toNat) (fun j hj => (by (iterate 38 (rcases j with _ | j; exact rfl)); exact absurd hj (by omega))) rowQ))
    have q2 := hy.trans (congrArg sumP (pk_is (h := { D.1.1.1 with sp := U.1.1.1, dp := U.1.1.2 }) (l := R.drop U.1.2.2.toNat) (fun j hj => (by (iterate 38 (rcases j with _ | j; exact rfl)); exact absurd hj (by omega))) rowQ))
    rw [e3 (by omega) (by assumption) (by assumption), restU (by assumption) eU (by assumption), fin_6 (by rw [← q]; exact hc1) (by assumption) (by rw [← q2]; exact hc3)]
    refine Done.mk (leF_tup ⟨leE_tail rfl (fun j hj => ?_) (leC_nils_sl rfl), leC_int rfl, trivial⟩)
    iterate 38 (rcases j with _ | j; exact leC_int rfl)
    exact absurd hj (by show ¬ _ < 38; omega)
  · obtain ⟨hn1, hn2⟩ := hn (by assumption)
    rename_i z hz hc1 hc2
    have hy := hs
    have hc3 := hc
    have rowQ := toL_drd b D.1.2.toNat U.1.2.2.toNat (by omega) (by omega)
    rw [eR] at rowQ
    have q := hz.trans (congrArg sizeP (pk_is (h := { D.1.1.1 with sp := U.1.1.1, dp := U.1.1.2 }) (l := R.drop U.1.2.2.toNat) (fun j hj => (by (iterate 38 (rcases j with _ | j; exact rfl)); exact absurd hj (by omega))) rowQ))
    have q2 := hy.trans (congrArg sumP (pk_is (h := { D.1.1.1 with sp := U.1.1.1, dp := U.1.1.2 }) (l := R.drop U.1.2.2.toNat) (fun j hj => (by (iterate 38 (rcases j with _ | j; exact rfl)); exact absurd hj (by omega))) rowQ))
    rw [e3 (by omega) (by assumption) (by assumption), restU (by assumption) eU (by assumption), fin_0 (by rw [← q]; exact hc1) (fun _ => by rw [← q2]; exact hc3), ← eR]
    refine Done.mk (leF_tup ⟨leE_tail rfl (fun j hj => ?_) (leC_os_is (l := (b.drop D.1.2.toNat).drop U.1.2.2.toNat) rfl rfl rfl ?_ ?_ ?_), leC_int rfl, trivial⟩)
    · iterate 38 (rcases j with _ | j; exact leC_int rfl)
      exact absurd hj (by show ¬ _ < 38; omega)
    · rw [List.length_drop, List.length_drop]; omega
    · show _ ≤ _; dsimp only; omega
    · dsimp only
      refine isRow_odd ?_
      exact min_ge (by omega) (by omega)
  · show (toL eB (b.length - D.1.2.toNat) fun i => rowF eB b (D.1.2.toNat + i)).length ≤ _; rw [rowR]; omega
  · have q := hs.trans (congrArg sizeP (pk_is (h := D.1.1.1) (l := R) (fun j hj => (by (iterate 38 (rcases j with _ | j; exact rfl)); exact absurd hj (by omega))) rowR))
    rw [e3 (by omega) (by assumption) (by assumption), restN (by assumption), fin_3 (by rw [← q]; assumption)]
    refine Done.mk (leF_tup ⟨leE_tail rfl (fun j hj => ?_) (leC_nils_sl rfl), leC_int rfl, trivial⟩)
    iterate 38 (rcases j with _ | j; exact leC_int rfl)
    exact absurd hj (by show ¬ _ < 38; omega)
  · rename_i hc1 hc2
    have hz := hs
    have q := hz.trans (congrArg sizeP (pk_is (h := D.1.1.1) (l := R) (fun j hj => (by (iterate 38 (rcases j with _ | j; exact rfl)); exact absurd hj (by omega))) rowR))
    rw [e3 (by omega) (by assumption) (by assumption), restN (by assumption), fin_0 (by rw [← q]; exact hc1) (fun h => absurd h (by assumption)), ← eR]
    refine Done.mk (leF_tup ⟨leE_tail rfl (fun j hj => ?_) (leC_os_is (l := b.drop D.1.2.toNat) rfl rfl rfl ?_ ?_ ?_), leC_int rfl, trivial⟩)
    · iterate 38 (rcases j with _ | j; exact leC_int rfl)
      exact absurd hj (by show ¬ _ < 38; omega)
    · rw [List.length_drop]; omega
    · show _ ≤ _; dsimp only; omega
    · dsimp only
      refine isRow_od ?_
      exact min_ge (by omega) (by omega)
end Go.Proofs.YtjknkfjhcapocaaDoor.AX

/- The maker of the laws' packets hands its bytes through: a slice that is shared, or a slice of the caller's own. -/
namespace Go.Proofs.YtjknkfjhcapocaaDoor.AX
open Go.RowKit
set_option linter.unusedVariables false
set_option linter.unusedSimpArgs false
/-- A slice that is shared. -/
def cSlT {α : Type} [Inhabited α] (E : Elem α) : Codec (List α) where
  enc l := .e (.c (.sl true l.length E.sz (rowF E l)))
  dec H x := match x with
    | .e (.c (.sl true n s f)) => bif Nat.beq s E.sz then some (toL E n f, some (∀ i, i < n → E.ok (f i) = true), []) else none
    | _ => none
  sound H H' x a p rd h hp hh := by
    split at h
    · rename_i n s f
      obtain ⟨hb, h⟩ := cond_some h
      injection h with h1 h2
      injection h2 with h2 h3
      subst h1 h2 h3
      have hok : ∀ i, i < n → E.ok (f i) = true := hp
      have hsE : s = E.sz := Nat.eq_of_beq_eq_true hb
      subst hsE
      rintro cx r w v st ⟨a, cap, rfl, c1, c2⟩
      show CV.rel (fun _ => none) (fun b => cx.X b ∨ wr r H' b) (wrBut r H' []) w (.sl true (toL E n f).length E.sz (rowF E (toL E n f))) (.slice a n cap)
      rw [toL_len]
      refine ⟨a, cap, rfl, c1, fun h0 => ?_⟩
      obtain ⟨ad, rfl, hs, ho, hX, hlt, hc⟩ := c2 h0
      refine ⟨ad, rfl, hs, fun ⟨k, e, x, q1, q2, q3, _⟩ => ho ⟨k, e, x, q1, q2, q3⟩, fun _ h => h.elim (hX rfl) ho, hlt, fun i hi j hj => ?_⟩
      obtain ⟨u, hu, hr⟩ := hc i hi j hj
      refine ⟨u, hu, ?_⟩
      have key : rowF E (toL E n f) i j = f i j := by
        unfold rowF
        rw [toL_get hi]
        exact (E.ok_eq _ (hok i hi) j hj).symm
      rw [← key] at hr
      exact E.flat _ _ _ _ _ _ _ _ _ _ _ hr
    · cases h
/-- The result: a struct that ends in the slice that was handed over. -/
structure TokD {α : Type} (E : Elem α) (a : α) (i n : Nat) (x : FV) : Prop where
  ex : ∃ g, x = .e (.agg (E.sz + 1) g) ∧ (∀ j, j < E.sz → g j = E.cell a j) ∧ g E.sz = .os 0 i n
theorem callR_tok {P : Program} {T : Tys} {Q : Qs} {wi : Nat} (hwi : 0 < wi) (hT : TysOk P T) (hQ : QsOk P Q) (hm : P.follows .mixedOrders = true) {f : FuncId} {fn : Func} {c : Code} (hf : P.funcs[f]? = some fn) (hb : fn.body = some c) (hnm : (fn.name == "runtime.NumGoroutine") = false)
    {pre : List FV} (hpre : ∀ x ∈ pre, ∃ y, x = .e (.c y) ∧ FlatC y) (hn : pre.length + 1 ≤ fn.ntmps) {α : Type} {E : Elem α} {a : α} {i n k : Nat} {H : Hp} {nm wd : Nat}
    (h : exec T Q wi fn.ntmps 1 c (argFr (pre ++ [.e (.c (.os 0 i n))]) 0) [] 1 (endH T fn.results.toList fun x _ _ => TokD E a i n x)) :
    CallR P f (pre ++ [.e (.c (.os k i n))]) H nm wd ⟨none, .e (.agg (E.sz + 1) (tailC E a (.os k i n))), [], []⟩ := by
  refine ⟨⟨fn, hf, by rw [hb]; rfl, hnm⟩, fun H' hh cx r w vals st hfr hw hrel => ?_⟩
  have hG : GlobOk (fun b => False ∨ (∃ y, r k = some y ∧ y.b = b) ∨ False) w := glob_more (gl_in st) fun p _ h => h.elim False.elim fun h => h.elim (fun ⟨y, h1, h2⟩ => .inr (.inl ⟨k, y, h1, h2⟩)) False.elim
  have r2 : ∀ j y, (if j = 0 then r k else none) = some y → j = 0 ∧ r k = some y := fun j y h => by
    by_cases hj : j = 0
    · rw [if_pos hj] at h; exact ⟨hj, h⟩
    · rw [if_neg hj] at h; cases h
  refine (fn_run (np := 1) (cx := ⟨w, fun b => ∃ y, r k = some y ∧ y.b = b, fun _ => False, fun _ => False, fun j => if j = 0 then r k else none⟩) (r := fun j => if j = 0 then r k else none) (H0 := []) hwi hT hQ hm hf hb (args := pre ++ [.e (.c (.os 0 i n))]) (by rw [List.length_append]; exact hn) h (fun j b hj => by have := (r2 j b hj).1; omega)
    ⟨rfl, rfl, rfl, Nat.le_refl _, fun _ _ _ => rfl, ⟨fun b hb => hb.elim, hG⟩, fun j y hj => ?_, (fun j e y he _ => by cases he), (fun n m e1 e2 y z h => by cases h), fun j b hj => hj, (fun j e he => by cases he)⟩ ⟨by rw [hrel.1, List.length_append, List.length_append]; rfl, fun q y u hy hu => ?_⟩ (fun j hj => ⟨if_neg (by omega), rfl⟩)).mono fun e w' he => ?_
  · obtain ⟨_, hk⟩ := r2 j y hj
    exact ⟨(st.dom k y hk).1, .inr ⟨y, hk, rfl⟩, fun h => h⟩
  · by_cases hq : q < pre.length
    · rw [List.getElem?_append_left hq] at hy
      obtain ⟨z, rfl, hz⟩ := hpre y (List.mem_of_getElem? hy)
      exact hz _ _ _ _ _ _ _ _ _ (hrel.2 q (.e (.c z)) u (by rw [List.getElem?_append_left hq]; exact hy) hu : z.rel r cx.X (wr r H') w u)
    · have hq2 : q = pre.length := by
        have := (List.getElem?_eq_some_iff.1 hy).1
        rw [List.length_append] at this
        simp at this
        omega
      subst hq2
      rw [List.getElem?_append_right (Nat.le_refl _), Nat.sub_self] at hy
      injection hy with hy
      subst hy
      obtain ⟨a, cap, rfl, h1, h2⟩ := hrel.2 pre.length (.e (.c (.os k i n))) u (by rw [List.getElem?_append_right (Nat.le_refl _), Nat.sub_self]; rfl) hu
      refine ⟨a, cap, rfl, h1, fun h0 => ?_⟩
      obtain ⟨x, hx, h3⟩ := h2 h0
      exact ⟨x, ⟨(if_pos rfl).trans hx.1, hx.2⟩, h3⟩
  · obtain ⟨v, r', x, Hf, nf, rfl, ⟨g, rfl, hg, hl⟩, st', hn', hx, hlow⟩ := he
    have hbel : Below w.heap.size w w' := ⟨st'.os, st'.tape, st'.output, st'.size, fun b hb => st'.kept b hb (fun h => h)⟩
    obtain ⟨g1, g2⟩ := st.below hbel
    refine ⟨v, rfl, r, g1, g2, fun _ _ => rfl, fun k e he => .inr ⟨e, he⟩, ?_⟩
    obtain ⟨cs, rfl, c1, c2⟩ := hx
    refine ⟨cs, rfl, c1, fun j u hu => ?_⟩
    have hj : j < E.sz + 1 := by rw [← c1]; exact (Array.getElem?_eq_some_iff.1 hu).1
    have h3 := c2 j u hu
    by_cases he : j = E.sz
    · subst he
      rw [tailC_end]
      rw [hl] at h3
      obtain ⟨a, cap, rfl, h1, h2⟩ := h3
      refine ⟨a, cap, rfl, h1, fun h0 => ?_⟩
      obtain ⟨x, hx, h4⟩ := h2 h0
      exact ⟨x, ⟨((hlow 0 (by omega)).symm.trans hx.1 : _), hx.2⟩, h4⟩
    · rw [tailC_lt (by omega)]
      rw [hg j (by omega)] at h3
      exact E.flat _ _ _ _ _ _ _ _ _ _ _ h3
set_option maxHeartbeats 4000000 in
set_option maxRecDepth 20000 in
theorem loc_tok (s d : Int) (i n : Nat) : exec T (mkQ LRa) 1 Tryd.f16.ntmps 1 (Tryd.f16.body.getD Code.ret) (argFr ([(cI .u16).enc s, (cI .u16).enc d] ++ [.e (.c (.os 0 i n))]) 0) [] 1 (endH T Tryd.f16.results.toList fun x _ _ => TokD eHd (locP s d []).1 i n x) := by
  have e1 : linkF k1 = (lX, true) := k_link1
  have e2 : linkF k2 = (lY, true) := k_link2
  unfold locP
  obtain ⟨X, eX⟩ : ∃ X, lX = X := ⟨_, rfl⟩
  obtain ⟨Y, eY⟩ : ∃ X, lY = X := ⟨_, rfl⟩
  rw [eX] at e1 ⊢
  rw [eY] at e2 ⊢
  have g1 : True := trivial
  repeat' (first | (apply And.intro <;> intro hc <;> (first | exact Bool.noConfusion hc | (simp only [decide_eq_true_eq, decide_eq_false_iff_not, Bool.not_eq_true', Bool.not_eq_false', beq_iff_eq, beq_eq_false_iff_ne, bne_iff_ne, bne_eq_false_iff_eq, Bool.true_eq_false, Bool.false_eq_true, ne_eq, not_true_eq_false] at hc <;> first | exact absurd rfl hc | skip) | skip)) | (refine And.intro (by first | exact trivial | decide | omega | (dsimp only; omega) | exact fun _ _ => rfl | exact ⟨by assumption, by first | exact trivial | decide | omega | (dsimp only; omega)⟩) ?_) | (apply And.intro) | (intro s hs; (first | (clear g1; have q : s = (X, true) := hs.trans e1; clear hs; subst q) | (have q : s = (Y, true) := hs.trans e2; clear hs; subst q))))
  refine ⟨⟨_, rfl, fun j hj => ?_, rfl⟩⟩
  iterate 38 (rcases j with _ | j; exact rfl)
  exact absurd hj (by show ¬ _ < 38; omega)
set_option maxHeartbeats 4000000 in
set_option maxRecDepth 20000 in
theorem local_ok (s d : Int) (b : List Int) : PureOk Tryd.prog 16 [(cI .u16).enc s, (cI .u16).enc d, (cSlT eB).enc b] (.e (tailR eHd eB (locP s d b))) := by
  have e1 : linkF k1 = (lX, true) := k_link1
  have e2 : linkF k2 = (lY, true) := k_link2
  unfold locP
  obtain ⟨X, eX⟩ : ∃ X, lX = X := ⟨_, rfl⟩
  obtain ⟨Y, eY⟩ : ∃ X, lY = X := ⟨_, rfl⟩
  rw [eX] at e1 ⊢
  rw [eY] at e2 ⊢
  have g1 : True := trivial
  refine pure_intro (wd := 1) (Q := mkQ LRa) (by decide) tysOk (q_of LRa_ok) mixed Tryd.func16 rfl _ (by show 3 ≤ _; decide) _ ?_
  repeat' (first | (apply And.intro <;> intro hc <;> (first | exact Bool.noConfusion hc | (simp only [decide_eq_true_eq, decide_eq_false_iff_not, Bool.not_eq_true', Bool.not_eq_false', beq_iff_eq, beq_eq_false_iff_ne, bne_iff_ne, bne_eq_false_iff_eq, Bool.true_eq_false, Bool.false_eq_true, ne_eq, not_true_eq_false] at hc <;> first | exact absurd rfl hc | skip) | skip)) | (refine And.intro (by first | exact trivial | decide | omega | (dsimp only; omega) | exact fun _ _ => rfl | exact ⟨by assumption, by first | exact trivial | decide | omega | (dsimp only; omega)⟩) ?_) | (apply And.intro) | (intro s hs; (first | (clear g1; have q : s = (X, true) := hs.trans e1; clear hs; subst q) | (have q : s = (Y, true) := hs.trans e2; clear hs; subst q))))
  refine Done.mk (leF_e (leE_tail rfl (fun j hj => ?_) ?_))
  · iterate 38 (rcases j with _ | j; exact leC_int rfl)
    exact absurd hj (by show ¬ _ < 38; omega)
  · exact leC_sl (fun _ => rfl) rfl rfl fun i _ j _ => leC_cell rfl
/-- The entry. -/
def locE : Entry := fun args H nm wd =>
  match args with
  | [.e (.c (.int .u16 s)), .e (.c (.int .u16 d)), .e (.c (.os k i n))] => some fun K => K (.e (.agg (eHd.sz + 1) (tailC eHd (locP s d []).1 (.os k i n)))) [] []
  | _ => pureE (AC.cons (cI .u16) (AC.cons (cI .u16) (AC.cons (cSlT eB) AC.nil))) (fun _ => True) (fun a => locP a.1 a.2.1 a.2.2.1) (fun s => .e (tailR eHd eB s)) args H nm wd
theorem locE_ok : EntOk Tryd.prog 16 locE := by
  have h0 := pureE_ok (A := AC.cons (cI .u16) (AC.cons (cI .u16) (AC.cons (cSlT eB) AC.nil))) (p := fun _ => True) (F := fun a => locP a.1 a.2.1 a.2.2.1) (enc := fun s => .e (tailR eHd eB s)) (P := Tryd.prog) (f := 16) ⟨_, Tryd.func16, rfl, by kernel_rfl⟩ fun a _ => local_ok a.1 a.2.1 a.2.2.1
  refine ⟨fun args H nm wd q hwd hq K hK => ?_, fun args H nm wd q hq K K' hKK hK => ?_⟩
  · unfold locE at hq
    split at hq
    · rename_i s d k i n
      injection hq with hq
      subst hq
      refine ⟨_, _, _, callR_tok (by decide) tysOk (q_of LRa_ok) mixed Tryd.func16 rfl rfl (pre := [(cI .u16).enc s, (cI .u16).enc d]) (fun x hx => ?_) (by show 2 + 1 ≤ _; decide) (E := eHd) (a := (locP s d []).1) (loc_tok s d i n), hK⟩
      rcases List.mem_cons.1 hx with rfl | hx
      · exact ⟨_, rfl, flat_int⟩
      · obtain rfl := List.mem_singleton.1 hx
        exact ⟨_, rfl, flat_int⟩
    · exact h0.ok args H nm wd q hwd hq K hK
  · unfold locE at hq
    split at hq
    · injection hq with hq
      subst hq
      exact hKK _ _ _ hK
    · exact h0.mono args H nm wd q hq K K' hKK hK
end Go.Proofs.YtjknkfjhcapocaaDoor.AX

/- The laws about compressed packets: local, known; all contracts. -/
namespace Go.Proofs.YtjknkfjhcapocaaDoor.AX
open Go.RowKit
set_option linter.unusedVariables false
set_option linter.unusedSimpArgs false
abbrev cencE : Entry := newE (AC.cons cPk (AC.cons (cE eAdr) (AC.cons (cE eAdr) (AC.cons (cSl eCtx eCtx_sz) (AC.cons (cI .i64) AC.nil))))) (fun a => PkW a.1 ∧ a.1.2.length ≤ 140737488355328 ∧ bytesL a.2.2.2.1) (fun a => encC a.1 a.2.1 a.2.2.1 a.2.2.2.1 a.2.2.2.2.1) (fun s => some s.1.length) (fun s => some [i64V s.2]) (fun s => ents eB 5 s.1)
abbrev cplE : Entry := newE PA (fun a => PkW a.1 ∧ a.1.2.length ≤ 140737488355328) (fun a => plainZ a.1) (fun s => some s.1.length) (fun s => some [i64V s.2]) (fun s => ents eB 5 s.1)
abbrev cdecE : Entry := pureE (AC.cons (cSl eB eB_sz) (AC.cons (cE eAdr) (AC.cons (cE eAdr) (AC.cons (cSl eCtx eCtx_sz) (AC.cons (cI .i64) AC.nil))))) (fun a => BL a.1 ∧ a.1.length ≤ 140737488355328 ∧ bytesL a.2.2.2.1) (fun a => decC a.1 a.2.1 a.2.2.1 a.2.2.2.1 a.2.2.2.2.1) encPE
theorem cencE_ok : EntOk Tryd.prog 12 cencE := newE_ok ⟨_, Tryd.func12, rfl, by kernel_rfl⟩ (fun s l h x hx => by injection h with h; subst h; obtain rfl := List.mem_singleton.1 hx; exact nfE_c nf_int) fun a h => cenc_ok a.1 a.2.1 a.2.2.1 a.2.2.2.1 a.2.2.2.2.1 h.1 h.2.1 h.2.2
theorem cplE_ok : EntOk Tryd.prog 13 cplE := newE_ok ⟨_, Tryd.func13, rfl, by kernel_rfl⟩ (fun s l h x hx => by injection h with h; subst h; obtain rfl := List.mem_singleton.1 hx; exact nfE_c nf_int) fun a h => plain_ok a.1 h.1 h.2
theorem cdecE_ok : EntOk Tryd.prog 17 cdecE := pureE_ok ⟨_, Tryd.func17, rfl, by kernel_rfl⟩ fun a h => cdec_ok a.1 a.2.1 a.2.2.1 a.2.2.2.1 a.2.2.2.2.1 h.1 h.2.1 h.2.2
def LCo0 : CsL := (12, some cencE) :: (13, some cplE) :: (17, some cdecE) :: (18, some rsameE) :: (15, some sizeE) :: (16, some locE) :: LIe
theorem LCo0_ok : AllOk Tryd.prog LCo0 := ⟨cencE_ok, cplE_ok, cdecE_ok, (LRp_ok).1, pureE_ok ⟨_, Tryd.func15, rfl, by kernel_rfl⟩ fun a h => rsize_ok a.1 h, locE_ok, LIe_ok⟩
theorem encC_congr {p p' : Pkt} {a a' b b' : Adr} {l l' : List Ctx} {n : Int} (h1 : p' = p) (h2 : a' = a) (h3 : b' = b) (h4 : l' = l) : encC p' a' b' l' n = encC p a b l n := by rw [h1, h2, h3, h4]
theorem loc_known : ∃ x y : Int, encC (locP 61617 61618 [7]) k1 k2 [] 0 = ([126, 51, 243, 18, x, y, 7], 0) := by
  have h := locP_C (s := 61617) (d := 61618) (b := [7]) (by decide) (by decide) (.cons (by decide) .nil) (by decide)
  rw [beB2] at h
  exact ⟨_, _, h⟩
set_option maxHeartbeats 8000000 in
set_option maxRecDepth 20000 in
theorem known15_ok : PureOk Tryd.prog 14 [] (cB.enc true) := by
  obtain ⟨x, y, e3⟩ := loc_known
  have hW := (locP_m (s := 61617) (d := 61618) (b := [7]) (by decide) (by decide) (.cons (by decide) .nil) (by decide)).w
  refine pure_intro (wd := 1) (Q := mkQ LCo0) (by decide) tysOk (q_of LCo0_ok) mixed Tryd.func14 rfl _ (by show 0 ≤ _; decide) _ ?_
  repeat' (first | (apply And.intro <;> intro hc <;> (first | exact Bool.noConfusion hc | (simp only [decide_eq_true_eq, decide_eq_false_iff_not, Bool.not_eq_true', Bool.not_eq_false', beq_iff_eq, beq_eq_false_iff_ne, bne_iff_ne, bne_eq_false_iff_eq, Bool.true_eq_false, Bool.false_eq_true, ne_eq, not_true_eq_false] at hc <;> first | exact absurd rfl hc | skip) | skip)) | (refine And.intro (by first | exact trivial | decide | omega | (dsimp only; omega) | exact fun _ _ => rfl | exact ⟨by assumption, by first | exact trivial | decide | omega | (dsimp only; omega)⟩) ?_) | (apply And.intro) | (intro s hs; (have q : s = ([126, 51, 243, 18, x, y, 7], 0) := hs.trans ((encC_congr (pk_is (h := (locP 61617 61618 []).1) (l := [7]) (fun j hj => tailC_lt hj) rfl) rfl rfl rfl).trans e3); clear hs; subst q)))
  all_goals first
    | exact rfl
    | exact Nat.le_of_ble_eq_true rfl
    | exact bytes_nil
    | exact Eq.mp (congrArg PkW (pk_is (h := (locP 61617 61618 []).1) (l := [7]) (fun j hj => tailC_lt hj) rfl).symm) hW
    | exact Done.mk (leF_bool rfl)
    | skip
abbrev kn15E : Entry := pureE AC.nil (fun _ => True) (fun _ => true) cB.enc
def LCo : CsL := (14, some kn15E) :: LCo0
theorem LCo_ok : AllOk Tryd.prog LCo := ⟨pureE_ok ⟨_, Tryd.func14, rfl, by kernel_rfl⟩ fun _ _ => known15_ok, LCo0_ok⟩
end Go.Proofs.YtjknkfjhcapocaaDoor.AX

/- CompressNotices, by AX2: the law returns true (printed by gen/coports.py). -/
namespace Go.Proofs.YtjknkfjhcapocaaDoor.AX
open Go.RowKit
set_option linter.unusedVariables false
set_option linter.unusedSimpArgs false
theorem encC_bl3 {p : Pkt} (hp : PkW p) (f t : Adr) (l : List Ctx) (now : Int) : BL (encC p f t l now).1 := by
  unfold encC
  split
  · exact bl_app (encI_bl hp f t l now) (tail_bl hp)
  · exact .nil
theorem toL_tk {b : List Int} (h : 100 ≤ b.length) : (toL eB (Int.toNat 100 - 0) fun i => rowF eB b (0 + i)) = b.take 100 :=
  toL_is (by rw [List.length_take, Nat.min_eq_left h]; rfl) ⟨fun k hk => by
    rw [List.length_take, Nat.min_eq_left h] at hk
    show CV.int .u8 (b.getD (0 + k) default) = _
    rw [Nat.zero_add, List.getD_eq_getElem?_getD, List.getD_eq_getElem?_getD, List.getElem?_take_of_lt hk]⟩
theorem loc_eq (s d : Int) {b B : List Int} (h : b = B) : locP s d b = locP s d B := by rw [h]
theorem nP_r (s d : Int) : 1 ≤ nPorts s d ∧ nPorts s d ≤ 4 := by
  unfold nPorts
  split
  · decide
  · split <;> decide
theorem note15 {sp dp : Int} {B C : List Int} (hs0 : 0 ≤ sp ∧ sp < 65536) (hd : 0 ≤ dp ∧ dp < 65536) (hB : BL B) (hBl : B.length ≤ 100) (hC : (encC (locP sp dp B) k1 k2 [] 0).1 = C) {I kb : Int} (hI : 3 ≤ I ∧ I < C.length) (hk : 0 ≤ kb ∧ kb < 8) (e : IntKind.u64.wrap kb = kb) {s : Pkt × Int} {g : Nat → CV} (hg : g 0 = .int .u8 (bits .xor .u8 (C.getD (0 + I.toNat) default) (shlI .u8 1 (IntKind.u64.wrap kb))))
    (hs : s = decC (toL eB C.length fun k j => updE false (rowF eB C) (0 + I.toNat) g (0 + k) j) k1 k2 [] 0) : s = (pk0, 6) := by
  rw [toL_set hg, e, Nat.zero_add] at hs
  rw [hs]
  exact notice_law hs0 hd hB hBl hC (by omega) (by omega) hk
set_option maxHeartbeats 16000000 in
set_option maxRecDepth 20000 in
theorem cnotices_s (sp dp : Int) (b : List Int) (hs0 : 0 ≤ sp ∧ sp < 65536) (hd : 0 ≤ dp ∧ dp < 65536) (hb : BL b) (hbl : b.length ≤ 100) (at_ bit : Int) : PureOk Tryd.prog 5 [(cI .u16).enc sp, (cI .u16).enc dp, .e (.c (.sl true b.length 1 (rowF eB b))), (cI .i64).enc at_, (cI .i64).enc bit] (.e (.c (.bool true))) := by
  obtain ⟨B, eB'⟩ : ∃ B, b = B := ⟨_, rfl⟩
  have hB : BL B := by rw [← eB']; exact hb
  have hBl : B.length = b.length := by rw [← eB']
  have tk : toL eB b.length (rowF eB b) = B := (toL_b b).trans eB'
  have hm := locP_m hs0 hd hB (by omega)
  have hlen := loc_len hs0 hd hB (by omega)
  have hC0 : (encC (locP sp dp B) k1 k2 [] 0).2 = 0 := by rw [encC_ok hm.v k_val.1 k_val.2 rfl rfl]
  have hCb := encC_bl3 hm.w k1 k2 [] 0
  have hnr := nP_r sp dp
  obtain ⟨P, eP⟩ : ∃ P, locP sp dp B = P := ⟨_, rfl⟩
  have hP2 : P.2 = B := by rw [← eP]; rfl
  have hP2l : P.2.length ≤ 100 := by rw [hP2]; omega
  have hCE : (encC (locP sp dp B) k1 k2 [] 0).1 = (encC P k1 k2 [] 0).1 := by rw [eP]
  rw [eP] at hm hlen hC0 hCb
  obtain ⟨C, eC⟩ : ∃ C, encC P k1 k2 [] 0 = C := ⟨_, rfl⟩
  rw [eC] at hlen hC0 hCb hCE
  have hcut : ¬ (100 : Int) < b.length := by omega
  have h6 : ¬ (C.1.length : Int) < 6 := by omega
  have hbit := modF_lt (v := bit) (n := 8) (by omega)
  have wb : IntKind.u64.wrap (modF bit 8) = modF bit 8 := IntWalk.u64_in _ (by omega)
  obtain ⟨kb, ekb⟩ : ∃ kb, modF bit 8 = kb := ⟨_, rfl⟩
  rw [ekb] at hbit wb
  have wl : IntKind.i64.wrap ((C.1.length : Int) - 3) = C.1.length - 3 := IntWalk.i64_in _ (by omega)
  have hit := modF_lt (v := at_) (n := IntKind.i64.wrap ((C.1.length : Int) - 3)) (by rw [wl]; omega)
  obtain ⟨it, eit⟩ : ∃ it, modF at_ (IntKind.i64.wrap ((C.1.length : Int) - 3)) = it := ⟨_, rfl⟩
  rw [eit, wl] at hit
  have wi : IntKind.i64.wrap (3 + it) = 3 + it := IntWalk.i64_in _ (by omega)
  have g1 : True := trivial
  have g2 : True := trivial
  have g3 : True := trivial
  have g4 : True := trivial
  have g5 : True := trivial
  refine pure_intro (wd := 1) (Q := mkQ LCo) (by decide) tysOk (q_of LCo_ok) mixed Tryd.func5 rfl _ (by show 5 ≤ _; decide) _ ?_
  repeat' (first | (apply And.intro <;> intro hc <;> (first | exact Bool.noConfusion hc | (exfalso; first | exact absurd hcut hc | exact absurd hc hcut | exact absurd hC0 hc | exact absurd hc h6) | (simp only [decide_eq_true_eq, decide_eq_false_iff_not, Bool.not_eq_true', Bool.not_eq_false', beq_iff_eq, beq_eq_false_iff_ne, bne_iff_ne, bne_eq_false_iff_eq, Bool.true_eq_false, Bool.false_eq_true, ne_eq, not_true_eq_false] at hc <;> first | exact absurd rfl hc | (exfalso; first | exact absurd hcut hc | exact absurd hc hcut | exact absurd hC0 hc | exact absurd hc h6) | skip) | skip)) | (refine And.intro (by first | exact trivial | decide | omega | (dsimp only; omega) | exact fun _ _ => rfl | exact ⟨by assumption, by first | exact trivial | decide | omega | (dsimp only; omega)⟩) ?_) | (apply And.intro) | (intro s hs; (first | (clear g1; have q : P = s := (hs.trans ((loc_eq _ _ tk).trans eP)).symm; clear hs; subst q) | (clear g2; have q : C = s := (hs.trans ((encC_congr (pk_is (h := P.1) (l := P.2) (fun j hj => (by (iterate 38 (rcases j with _ | j; exact rfl)); exact absurd hj (by omega))) (toL_b P.2)) rfl rfl rfl).trans eC)).symm; clear hs; subst q) | (clear g3; have q : it = s := (hs.trans eit).symm; clear hs; subst q) | (clear g4; have q : kb = s := (hs.trans ekb).symm; clear hs; subst q) | (clear g5; have q : s = (pk0, 6) := note15 hs0 hd hB (by omega) hCE (I := IntKind.i64.wrap (3 + it)) (by rw [wi]; omega) hbit wb rfl hs; clear hs; subst q) | (have q : s = true := hs; clear hs; subst q) | skip)))
  all_goals first
    | exact rfl
    | exact fun _ => rfl
    | exact bytes_nil
    | exact absurd hs (Nat.not_lt_zero _)
    | exact fun h => absurd h (Nat.not_lt_zero _)
    | exact absurd hC0 (by assumption)
    | exact Eq.mp (congrArg PkW (pk_is (h := P.1) (l := P.2) (fun j hj => (by (iterate 38 (rcases j with _ | j; exact rfl)); exact absurd hj (by omega))) (toL_b P.2)).symm) hm.w
    | exact Eq.mp (congrArg BL (toL_b0 C.1).symm) hCb
    | (show (toL eB P.2.length _).length ≤ _; rw [toL_len]; omega)
    | (show (toL eB C.1.length _).length ≤ _; rw [toL_len]; omega)
    | (show 1 ≤ IntKind.i64.wrap ((C.1.length : Int) - 3); rw [wl]; omega)
    | (show IntKind.i64.wrap ((C.1.length : Int) - 3) ≤ _; rw [wl]; omega)
    | (show 0 ≤ IntKind.i64.wrap (3 + it); rw [wi]; omega)
    | (show IntKind.i64.wrap (3 + it) < _; rw [wi]; omega)
    | (show 0 + (IntKind.i64.wrap (3 + it)).toNat + 1 ≤ _; rw [wi]; omega)
    | (show 0 ≤ IntKind.u64.wrap kb; rw [wb]; omega)
    | exact toL_set_BL hCb rfl (u8r _)
    | exact Done.mk (leF_bool rfl)
    | skip
set_option maxHeartbeats 16000000 in
set_option maxRecDepth 20000 in
theorem cnotices_l (sp dp : Int) (b : List Int) (hs0 : 0 ≤ sp ∧ sp < 65536) (hd : 0 ≤ dp ∧ dp < 65536) (hb : BL b) (hbl : 100 < b.length) (at_ bit : Int) : PureOk Tryd.prog 5 [(cI .u16).enc sp, (cI .u16).enc dp, .e (.c (.sl true b.length 1 (rowF eB b))), (cI .i64).enc at_, (cI .i64).enc bit] (.e (.c (.bool true))) := by
  obtain ⟨B, eB'⟩ : ∃ B, b.take 100 = B := ⟨_, rfl⟩
  have hB : BL B := by rw [← eB']; exact hb.take _
  have hBl : B.length = 100 := by rw [← eB', List.length_take]; omega
  have tk := (toL_tk (b := b) (by omega)).trans eB'
  have hm := locP_m hs0 hd hB (by omega)
  have hlen := loc_len hs0 hd hB (by omega)
  have hC0 : (encC (locP sp dp B) k1 k2 [] 0).2 = 0 := by rw [encC_ok hm.v k_val.1 k_val.2 rfl rfl]
  have hCb := encC_bl3 hm.w k1 k2 [] 0
  have hnr := nP_r sp dp
  obtain ⟨P, eP⟩ : ∃ P, locP sp dp B = P := ⟨_, rfl⟩
  have hP2 : P.2 = B := by rw [← eP]; rfl
  have hP2l : P.2.length ≤ 100 := by rw [hP2]; omega
  have hCE : (encC (locP sp dp B) k1 k2 [] 0).1 = (encC P k1 k2 [] 0).1 := by rw [eP]
  rw [eP] at hm hlen hC0 hCb
  obtain ⟨C, eC⟩ : ∃ C, encC P k1 k2 [] 0 = C := ⟨_, rfl⟩
  rw [eC] at hlen hC0 hCb hCE
  have hcut : (100 : Int) < b.length := by omega
  have h6 : ¬ (C.1.length : Int) < 6 := by omega
  have hbit := modF_lt (v := bit) (n := 8) (by omega)
  have wb : IntKind.u64.wrap (modF bit 8) = modF bit 8 := IntWalk.u64_in _ (by omega)
  obtain ⟨kb, ekb⟩ : ∃ kb, modF bit 8 = kb := ⟨_, rfl⟩
  rw [ekb] at hbit wb
  have wl : IntKind.i64.wrap ((C.1.length : Int) - 3) = C.1.length - 3 := IntWalk.i64_in _ (by omega)
  have hit := modF_lt (v := at_) (n := IntKind.i64.wrap ((C.1.length : Int) - 3)) (by rw [wl]; omega)
  obtain ⟨it, eit⟩ : ∃ it, modF at_ (IntKind.i64.wrap ((C.1.length : Int) - 3)) = it := ⟨_, rfl⟩
  rw [eit, wl] at hit
  have wi : IntKind.i64.wrap (3 + it) = 3 + it := IntWalk.i64_in _ (by omega)
  have g1 : True := trivial
  have g2 : True := trivial
  have g3 : True := trivial
  have g4 : True := trivial
  have g5 : True := trivial
  refine pure_intro (wd := 1) (Q := mkQ LCo) (by decide) tysOk (q_of LCo_ok) mixed Tryd.func5 rfl _ (by show 5 ≤ _; decide) _ ?_
  repeat' (first | (apply And.intro <;> intro hc <;> (first | exact Bool.noConfusion hc | (exfalso; first | exact absurd hcut hc | exact absurd hc hcut | exact absurd hC0 hc | exact absurd hc h6) | (simp only [decide_eq_true_eq, decide_eq_false_iff_not, Bool.not_eq_true', Bool.not_eq_false', beq_iff_eq, beq_eq_false_iff_ne, bne_iff_ne, bne_eq_false_iff_eq, Bool.true_eq_false, Bool.false_eq_true, ne_eq, not_true_eq_false] at hc <;> first | exact absurd rfl hc | (exfalso; first | exact absurd hcut hc | exact absurd hc hcut | exact absurd hC0 hc | exact absurd hc h6) | skip) | skip)) | (refine And.intro (by first | exact trivial | decide | omega | (dsimp only; omega) | exact fun _ _ => rfl | exact ⟨by assumption, by first | exact trivial | decide | omega | (dsimp only; omega)⟩) ?_) | (apply And.intro) | (intro s hs; (first | (clear g1; have q : P = s := (hs.trans ((loc_eq _ _ tk).trans eP)).symm; clear hs; subst q) | (clear g2; have q : C = s := (hs.trans ((encC_congr (pk_is (h := P.1) (l := P.2) (fun j hj => (by (iterate 38 (rcases j with _ | j; exact rfl)); exact absurd hj (by omega))) (toL_b P.2)) rfl rfl rfl).trans eC)).symm; clear hs; subst q) | (clear g3; have q : it = s := (hs.trans eit).symm; clear hs; subst q) | (clear g4; have q : kb = s := (hs.trans ekb).symm; clear hs; subst q) | (clear g5; have q : s = (pk0, 6) := note15 hs0 hd hB (by omega) hCE (I := IntKind.i64.wrap (3 + it)) (by rw [wi]; omega) hbit wb rfl hs; clear hs; subst q) | (have q : s = true := hs; clear hs; subst q) | skip)))
  all_goals first
    | exact rfl
    | exact fun _ => rfl
    | exact bytes_nil
    | exact absurd hs (Nat.not_lt_zero _)
    | exact fun h => absurd h (Nat.not_lt_zero _)
    | exact absurd hC0 (by assumption)
    | exact Eq.mp (congrArg PkW (pk_is (h := P.1) (l := P.2) (fun j hj => (by (iterate 38 (rcases j with _ | j; exact rfl)); exact absurd hj (by omega))) (toL_b P.2)).symm) hm.w
    | exact Eq.mp (congrArg BL (toL_b0 C.1).symm) hCb
    | (show (toL eB P.2.length _).length ≤ _; rw [toL_len]; omega)
    | (show (toL eB C.1.length _).length ≤ _; rw [toL_len]; omega)
    | (show 1 ≤ IntKind.i64.wrap ((C.1.length : Int) - 3); rw [wl]; omega)
    | (show IntKind.i64.wrap ((C.1.length : Int) - 3) ≤ _; rw [wl]; omega)
    | (show 0 ≤ IntKind.i64.wrap (3 + it); rw [wi]; omega)
    | (show IntKind.i64.wrap (3 + it) < _; rw [wi]; omega)
    | (show 0 + (IntKind.i64.wrap (3 + it)).toNat + 1 ≤ _; rw [wi]; omega)
    | (show 0 ≤ IntKind.u64.wrap kb; rw [wb]; omega)
    | exact toL_set_BL hCb rfl (u8r _)
    | exact Done.mk (leF_bool rfl)
    | skip
theorem cnotices_ok (sp dp : Int) (b : List Int) (hs : 0 ≤ sp ∧ sp < 65536) (hd : 0 ≤ dp ∧ dp < 65536) (hb : BL b) (hbl : b.length ≤ 140737488355328) (at_ bit : Int) : PureOk Tryd.prog 5 [(cI .u16).enc sp, (cI .u16).enc dp, .e (.c (.sl true b.length 1 (rowF eB b))), (cI .i64).enc at_, (cI .i64).enc bit] (.e (.c (.bool true))) := by
  by_cases h : b.length ≤ 100
  · exact cnotices_s sp dp b hs hd hb h at_ bit
  · exact cnotices_l sp dp b hs hd hb (by omega) at_ bit
end Go.Proofs.YtjknkfjhcapocaaDoor.AX

/- What the package variables of the laws about compressed packets hold at the start. -/
namespace Go.Proofs.YtjknkfjhcapocaaDoor.AX
open Go.RowKit
set_option linter.unusedVariables false
set_option linter.unusedSimpArgs false
set_option maxRecDepth 20000 in
theorem adr_cells {w : World} {sp : Nat → Bool} {held : Bool} {fuel : Nat} {cs : List Value} {a b c : Int} {p : List MemPlace} (h : DataW.trod (H := Unit) (fun _ => ()) Tryd.prog w 0 sp held fuel 30 cs = some (.agg [.lit (.int .i64 a), .lit (.int .u16 b), .lit (.int .u64 c)], p)) : cs = [.int .i64 a, .int .u16 b, .int .u64 c] := by
  obtain ⟨xs, n, _, hx, hl, hlen, hf⟩ := DataW.trod_struct Tryd.underlying30 h
  have hl3 : cs.length = 3 := hl.trans (by kernel_rfl)
  obtain ⟨c0, c1, c2, rfl⟩ : ∃ c0 c1 c2, cs = [c0, c1, c2] := by
    match cs, hl3 with
    | [x, y, z], _ => exact ⟨x, y, z, rfl⟩
  obtain ⟨y0, y1, y2, rfl⟩ : ∃ y0 y1 y2, xs = [y0, y1, y2] := by
    match xs, hlen with
    | [x, y, z], _ => exact ⟨x, y, z, rfl⟩
  have k0 : Tryd.prog.cellsOf 3 = 1 := by kernel_rfl
  have k1 : Tryd.prog.cellsOf 26 = 1 := by kernel_rfl
  have k2 : Tryd.prog.cellsOf 28 = 1 := by kernel_rfl
  have h0 : DataW.trod (H := Unit) (fun _ => ()) Tryd.prog w 0 sp held n 3 (([c0, c1, c2].drop 0).take (Tryd.prog.cellsOf 3)) = some y0 := hf 0 _ rfl
  have h1 : DataW.trod (H := Unit) (fun _ => ()) Tryd.prog w 0 sp held n 26 (([c0, c1, c2].drop 1).take (Tryd.prog.cellsOf 26)) = some y1 := hf 1 _ rfl
  have h2 : DataW.trod (H := Unit) (fun _ => ()) Tryd.prog w 0 sp held n 28 (([c0, c1, c2].drop 2).take (Tryd.prog.cellsOf 28)) = some y2 := hf 2 _ rfl
  rw [k0] at h0
  rw [k1] at h1
  rw [k2] at h2
  obtain ⟨n0, e0, rfl, _⟩ := DataW.trod_int Tryd.underlying3 h0
  obtain ⟨n1, e1, rfl, _⟩ := DataW.trod_int Tryd.underlying26 h1
  obtain ⟨n2, e2, rfl, _⟩ := DataW.trod_int Tryd.underlying28 h2
  simp at hx e0 e1 e2
  obtain ⟨⟨rfl, rfl, rfl⟩, _⟩ := hx
  rw [e0, e1, e2]
theorem cell_ltG {w : World} {p : Addr} {u : Value} (h : w.cell? p = some u) : p.block < w.heap.size := by
  rcases Nat.lt_or_ge p.block w.heap.size with h1 | h1
  · exact h1
  · have : w.heap[p.block]? = none := Array.getElem?_eq_none h1
    simp [World.cell?, this] at h

/-- Quiet calls, for contracts that state that the world is as it was. -/
theorem row_cells {w : World} {name : String} {g : Nat} {cs : Array Value} {l : List (IntKind × Int)} (hg : Tryd.prog.globalNamed name = some g) (hv : w.var? Tryd.prog name = some cs) (hc : cs.toList = l.map fun x => Value.int x.1 x.2) (h0 : 0 < l.length) :
    g < w.heap.size ∧ ∀ (j : Nat) (k : IntKind) (n : Int), l[j]? = some (k, n) → w.cell? ⟨g, j, none⟩ = some (.int k n) := by
  have key : ∀ (j : Nat) (k : IntKind) (n : Int), l[j]? = some (k, n) → w.cell? ⟨g, j, none⟩ = some (.int k n) := fun j k n hj => by
    rw [World.var?_cell hg hv, ← Array.getElem?_toList, hc, List.getElem?_map, hj]; rfl
  refine ⟨?_, key⟩
  obtain ⟨⟨k, n⟩, l', rfl⟩ : ∃ x l', l = x :: l' := by
    match l, h0 with
    | x :: l', _ => exact ⟨x, l', rfl⟩
  exact cell_ltG (key 0 k n rfl)
theorem u16_of {n : Int} (h : (Lit.int .u16 n).wf = true) : 0 ≤ n ∧ n < 65536 := by
  simp [Lit.wf, IntKind.min, IntKind.max, IntKind.bits, IntKind.signed] at h
  omega
theorem glob_of {w : World} (h : laidMet Tryd.prog [("multihop/multihoplaw15.one", Rows.laid_multihop_multihoplaw15_one), ("multihop/multihoplaw15.two", Rows.laid_multihop_multihoplaw15_two)] w) : GlobOk (fun _ => False) w := by
  obtain ⟨ps, ⟨g, t, cs, fuel, p, q, hg, ht, hv, hd, ⟨g', t', cs', fuel', p', q', hg', ht', hv', hd', _, _⟩, _⟩, _, _⟩ := h
  have G0 : Tryd.prog.globalNamed "multihop/multihoplaw15.one" = some 0 := by kernel_rfl
  have G1 : Tryd.prog.globalNamed "multihop/multihoplaw15.two" = some 1 := by kernel_rfl
  have T0 : (Tryd.prog.globals[0]?).map (·.type) = some 30 := by kernel_rfl
  have T1 : (Tryd.prog.globals[1]?).map (·.type) = some 30 := by kernel_rfl
  obtain rfl := Option.some.inj (G0.symm.trans hg)
  obtain rfl := Option.some.inj (T0.symm.trans ht)
  obtain rfl := Option.some.inj (G1.symm.trans hg')
  obtain rfl := Option.some.inj (T1.symm.trans ht')
  have r0 := row_cells (l := [(.i64, 2), (.u16, 1), (.u64, 0)]) hg hv (adr_cells hd) (by decide)
  have r1 := row_cells (l := [(.i64, 2), (.u16, 2), (.u64, 0)]) hg' hv' (adr_cells hd') (by decide)
  intro p hp
  rcases List.mem_cons.1 hp with rfl | hp
  · exact ⟨r0.1, id, r0.2⟩
  · rcases List.mem_cons.1 hp with rfl | hp
    · exact ⟨r1.1, id, r1.2⟩
    · cases hp
end Go.Proofs.YtjknkfjhcapocaaDoor.AX

/- CompressNotices: the walk. -/
namespace Go.Proofs.YtjknkfjhcapocaaDoor
open Go.RowKit AX
set_option linter.unusedVariables false
theorem walkCompressNotices (a0 : Int) (a1 : Int) (a2 : Option Addr) (len2 cap2 : Nat) (z2 : List Int) (a3 : Int) (a4 : Int) (w : World) (w0 : (Lit.int .u16 a0).wf = true) (w1 : (Lit.int .u16 a1).wf = true) (w2 : IsRow .u8 w a2 len2 cap2 z2) (rr2 : cap2 * 1 ≤ 140737488351232) (w3 : (Lit.int .i64 a3).wf = true) (w4 : (Lit.int .i64 a4).wf = true) (hg : AX.GlobOk (fun _ => False) w) :
    Calls Tryd.prog 5 #[.int .u16 a0, .int .u16 a1, .slice a2 len2 cap2, .int .i64 a3, .int .i64 a4] w fun e w' => e = .returned (.bool true) ∧ Below w.heap.size w w' := by
  obtain ⟨b, hb, hl, hrel⟩ := rowB_cut w2
  have h3 := (rowB_all w2).2.2
  have h0 := u16_of w0
  have h1 := u16_of w1
  exact walk_of (cnotices_ok a0 a1 b h0 h1 hb (by omega) a3 a4) (relL_cons rfl (relL_cons rfl (relL_cons hrel (relL_cons rfl (relL1 rfl))))) hg
end Go.Proofs.YtjknkfjhcapocaaDoor

