/- One operation on slices: make, literals, append, copy; the abstract step is sound. -/
import Derived.Test.YtjknkfjhcapocaaBStep
import Derived.Laws.AppendOwn
import Derived.Laws.MakeOwn
namespace Go.Proofs.Ytjknkfjhcapocaa.AX
open Go.RowKit
set_option linter.unusedVariables false
set_option linter.unusedSimpArgs false
section
variable {P : Program} {cx : Cx} {r : Ren} {H : Hp} {w : World} {T : Tys} {fr : Fr} {a : Act} {nm wd : Nat}

/-- The cells from a place on. -/
def cellsAt (w : World) (b off m : Nat) : List Value := (List.range m).map fun q => (w.cell? ⟨b, off + q, none⟩).getD undef
theorem cellsAt_len (w : World) (b off m : Nat) : (cellsAt w b off m).length = m := by simp [cellsAt]
theorem cellsAt_get {w : World} {b off m q : Nat} {u : Value} (h : (cellsAt w b off m)[q]? = some u) : q < m ∧ u = (w.cell? ⟨b, off + q, none⟩).getD undef := by
  have hlt : q < m := by have := (List.getElem?_eq_some_iff.1 h).1; simpa [cellsAt] using this
  refine ⟨hlt, ?_⟩
  simp [cellsAt, hlt] at h
  exact h.symm

/-- A slice's elements as a list of cells. -/
structure Lies (r : Ren) (X W : Nat → Prop) (w : World) (v : Value) (n sz : Nat) (g : Nat → Nat → CV) (news : List Value) : Prop where
  shape : ∃ A cap, v = .slice A n cap ∧ n ≤ cap ∧ ∀ j u, news[j]? = some u → ∃ ad, A = some ad ∧ w.cell? (ad.add j) = some u
  len : news.length = n * sz
  cell : ∀ u ∈ news, isCell u
  rel : ∀ i, i < n → ∀ j, j < sz → ∀ u, news[i * sz + j]? = some u → (g i j).rel r X W w u

theorem lies_mk {X W : Nat → Prop} {A : Option Addr} {n cap sz : Nat} {g : Nat → Nat → CV} (hn : n ≤ cap) (hsz : 0 < sz) (h : 0 < n → ∃ b off, A = some ⟨b, off, none⟩ ∧ ∀ i, i < n → ∀ j, j < sz → ∃ u, w.cell? ⟨b, off + (i * sz + j), none⟩ = some u ∧ (g i j).rel r X W w u) :
    ∃ news, Lies r X W w (.slice A n cap) n sz g news := by
  rcases Nat.eq_zero_or_pos n with h0 | h0
  · subst h0
    exact ⟨[], ⟨A, cap, rfl, hn, fun j u hu => by simp at hu⟩, by simp, fun u hu => by simp at hu, fun i hi => by omega⟩
  · obtain ⟨b, off, rfl, hc⟩ := h h0
    have key : ∀ q, q < n * sz → ∃ u, w.cell? ⟨b, off + q, none⟩ = some u ∧ (g (q / sz) (q % sz)).rel r X W w u := fun q hq => by
      have h1 : q / sz < n := (Nat.div_lt_iff_lt_mul hsz).2 hq
      obtain ⟨u, hu, hr⟩ := hc (q / sz) h1 (q % sz) (Nat.mod_lt _ hsz)
      refine ⟨u, ?_, hr⟩
      rw [← hu]
      congr 2
      have := Nat.div_add_mod q sz
      rw [Nat.mul_comm] at this
      omega
    refine ⟨cellsAt w b off (n * sz), ⟨_, cap, rfl, hn, fun j u hu => ⟨_, rfl, ?_⟩⟩, cellsAt_len _ _ _ _, fun u hu => ?_, fun i hi j hj u hu => ?_⟩
    · obtain ⟨hj, rfl⟩ := cellsAt_get hu
      obtain ⟨u, hu', _⟩ := key j hj
      rw [addN, hu']; rfl
    · obtain ⟨j, hj⟩ := List.getElem?_of_mem hu
      obtain ⟨hj', rfl⟩ := cellsAt_get hj
      obtain ⟨u, hu', hr⟩ := key j hj'
      rw [hu']; exact rel_isCell hr
    · obtain ⟨hq, rfl⟩ := cellsAt_get hu
      obtain ⟨u, hu', hr⟩ := hc i hi j hj
      rw [hu']; exact hr

theorem src_lies (st : St cx r H w) {sz : Nat} (hsz : 0 < sz) {x : FV} {v : Value} {n : Nat} {g : Nat → Nat → CV} {p : Option Prop} {rd : List Nat} (h : srcOf H sz x = some ⟨n, g, p, rd⟩) (hp : preOk p) (hx : x.rel r cx.X (wr r H) w v) : ∃ news, Lies r cx.X (wr r H) w v n sz g news := by
  unfold srcOf at h
  split at h
  · rename_i sh n' s f
    cases hb : Nat.beq s sz with
    | false => rw [hb] at h; cases h
    | true =>
      rw [hb, cond_true] at h
      have := Nat.eq_of_beq_eq_true hb
      subst this
      injection h with h; injection h with h1 h2 h3 h4; subst h1 h2
      obtain ⟨A, cap, rfl, hn, hc⟩ := hx
      refine lies_mk hn hsz fun h0 => ?_
      obtain ⟨ad, rfl, hs, _, _, _, hcell⟩ := hc h0
      obtain ⟨b, o, s'⟩ := ad
      simp only at hs; subst hs
      exact ⟨b, o, rfl, hcell⟩
  · injection h with h; injection h with h1 h2 h3 h4; subst h1 h2
    have : v = .slice none 0 0 := hx
    subst this
    exact lies_mk (Nat.le_refl _) hsz fun h0 => absurd h0 (Nat.lt_irrefl _)
  · rename_i k i n'
    split at h
    · rename_i et en es ev f he
      cases hb : Nat.beq es sz with
      | false => rw [hb] at h; cases h
      | true =>
        rw [hb, cond_true] at h
        have := Nat.eq_of_beq_eq_true hb
        subst this
        injection h with h; injection h with h1 h2 h3 h4; subst h1 h2 h3
        obtain ⟨A, cap, rfl, hn, hc⟩ := hx
        refine lies_mk hn hsz fun h0 => ?_
        obtain ⟨x, hx, rfl, _⟩ := hc (by omega)
        have hp' : i + n' ≤ en := hp
        obtain ⟨_, _, hxs, _⟩ := blk_at st he hx
        refine ⟨x.b, i * x.sz, rfl, fun q hq j hj => ?_⟩
        obtain ⟨u, hu, hr⟩ := blk_cell st he hx (i := i + q) (j := j) (show i + q < en by omega) hj
        refine ⟨u, ?_, hr⟩
        rw [← hu]
        simp only at hxs
        rw [show i * x.sz + (q * es + j) = (i + q) * x.sz + j by rw [hxs, Nat.add_mul]; omega]
    · cases h
  · rename_i k i j n' s
    split at h
    · rename_i et en es ev f he
      cases hb : Nat.beq s sz with
      | false => rw [hb] at h; cases h
      | true =>
        rw [hb, cond_true] at h
        have := Nat.eq_of_beq_eq_true hb
        subst this
        injection h with h; injection h with h1 h2 h3 h4; subst h1 h2 h3
        obtain ⟨A, cap, rfl, hn, hc⟩ := hx
        refine lies_mk hn hsz fun h0 => ?_
        obtain ⟨x, hx, rfl⟩ := hc h0
        have hp' : i < en ∧ j + n' * s ≤ es := hp
        refine ⟨x.b, i * x.sz + j, rfl, fun q hq p hp2 => ?_⟩
        have hlt : q * s + p < n' * s := by have := row_lt (sz := s) hq; omega
        obtain ⟨u, hu, hr⟩ := blk_cell st he hx (i := i) (j := j + (q * s + p)) (show i < en from hp'.1) (show j + (q * s + p) < es by omega)
        exact ⟨u, by rw [Nat.add_assoc]; exact hu, hr⟩
    · cases h
  · cases h

theorem lies_first {X W : Nat → Prop} {v : Value} {n sz : Nat} {g : Nat → Nat → CV} {news : List Value} (h : Lies r X W w v n sz g news) {w' : World} (hw : w'.heap = w.heap) {m : Nat} (hm : m ≤ n) :
    (Builtin.firstCells sz m v).run P w' = .ok (news.take (m * sz)).toArray w' := by
  obtain ⟨A, cap, rfl, hn, hc⟩ := h.shape
  have hlen : (news.take (m * sz)).length = m * sz := by
    rw [List.length_take, h.len]
    exact Nat.min_eq_left (Nat.mul_le_mul_right _ hm)
  cases A with
  | none =>
    have : news = [] := by
      cases news with
      | nil => rfl
      | cons u us => obtain ⟨ad, h, _⟩ := hc 0 u rfl; cases h
    rw [this, run_firstCells_none]; simp
  | some ad =>
    refine run_firstCells_some (P := P) w' sz m ad n cap _ hlen fun j u hu => ?_
    rw [List.getElem?_take] at hu
    split at hu
    · obtain ⟨ad', h1, h2⟩ := hc j u hu
      injection h1 with h1; subst h1
      rw [← h2]; unfold World.cell?; rw [hw]
    · cases hu
theorem lies_all {X W : Nat → Prop} {v : Value} {n sz : Nat} {g : Nat → Nat → CV} {news : List Value} (h : Lies r X W w v n sz g news) {w' : World} (hw : w'.heap = w.heap) :
    (Builtin.firstCells sz n v).run P w' = .ok news.toArray w' := by
  have := lies_first (P := P) h hw (Nat.le_refl n)
  rwa [← h.len, List.take_length] at this

theorem run_append_fit {t ty e : TypeId} {i : TypeInfo} (ht : P.underlying t = some (.slice e)) (hi : P.info? e = some i) (base : Option Addr) (n cap : Nat) {X W : Nat → Prop} {y : Value} {m : Nat} {g : Nat → Nat → CV} {news : List Value} (hy : Lies r X W w y m i.size g news)
    (hroom : n + m ≤ cap) {w' : World} (hst : ∀ ad, base = some ad → (storeCells (ad.add (n * i.size)) news 0).run P w = .ok () w') (hno : base = none → w' = w) :
    (Builtin.append_ #[t, t] ty #[.slice base n cap, y]).run P w = .ok (.slice base (n + m) cap) w' := by
  obtain ⟨A, c, rfl, _, _⟩ := hy.shape
  have hf := lies_all (P := P) hy (w' := w) rfl
  cases base with
  | none =>
    have := hno rfl; subst this
    simp [Builtin.append_, run_underlying ht, sizeOf, typeInfo, hi, Builtin.lenOf, hroom, hf]
  | some ad =>
    have := hst ad rfl
    simp [Builtin.append_, run_underlying ht, sizeOf, typeInfo, hi, Builtin.lenOf, hroom, hf, this]
theorem run_append_new {t ty e : TypeId} {i : TypeInfo} {z : Value} (ht : P.underlying t = some (.slice e)) (hi : P.info? e = some i) (hz : i.zero = some z) (base : Option Addr) (n cap : Nat) {olds : List Value} (hold : ∀ w' : World, w'.heap = w.heap → (Builtin.firstCells i.size n (.slice base n cap)).run P w' = .ok olds.toArray w')
    {X W : Nat → Prop} {y : Value} {m : Nat} {g : Nat → Nat → CV} {news : List Value} (hy : Lies r X W w y m i.size g news) (hg : cap < n + m) (h63 : n + m ≤ 9223372036854775807) (hfit : Builtin.nextslicecap (n + m) cap * i.bytes ≤ 281474976710656) :
    (Builtin.append_ #[t, t] ty #[.slice base n cap, y]).run P w =
      .ok (.slice (some ⟨w.heap.size, 0, none⟩) (n + m) (grownCap w (n + m) cap e)) (w.drew.alloc (.cells (olds.toArray ++ news.toArray ++ Builtin.zeroCells z.cells (grownCap w (n + m) cap e - (n + m))) e)) := by
  obtain ⟨A, c, rfl, _, _⟩ := hy.shape
  have hn : ¬ (n + m ≤ cap) := by omega
  have h63' : ¬ (9223372036854775807 < ((n : Int) + (m : Int))) := by omega
  have h48' : ¬ (281474976710656 < Builtin.nextslicecap (n + m) cap * i.bytes) := by omega
  have hf := lies_all (P := P) hy (w' := w.drew) rfl
  have ho := hold w.drew rfl
  simp [Builtin.append_, run_underlying ht, sizeOf, typeInfo, zeroValue, hi, hz, Builtin.lenOf, hn, h63', h48', Question.forced, ho, hf, newRow, grownCap]
  congr 2
  apply Array.ext'
  simp

/-- Rows of elements laid one behind the other. -/
theorem two_rows {X W : Nat → Prop} {n m sz : Nat} {olds news rest : List Value} {f g : Nat → Nat → CV} (ho : olds.length = n * sz) (hn : news.length = m * sz) (hf : ∀ i, i < n → ∀ j, j < sz → ∀ u, olds[i * sz + j]? = some u → (f i j).rel r X W w u) (hg : ∀ i, i < m → ∀ j, j < sz → ∀ u, news[i * sz + j]? = some u → (g i j).rel r X W w u) :
    ∀ i, i < n + m → ∀ j, j < sz → ∀ u, (olds ++ news ++ rest)[i * sz + j]? = some u → (selC (Nat.blt i n) (f i j) (g (i - n) j)).rel r X W w u := by
  intro i hi j hj u hu
  rw [selC_eq]
  by_cases h : i < n
  · rw [show Nat.blt i n = true from Nat.ble_eq_true_of_le h, cond_true]
    have := row_lt (sz := sz) h
    rw [List.append_assoc, List.getElem?_append_left (by omega)] at hu
    exact hf i h j hj u hu
  · have hb : Nat.blt i n = false := by
      cases hb : Nat.blt i n with
      | false => rfl
      | true => exact absurd (Nat.le_of_ble_eq_true hb) h
    rw [hb, cond_false]
    have h1 := Nat.mul_le_mul_right sz (Nat.le_of_not_lt h)
    have h2 := row_lt (sz := sz) (show i - n < m by omega)
    have h3 : i * sz + j - n * sz = (i - n) * sz + j := by rw [Nat.sub_mul]; omega
    rw [List.append_assoc, List.getElem?_append_right (by omega), ho, h3, List.getElem?_append_left (by omega)] at hu
    exact hg (i - n) (by omega) j hj u hu

theorem grownCap_ge' (w : World) (need old : Nat) (e : TypeId) : need ≤ grownCap w need old e := grownCap_ge w need old e

theorem arr_get (olds news : List Value) (z : Array Value) (q : Nat) : (olds.toArray ++ news.toArray ++ z)[q]? = (olds ++ news ++ z.toList)[q]? := by
  have : olds.toArray ++ news.toArray ++ z = (olds ++ news ++ z.toList).toArray := by
    apply Array.ext'
    simp
  rw [this]; simp

/-- append that has to make a new row. -/
theorem grow_left (hT : TysOk P T) (st : St cx r H w) (hfr : Free r H nm wd) (hwd : 0 < wd) {dead : Hp} (hdead : ∀ k e, hget (dead ++ H) k = some e → hget H k = some e) {t ty e : TypeId} {ti : TI} (ht : P.underlying t = some (.slice e)) (hTe : T e = some ti) {sz : Nat} (hsz : 0 < sz) (hes : szN P e = sz) (hzl : ti.zero.length = sz)
    {base : Option Addr} {n cap : Nat} {f : Nat → Nat → CV} {olds : List Value} (ho : Lies r cx.X (wr r H) w (.slice base n cap) n sz f olds) {y : Value} {m : Nat} {g : Nat → Nat → CV} {news : List Value} (hy : Lies r cx.X (wr r H) w y m sz g news)
    (hg : cap < n + m) (hb : (n + m) * ti.bytes ≤ 140737488355328) (h63 : n + m ≤ 9223372036854775807) {F : Nat → Nat → CV} (hF : ∀ i j, F i j = bif Nat.blt i n then f i j else g (i - n) j) {N : Nat} (hN : N = n + m) (p : Option Prop) (rd : List Nat) :
    ∃ v w', (Builtin.append_ #[t, t] ty #[.slice base n cap, y]).run P w = .ok v w' ∧ Left cx r H w nm wd ⟨p, one (.os nm 0 N), (nm, some ⟨e, N, sz, false, F⟩) :: dead, rd⟩ v w' := by
  subst hN
  obtain ⟨i, z, hi, hszi, hz, hl, hall, hby⟩ := (hT e ti hTe).info
  have hi' : i.size = sz := by rw [← hes]; simp [szN, hi]
  subst hi'
  have hzs := (zero_rel (r := r) (w := w) (X := cx.X) (W := wr r H) hl hall).1
  have hge := grownCap_ge' w (n + m) cap e
  refine ⟨_, _, run_append_new ht hi hz base n cap (olds := olds) (fun w' hw => lies_all ho hw) hy hg h63 (by rw [hby]; exact growslice_fits hg hb), ?_⟩
  refine new_left st hfr hwd hdead e (olds.toArray ++ news.toArray ++ Builtin.zeroCells z.cells (grownCap w (n + m) cap e - (n + m))) (n + m) i.size (grownCap w (n + m) cap e) false F hsz (fun h => by cases h) ?_ hge ?_ ?_ ?_ ?_ ?_ ?_ ?_
  · simp only [Array.size_append, List.size_toArray, size_zeroCells, hy.len, ho.len, hzs, hzl]
    rw [← Nat.add_mul, ← Nat.add_mul]
    congr 1; omega
  · intro k hk j hj u hu
    rw [arr_get] at hu
    have := two_rows (r := r) (X := cx.X) (W := wr r H) (w := w) ho.len hy.len ho.rel hy.rel k hk j hj u hu
    rw [hF]; rw [selC_eq] at this; exact this
  · rfl
  · rfl
  · rfl
  · rfl
  · rfl
  · intro r' h W w'
    exact ⟨_, _, rfl, hge, fun _ => ⟨_, h, by simp, by simp⟩⟩

/-- append to the nil slice. -/
theorem step_append_nil (hT : TysOk P T) (st : St cx r H w) (hfr : Free r H nm wd) (hwd : 0 < wd) {t ty e : TypeId} {ti : TI} (ht : P.underlying t = some (.slice e)) (hTe : T e = some ti) {sz : Nat} (hsz : 0 < sz) (hes : szN P e = sz) (hzl : ti.zero.length = sz)
    {y : Value} {m : Nat} {g : Nat → Nat → CV} {news : List Value} (hy : Lies r cx.X (wr r H) w y m sz g news) (hb : m * ti.bytes ≤ 140737488355328) (h63 : m ≤ 9223372036854775807) (p : Option Prop) (rd : List Nat) :
    ∃ v w', (Builtin.append_ #[t, t] ty #[.slice none 0 0, y]).run P w = .ok v w' ∧ Left cx r H w nm wd ⟨p, one (.os nm 0 m), [(nm, some ⟨e, m, sz, false, g⟩)], rd⟩ v w' := by
  rcases Nat.eq_zero_or_pos m with h0 | h0
  · obtain ⟨i, z, hi, hszi, hz, hl, hall, hby⟩ := (hT e ti hTe).info
    have hi' : i.size = sz := by rw [← hes]; simp [szN, hi]
    subst hi'
    subst h0
    refine ⟨_, w, run_append_fit ht hi none 0 0 hy (Nat.le_refl _) (fun ad h => by cases h) (fun _ => rfl), ?_⟩
    have hf0 := hfr nm (Nat.le_refl _) (by omega)
    obtain ⟨h1, h2⟩ := st.empty hf0.1 hf0.2 [] dead_none e i.size g hsz
    refine ⟨r, h1, h2, fun _ _ => rfl, fun k e' hk => ?_, ⟨none, 0, rfl, Nat.le_refl _, fun h => absurd h (Nat.lt_irrefl _)⟩⟩
    by_cases h : k = nm
    · exact .inl ⟨.inl (by omega), by omega⟩
    · have : hget ([(nm, some ⟨e, 0, i.size, false, g⟩)] ++ H) k = hget H k := look_cons_ne _ _ _ h
      rw [this] at hk; exact .inr ⟨e', hk⟩
  · obtain ⟨olds, ho⟩ := lies_mk (r := r) (w := w) (X := cx.X) (W := wr r H) (A := none) (n := 0) (cap := 0) (sz := sz) (g := g) (Nat.le_refl _) hsz (fun h => absurd h (Nat.lt_irrefl _))
    refine grow_left hT st hfr hwd dead_none ht hTe hsz hes hzl ho hy (by omega) (by rw [Nat.zero_add]; exact hb) (by omega) (F := g) (fun i j => ?_) (Nat.zero_add m).symm p rd
    cases hb0 : Nat.blt i 0 with
    | true => exact absurd (Nat.le_of_ble_eq_true hb0) (by omega)
    | false => rw [cond_false, Nat.sub_zero]

/-- append to a slice of ours. -/
theorem step_append_own (hT : TysOk P T) (st : St cx r H w) (hfr : Free r H nm wd) (hwd : 0 < wd) {t ty e : TypeId} {ti : TI} (ht : P.underlying t = some (.slice e)) (hTe : T e = some ti) {sz : Nat} (hsz : 0 < sz) (hes : szN P e = sz) (hzl : ti.zero.length = sz)
    {k n : Nat} {f : Nat → Nat → CV} (hk : hget H k = some ⟨e, n, sz, false, f⟩) {x : Value} (hx : (CV.os k 0 n).rel r cx.X (wr r H) w x)
    {y : Value} {m : Nat} {g : Nat → Nat → CV} {news : List Value} (hy : Lies r cx.X (wr r H) w y m sz g news) (hb : (n + m) * ti.bytes ≤ 140737488355328) (h63 : n + m ≤ 9223372036854775807) (p : Option Prop) (rd : List Nat) :
    ∃ v w', (Builtin.append_ #[t, t] ty #[x, y]).run P w = .ok v w' ∧ Left cx r H w nm wd ⟨p, one (.os nm 0 (n + m)), [(nm, some ⟨e, n + m, sz, false, fun k j => selC (Nat.blt k n) (f k j) (g (k - n) j)⟩), (k, none)], rd⟩ v w' := by
  obtain ⟨A, cap, rfl, hn, hc⟩ := hx
  have hf0 := hfr nm (Nat.le_refl _) (by omega)
  by_cases hroom : n + m ≤ cap
  · obtain ⟨i, z, hi, hszi, hz, hl, hall, hby⟩ := (hT e ti hTe).info
    have hi' : i.size = sz := by rw [← hes]; simp [szN, hi]
    subst hi'
    rcases Nat.eq_zero_or_pos cap with h0 | h0
    · have hm0 : m = 0 := by omega
      have hn0 : n = 0 := by omega
      subst hm0 hn0 h0
      have hnews : news = [] := List.eq_nil_of_length_eq_zero (by simpa using hy.len)
      subst hnews
      refine ⟨_, w, run_append_fit ht hi A 0 0 hy (Nat.le_refl _) (fun ad h => rfl) (fun _ => rfl), ?_⟩
      obtain ⟨h1, h2⟩ := st.empty hf0.1 hf0.2 [(k, none)] dead_one e i.size (fun q j => selC (Nat.blt q 0) (f q j) (g (q - 0) j)) hsz
      refine ⟨r, h1, h2, fun _ _ => rfl, fun q e' hq => ?_, ⟨A, 0, rfl, Nat.le_refl _, fun h => absurd h (Nat.lt_irrefl _)⟩⟩
      by_cases h : q = nm
      · exact .inl ⟨.inl (by omega), by omega⟩
      · have : hget (([(nm, some ⟨e, 0 + 0, i.size, false, fun q j => selC (Nat.blt q 0) (f q j) (g (q - 0) j)⟩), (k, none)] : Hp) ++ H) q = hget ([(k, none)] ++ H) q := look_cons_ne _ _ _ h
        rw [this] at hq; exact .inr ⟨e', dead_one q e' hq⟩
    · obtain ⟨b, hb1, rfl, hb3⟩ := hc h0
      obtain ⟨g1, g2, g3, g4, cs, g5, g6, g7⟩ := blk_at st hk hb1
      simp only at g1 g2 g3 g4 g5 g7
      rw [Nat.zero_mul] at *
      have hcap : cap = b.c := by omega
      have hfit : n * i.size + 0 + news.length ≤ cs.size := by
        rw [g6, g3, hy.len, Nat.add_zero, ← Nat.add_mul]
        exact Nat.mul_le_mul_right _ (by omega)
      obtain ⟨w', s1, s2, s3, s4, s5, s6, s7⟩ := run_storeCells P b.b (n * i.size) e news 0 w cs g5 hfit hy.cell
      rw [Nat.add_zero] at s7
      refine ⟨_, w', run_append_fit ht hi (some ⟨b.b, 0, none⟩) n cap hy hroom (fun ad h => ?_) (fun h => by cases h), ?_⟩
      · injection h with h; subst h
        rw [addN, Nat.zero_add]; exact s1
      · have hrows : ∀ q, q < n + m → ∀ j, j < i.size → ∀ u, (ovl cs (n * i.size) news)[q * i.size + j]? = some u → (selC (Nat.blt q n) (f q j) (g (q - n) j)).rel r cx.X (wr r H) w u := by
          intro q hq j hj u hu
          rw [ovl_get _ _ _ (by omega)] at hu
          rw [selC_eq]
          by_cases h : q < n
          · rw [show Nat.blt q n = true from Nat.ble_eq_true_of_le h, cond_true]
            have := row_lt (sz := i.size) h
            rw [if_neg (by omega)] at hu
            exact g7 q h j hj u hu
          · have hbl : Nat.blt q n = false := by
              cases hbl : Nat.blt q n with
              | false => rfl
              | true => exact absurd (Nat.le_of_ble_eq_true hbl) h
            rw [hbl, cond_false]
            have h1 := Nat.mul_le_mul_right i.size (Nat.le_of_not_lt h)
            have h2 := row_lt (sz := i.size) (show q - n < m by omega)
            have h3 : q * i.size + j - n * i.size = (q - n) * i.size + j := by rw [Nat.sub_mul]; omega
            rw [if_pos (by rw [hy.len]; omega), h3] at hu
            exact hy.rel (q - n) (by omega) j hj u hu
        obtain ⟨h1, h2⟩ := st.grow hk hb1 hf0.1 hf0.2 (ovl cs (n * i.size) news) (n + m) (fun q j => selC (Nat.blt q n) (f q j) (g (q - n) j)) (by rw [ovl_size]; exact g6) (by omega) (fun h => by cases h) hrows w' s2 s3 s4 s5 s6 s7
        refine ⟨_, h1, h2, fun q hq => if_neg (by omega), fun q e' hq => ?_, ?_⟩
        · by_cases h : q = nm
          · exact .inl ⟨.inl (by omega), by omega⟩
          · have : hget (([(nm, some ⟨e, n + m, i.size, false, fun q j => selC (Nat.blt q n) (f q j) (g (q - n) j)⟩), (k, none)] : Hp) ++ H) q = hget ([(k, none)] ++ H) q := look_cons_ne _ _ _ h
            rw [this] at hq; exact .inr ⟨e', dead_one q e' hq⟩
        · exact ⟨_, cap, rfl, hroom, fun _ => ⟨b, if_pos rfl, by rw [Nat.zero_mul], by omega⟩⟩
  · obtain ⟨olds, ho⟩ : ∃ olds, Lies r cx.X (wr r H) w (.slice A n cap) n sz f olds := lies_mk hn hsz fun h0 => by
      obtain ⟨b, hb1, rfl, hb3⟩ := hc (by omega)
      obtain ⟨_, _, hxs, _⟩ := blk_at st hk hb1
      simp only at hxs
      refine ⟨b.b, 0, by rw [Nat.zero_mul], fun q hq j hj => ?_⟩
      obtain ⟨u, hu, hr⟩ := blk_cell st hk hb1 (i := q) (j := j) hq hj
      exact ⟨u, by rw [Nat.zero_add, ← hxs]; exact hu, hr⟩
    exact grow_left hT st hfr hwd dead_one ht hTe hsz hes hzl ho hy (by omega) hb h63 (fun i j => selC_eq _ _ _) rfl p rd

/-- make -/
theorem step_make (hT : TysOk P T) (st : St cx r H w) (hfr : Free r H nm wd) (hwd : 0 < wd) {t e : TypeId} {ti : TI} (ht : P.underlying t = some (.slice e)) (hTe : T e = some ti) {sz : Nat} (hsz : 0 < sz) (hes : szN P e = sz) (hzl : ti.zero.length = sz) {kl kc : IntKind} {l c : Int}
    (h0 : 0 ≤ l) (hlc : l ≤ c) (hb : (ti.bytes : Int) * c ≤ 281474976710656) (h63 : c ≤ 9223372036854775807) (p : Option Prop) (rd : List Nat) :
    Runs P cx r H w nm wd ⟨p, one (.os nm 0 l.toNat), [(nm, some ⟨e, l.toNat, sz, false, fun _ => nth ti.zero⟩)], rd⟩ (do pure (.value (← Instr.makeSlice t (.int kl l) (.int kc c)))) := by
  obtain ⟨i, z, hi, hszi, hz, hl, hall, hby⟩ := (hT e ti hTe).info
  have hi' : i.size = sz := by rw [← hes]; simp [szN, hi]
  subst hi'
  obtain ⟨hzs, hzr⟩ := zero_rel (r := r) (w := w) (X := cx.X) (W := wr r H) hl hall
  have hrun := run_make (P := P) w t e i z ht hi hz kl kc l c h0 hlc (by rw [hby]; exact hb) h63
  refine ⟨.slice (some ⟨w.heap.size, 0, none⟩) l.toNat c.toNat, w.alloc (.cells (madeCells z.cells (c.toNat * i.size)) e), .inl (by simp only [Sem.run_bind, hrun, Result.andThen_ok, Sem.run_pure]), ?_⟩
  refine new_left st hfr hwd dead_none e (madeCells z.cells (c.toNat * i.size)) l.toNat i.size c.toNat false (fun _ => nth ti.zero) hsz (fun h => by cases h) ?_ (by omega) ?_ ?_ ?_ ?_ ?_ ?_ ?_
  · rw [size_madeCells]
  · intro q hq j hj u hu
    have hlt : q * i.size + j < c.toNat * i.size := idx_lt hq hj (by omega)
    simp only [madeCells, Array.getElem?_map, Array.getElem?_range, hlt, if_true, Option.map_some, Option.some.injEq] at hu
    have hm : (q * i.size + j) % z.cells.size = j := by rw [hzs, hzl, Nat.mul_comm, Nat.mul_add_mod, Nat.mod_eq_of_lt hj]
    rw [hm] at hu
    have hj' : j < z.cells.size := by rw [hzs, hzl]; exact hj
    rw [getElem!_pos z.cells j hj'] at hu
    exact hzr j u (by rw [← hu]; exact Array.getElem?_eq_getElem hj')
  · rfl
  · rfl
  · rfl
  · rfl
  · rfl
  · intro r' h W w'
    exact ⟨_, _, rfl, by omega, fun _ => ⟨_, h, by simp, by simp⟩⟩

theorem parts_ok {X W : Nat → Prop} {sz N : Nat} (hsz : 0 < sz) : ∀ (ps : List (Nat × FV)) (qs : List (Nat × Value)) (f g : Nat → Nat → CV) (cs : Array Value), cs.size = N * sz → (∀ i, i < N → ∀ j, j < sz → ∀ u, cs[i * sz + j]? = some u → (f i j).rel r X W w u) →
    ps.length = qs.length → (∀ (i : Nat) p q, ps[i]? = some p → qs[i]? = some q → p.1 = q.1 ∧ p.2.rel r X W w q.2) → partsF sz N f ps = some g →
    ∃ cs', Instr.fill (fun i => some (i * sz, sz)) cs qs = some cs' ∧ cs'.size = N * sz ∧ ∀ i, i < N → ∀ j, j < sz → ∀ u, cs'[i * sz + j]? = some u → (g i j).rel r X W w u := by
  intro ps
  induction ps with
  | nil =>
    intro qs f g cs hN hf hl hr h
    have : qs = [] := List.eq_nil_of_length_eq_zero hl.symm
    subst this
    injection h with h
    subst h
    exact ⟨cs, rfl, hN, hf⟩
  | cons p ps ih =>
    intro qs f g cs hN hf hl hr h
    match qs, hl with
    | q :: qs, hl =>
      obtain ⟨i, x⟩ := p
      obtain ⟨j, v⟩ := q
      obtain ⟨hij, hrel⟩ := hr 0 (i, x) (j, v) rfl rfl
      simp only at hij hrel
      subst hij
      cases x with
      | top => cases h
      | tup => cases h
      | e x =>
        simp only [partsF] at h
        split at h
        · rename_i n gg hcs
          obtain ⟨h1, h2, h3⟩ := cells_rel hrel hcs
          cases hb : (Nat.beq n sz && Nat.blt i N) with
          | false => rw [hb] at h; cases h
          | true =>
            rw [hb, cond_true] at h
            simp only [Bool.and_eq_true] at hb
            have e1 : n = sz := Nat.eq_of_beq_eq_true hb.1
            have e2 : i < N := Nat.le_of_ble_eq_true hb.2
            have hlen : v.cells.toList.length = sz := by simp; omega
            have hrow := row_lt (sz := sz) e2
            have hfold : (v.cells.zipIdx.foldl (fun cs (x : Value × Nat) => cs.setIfInBounds (i * sz + x.2) x.1) cs) = ovl cs (i * sz) v.cells.toList := by
              rw [← Array.foldl_toList, Array.toList_zipIdx]
              have := zip_foldl (i * sz) v.cells.toList 0 cs
              rw [Nat.add_zero] at this
              exact this
            obtain ⟨cs', h4, h5, h6⟩ := ih qs (fun k j => selC (Nat.beq k i) (gg j) (f k j)) g (ovl cs (i * sz) v.cells.toList) (by rw [ovl_size]; exact hN) (fun k hk j hj u hu => by
              rw [ovl_get _ _ _ (by rw [hlen, hN]; omega), hlen] at hu
              show (selC (Nat.beq k i) (gg j) (f k j)).rel r X W w u
              rw [selC_eq]
              by_cases hki : k = i
              · subst hki
                rw [show Nat.beq k k = true by simp, cond_true]
                rw [if_pos (by omega), show k * sz + j - k * sz = j by omega] at hu
                exact h2 j u (by simpa using hu)
              · have hbk : Nat.beq k i = false := by
                  cases hbk : Nat.beq k i with
                  | false => rfl
                  | true => exact absurd (Nat.eq_of_beq_eq_true hbk) hki
                rw [hbk, cond_false]
                have hout : ¬ (i * sz ≤ k * sz + j ∧ k * sz + j < i * sz + sz) := fun hh => by
                  rcases Nat.lt_trichotomy k i with h | h | h
                  · have := row_lt (sz := sz) h; omega
                  · exact hki h
                  · have := row_lt (sz := sz) h; omega
                rw [if_neg hout] at hu
                exact hf k hk j hj u hu) (by simpa using hl) (fun k p q hp hq => hr (k + 1) p q hp hq) h
            refine ⟨cs', ?_, h5, h6⟩
            rw [Instr.fill]
            simp only
            rw [if_neg (by simp; exact ⟨by omega, by omega⟩), hfold]
            exact h4
        · cases h

/-- a slice literal -/
theorem step_lit (hT : TysOk P T) (st : St cx r H w) (hfr : Free r H nm wd) (hwd : 0 < wd) {t e : TypeId} {ti : TI} (ht : P.underlying t = some (.slice e)) (hTe : T e = some ti) {sz : Nat} (hsz : 0 < sz) (hes : szN P e = sz) (hzl : ti.zero.length = sz) {len : Nat} (hle : len * sz ≤ 16777216)
    {parts : Array (Nat × Operand)} {f : Nat → Nat → CV} (hf : ∀ x, (ev fr x).rel r cx.X (wr r H) w (a.eval x)) (hp : partsF sz len (fun _ => nth ti.zero) (parts.toList.map fun p => (p.1, ev fr p.2)) = some f) :
    Runs P cx r H w nm wd ⟨none, one (.os nm 0 len), [(nm, some ⟨e, len, sz, false, f⟩)], []⟩ (do pure (.value (← Instr.buildSlice t len (parts.map fun (i, x) => (i, a.eval x))))) := by
  obtain ⟨i, z, hi, hszi, hz, hl, hall, hby⟩ := (hT e ti hTe).info
  have hi' : i.size = sz := by rw [← hes]; simp [szN, hi]
  subst hi'
  obtain ⟨hzs, hzr⟩ := zero_rel (r := r) (w := w) (X := cx.X) (W := wr r H) hl hall
  obtain ⟨h3, h4⟩ := parts_rel hf parts
  obtain ⟨cs, h5, h6, h7⟩ := parts_ok (r := r) (w := w) (X := cx.X) (W := wr r H) (N := len) hsz _ _ _ _ (madeCells z.cells (len * i.size)) (size_madeCells _ _) (fun q hq j hj u hu => by
    have hlt : q * i.size + j < len * i.size := idx_lt hq hj (Nat.le_refl _)
    simp only [madeCells, Array.getElem?_map, Array.getElem?_range, hlt, if_true, Option.map_some, Option.some.injEq] at hu
    have hm : (q * i.size + j) % z.cells.size = j := by rw [hzs, hzl, Nat.mul_comm, Nat.mul_add_mod, Nat.mod_eq_of_lt hj]
    rw [hm] at hu
    have hj' : j < z.cells.size := by rw [hzs, hzl]; exact hj
    rw [getElem!_pos z.cells j hj'] at hu
    exact hzr j u (by rw [← hu]; exact Array.getElem?_eq_getElem hj')) h3 h4 hp
  have hrun : (Instr.buildSlice t len (parts.map fun (i, x) => (i, a.eval x))).run P w = .ok (.slice (some ⟨w.heap.size, 0, none⟩) len len) (w.alloc (.cells cs e)) := by
    have h24 : ¬ (16777216 < len * i.size) := by omega
    by_cases h0 : len * i.size = 0
    · have hm : madeCells z.cells (len * i.size) = #[] := by simp [madeCells, h0]
      rw [hm] at h5
      have h5'' : Instr.fill (fun i_1 => some (i_1 * i.size, i.size)) #[] (List.map (fun x => (x.fst, a.eval x.snd)) parts.toList) = some cs := by simpa using h5
      simp [Instr.buildSlice, run_underlying ht, sizeOf, typeInfo, hi, h24, h0, newRow, Array.range_zero', h5'']
    · have h5' : Instr.fill (fun i_1 => some (i_1 * i.size, i.size)) (Array.map (fun x => z.cells[x % z.cells.size]!) (Array.range (len * i.size))) (parts.map fun (i, x) => (i, a.eval x)).toList = some cs := h5
      simp only [Instr.buildSlice, Sem.run_bind, run_underlying ht, Result.andThen_ok, run_size hi, run_zero hi hz, h24, h0, if_false, Sem.run_pure]
      simp only [h5']
      simp [newRow, h24]
  refine ⟨.slice (some ⟨w.heap.size, 0, none⟩) len len, w.alloc (.cells cs e), .inl (by simp only [Sem.run_bind, hrun, Result.andThen_ok, Sem.run_pure]), ?_⟩
  refine new_left st hfr hwd dead_none e cs len i.size len false f hsz (fun h => by cases h) h6 (Nat.le_refl _) h7 ?_ ?_ ?_ ?_ ?_ ?_
  · rfl
  · rfl
  · rfl
  · rfl
  · rfl
  · intro r' h W w'
    exact ⟨_, _, rfl, Nat.le_refl _, fun _ => ⟨_, h, by simp, by simp⟩⟩
end
end Go.Proofs.Ytjknkfjhcapocaa.AX
