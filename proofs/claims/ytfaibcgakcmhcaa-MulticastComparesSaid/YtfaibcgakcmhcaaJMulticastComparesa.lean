/- Texts of one's own in one file: Words, Gl, B, BOp, BSound, BEq, BStep, BSlice, BCopy, BMap, BZero, BOk. -/
import Derived.WalkKit
import Derived.OpenShut
import Derived.Below
import Derived.Lib.Hide
import Derived.Laws.OwnMore
import Derived.Laws.Rows
import Derived.Deep.AppendLies
import Derived.Deep.Draws
import Derived.Deep.QuietTactic
import Derived.Orders
import Derived.Laws.Entries
import Derived.Laws.StructEq
import Derived.ChangeKeysEq
import Derived.Laws.AppendOwn
import Derived.Laws.MakeOwn
import Derived.MapKept
set_option linter.unusedVariables false
set_option linter.unusedSimpArgs false
set_option maxHeartbeats 16000000
set_option maxRecDepth 20000
namespace Go.Proofs.Ytfaibcgakcmhcaa
open Go.RowKit
theorem zCW (a : Addr) (n : Nat) : (a.add n).block = a.block:=by unfold Addr.add;split<;>rfl
theorem zGR (a : Addr) (i j : Nat) : (a.add i).add j = a.add (i + j):=by
 unfold Addr.add;by_cases hi : i = 0<;>by_cases hj : j = 0<;>simp [hi,hj,Nat.add_assoc]
theorem zCt (a : Addr) : a.add 0 = a:=by unfold Addr.add;simp
theorem zBr {w : World} {p : Addr} {u : Value} (h : w.cell? p = some u) : p.block < w.heap.size:=by
 rcases Nat.lt_or_ge p.block w.heap.size with h1 | h1
 . exact h1
 . have : w.heap[p.block]? = none:=Array.getElem?_eq_none h1;simp [World.cell?,this] at h
def Blk (w : World) (g : Nat) (t : TypeId) (cs : List Value) : Prop:=w.heap[g]? = some (.cells cs.toArray t (0,0))
section
variable {w w' : World} {g : Nat} {t : TypeId} {cs : List Value}
theorem Blk.lt (h : Blk w g t cs) : g < w.heap.size:=by
 rcases Nat.lt_or_ge g w.heap.size with hlt | hge
 . exact hlt
 . unfold Blk at h;rw [Array.getElem?_eq_none hge] at h;cases h
theorem Blk.cell (h : Blk w g t cs) (i : Nat) : w.cell? ⟨g,i,none⟩ = cs[i]?:=by
 rw [cell_of_row w g i cs.toArray t (0,0) h];simp
theorem Blk.frozen (h : Blk w g t cs) (i : Nat) : w.frozen? ⟨g,i,none⟩ = false:=by
 unfold Blk at h;simp [World.frozen?,h]
theorem Blk.new (w : World) (t : TypeId) (cs : List Value) : Blk (w.alloc (.cells cs.toArray t)) w.heap.size t cs:=heap_alloc_new w _
theorem Blk.drew (h : Blk w g t cs) : Blk w.drew g t cs:=h
theorem Blk.alloc (h : Blk w g t cs) (o : Obj) : Blk (w.alloc o) g t cs:=(Below.heap_alloc w o g h.lt).trans h
theorem Blk.far (h : Blk w g t cs) {p : Addr} (hp : g ≠ p.block) (u : Value) : Blk (w.setCell p u) g t cs:=(Below.heap_setCell w p u g hp).trans h
theorem Blk.below (h : Blk w g t cs) (hb : Below w.heap.size w w') : Blk w' g t cs:=(hb.block g h.lt).trans h
end
def Row (w : World) (A : Option Addr) (xs : List Value) : Prop:=∀ (j : Nat) (u : Value),xs[j]? = some u -> ∃ ad,A = some ad /\ w.cell? (ad.add j) = some u
section
variable {w w' : World} {A : Option Addr} {xs ys : List Value}
theorem Row.nil : Row w A []:=λj u h=>by simp at h
theorem Row.cell (h : Row w A xs) {k : Nat} (hk : k < xs.length) : ∃ ad,A = some ad /\ ad.block < w.heap.size /\ w.cell? (ad.add k) = some xs[k]:=by
 obtain ⟨ad,e,hc⟩:=h k xs[k] (List.getElem?_eq_getElem hk);exact ⟨ad,e,by have:=zBr hc;rwa [zCW] at this,hc⟩
theorem Row.keep (h : Row w A xs) (hk : ∀ p : Addr,p.block < w.heap.size -> w'.cell? p = w.cell? p) : Row w' A xs:=λj u hu=>by
 obtain ⟨ad,e,hc⟩:=h j u hu;exact ⟨ad,e,(hk _ (zBr hc)).trans hc⟩
theorem Row.below (h : Row w A xs) (hb : Below w.heap.size w w') : Row w' A xs:=h.keep λ_ hp=>hb.cell hp
theorem Row.drew (h : Row w A xs) : Row w.drew A xs:=h
theorem Row.alloc (h : Row w A xs) (o : Obj) : Row (w.alloc o) A xs:=h.keep λp hp=>World.cell?_alloc_lt w o p hp
theorem Row.take (h : Row w A xs) (n : Nat) : Row w A (xs.take n):=λj u hu=>by
 rw [List.getElem?_take] at hu;split at hu
 . exact h j u hu
 . cases hu
theorem Row.drop (h : Row w A xs) (k : Nat) : Row w (A.map (·.add k)) (xs.drop k):=λj u hu=>by
 rw [List.getElem?_drop] at hu;obtain ⟨ad,rfl,hc⟩:=h _ u hu;exact ⟨ad.add k,rfl,by rw [zGR];exact hc⟩
theorem Row.cut (h : Row w A xs) {k cap : Nat} (hc : xs.length <= cap) : Row w (if cap = k then A else A.map (·.add k)) (xs.drop k):=by
 split
 . rw [List.drop_eq_nil_of_le (by omega)];exact Row.nil
 . exact h.drop k
end
def bv (l : List UInt8) : List Value:=l.map λc=>.int .u8 (c.toNat : Int)
@[simp] theorem bv_length (l : List UInt8) : (bv l).length = l.length:=by simp [bv]
theorem bv_take (l : List UInt8) (k : Nat) : (bv l).take k = bv (l.take k):=by simp [bv]
theorem Row.byte {w : World} {A : Option Addr} {l : List UInt8} (h : Row w A (bv l)) {k : Nat} (hk : k < l.length) :
 ∃ ad,A = some ad /\ ad.block < w.heap.size /\ w.cell? (ad.add k) = some (.int .u8 (l[k].toNat : Int)):=by
 obtain ⟨ad,e,hb,hc⟩:=h.cell (k:=k) (by simpa using hk);exact ⟨ad,e,hb,by simpa [bv] using hc⟩
theorem Row.place {w : World} {A : Option Addr} {xs : List Value} (h : Row w A xs) (hx : 0 < xs.length) :
 ∃ b off,A = some ⟨b,off,none⟩ /\ b < w.heap.size /\ ∀ j u,xs[j]? = some u -> w.cell? ⟨b,off + j,none⟩ = some u:=by
 obtain ⟨⟨b,off,spot⟩,e,hb,hc⟩:=h.cell hx;have hs : spot = none:=by simpa [Addr.add] using World.cell?_spot hc
 subst hs;refine ⟨b,off,e,hb,λj u hu=>?_⟩;obtain ⟨ad,e',hc'⟩:=h j u hu;rw [e] at e';injection e' with e';subst e';rw [<- hc'];congr 1
 unfold Addr.add;split<;>simp_all
theorem Row.bytes {w : World} {A : Option Addr} {l : List UInt8} (h : Row w A (bv l)) (hx : 0 < l.length) :
 ∃ b off,A = some ⟨b,off,none⟩ /\ b < w.heap.size /\ ∀ (k : Nat) (hk : k < l.length),w.cell? ⟨b,off + k,none⟩ = some (.int .u8 (l[k].toNat : Int)):=by
 obtain ⟨b,off,e,hb,hc⟩:=h.place (by simpa using hx);exact ⟨b,off,e,hb,λk hk=>hc k _ (by simp [bv,List.getElem?_eq_getElem hk])⟩
def Parts (w : World) (A : Option Addr) (ls : List (List UInt8)) : Prop:=
 ∀ (j : Nat) (l : List UInt8),ls[j]? = some l -> ∃ ad B c,A = some ad /\ w.cell? (ad.add j) = some (.slice B l.length c) /\ l.length <= c /\ Row w B (bv l)
theorem Parts.cell {w : World} {A : Option Addr} {ls : List (List UInt8)} (h : Parts w A ls) {k : Nat} (hk : k < ls.length) :
 ∃ ad B c,A = some ad /\ ad.block < w.heap.size /\ w.cell? (ad.add k) = some (.slice B ls[k].length c) /\ Row w B (bv ls[k]):=by
 obtain ⟨ad,B,c,e,hc,_,hr⟩:=h k ls[k] (List.getElem?_eq_getElem hk);exact ⟨ad,B,c,e,by have:=zBr hc;rwa [zCW] at this,hc,hr⟩
theorem Parts.below {w w' : World} {A : Option Addr} {ls : List (List UInt8)} (h : Parts w A ls) (hb : Below w.heap.size w w') : Parts w' A ls:=λj l hl=>by
 obtain ⟨ad,B,c,e,hc,hle,hr⟩:=h j l hl;exact ⟨ad,B,c,e,(hb.cell (zBr hc)).trans hc,hle,hr.below hb⟩
def Sl (w : World) (v : Value) (l : List UInt8) : Prop:=∃ A c,v = .slice A l.length c /\ l.length <= c /\ Row w A (bv l)
theorem Sl.below {w w' : World} {v : Value} {l : List UInt8} (h : Sl w v l) (hb : Below w.heap.size w w') : Sl w' v l:=by
 obtain ⟨A,c,e,hc,hr⟩:=h;exact ⟨A,c,e,hc,hr.below hb⟩
def IsRow (k : IntKind) (w : World) (a : Option Addr) (len cap : Nat) (zs : List Int) : Prop:=
 (a = none /\ len = 0 /\ cap = 0 /\ zs = []) \/
 ∃ x,a = some x /\ len <= cap /\ cap <= maxLen /\ zs.length = cap /\ (∀ i,i < zs.length -> w.cell? (x.add i) = some (.int k (zs.getD i 0))) /\ ∀ n ∈ zs,(Lit.int k n).wf = true
theorem IsRow.bytes {w : World} {a : Option Addr} {len cap : Nat} {zs : List Int} (h : IsRow .u8 w a len cap zs) : ∃ l : List UInt8,l.length = len /\ len <= cap /\ cap <= maxLen /\ Row w a (bv l):=by
 rcases h with ⟨rfl,rfl,rfl,rfl⟩ | ⟨x,rfl,hl,hm,hz,hc,hw⟩
 . exact ⟨[],rfl,Nat.le_refl _,by simp [maxLen],Row.nil⟩
 . refine ⟨(zs.take len).map λn=>UInt8.ofNat n.toNat,by simp;omega,hl,hm,λj u hu=>⟨x,rfl,?_⟩⟩;simp [bv,List.getElem?_take] at hu;obtain ⟨hj,z,hz1,rfl⟩:=hu;have hjz : j < zs.length:=(List.getElem?_eq_some_iff.1 hz1).1;rw [hc j hjz];have e : zs.getD j 0 = z:=by simp [hz1]
   have hwf:=bounds_u8 (hw z (List.mem_of_getElem? hz1));rw [e];simp only [Option.some.injEq,Value.int.injEq,true_and];omega
end Go.Proofs.Ytfaibcgakcmhcaa
namespace Go.Proofs.Ytfaibcgakcmhcaa.AX
def GL : List (Nat × List (IntKind × Int)):=[]
end Go.Proofs.Ytfaibcgakcmhcaa.AX
namespace Go.Proofs.Ytfaibcgakcmhcaa.AX
open Go.RowKit
theorem zb0 : (∀ (p : Prop) [Decidable p],(decide p = true) = p) /\ (∀ (p : Prop) [Decidable p],decide p = false ↔ ¬ p) /\ (∀ b : Bool,((!b) = true) = (b = false)) /\ (∀ b : Bool,((!b) = false) = (b = true)) /\ (∀ (α : Type) [BEq α] [LawfulBEq α] (a b : α),(a == b) = true ↔ a = b) /\ (∀ (α : Type) [BEq α] [LawfulBEq α] (a b : α),(a == b) = false ↔ a ≠ b) /\ (∀ (α : Type) [BEq α] [LawfulBEq α] (a b : α),(a != b) = true ↔ a ≠ b) /\ (∀ (α : Type) [BEq α] [LawfulBEq α] (a b : α),(a != b) = false ↔ a = b) /\ ((true = false) = False) /\ ((false = true) = False):=⟨λp _=>decide_eq_true_eq,λp _=>decide_eq_false_iff_not,λb=>Bool.not_eq_true' b,λb=>Bool.not_eq_false' b,fun α _ _ a b=>beq_iff_eq,fun α _ _ a b=>beq_eq_false_iff_ne,fun α _ _ a b=>bne_iff_ne,fun α _ _ a b=>bne_eq_false_iff_eq,Bool.true_eq_false,Bool.false_eq_true⟩
theorem zw0 {p : Prop} (h : p:=by first | exact trivial | exact rfl | exact zF rfl | exact zB rfl | exact zG rfl | exact zM (zO _ _) | exact zM (cl_slR _ _) | exact zM (cl_ll _ _) | exact zD (zH rfl rfl)) : p:=h
theorem zw1 {p : Prop} (h : p:=by first | exact zE (λ_ _=>(Elem.flat _ _ _).le) | exact zE (λ_ _=>zDJ)) : p:=h
theorem zw2 {p : Prop} (h : p:=by first | exact trivial | exact rfl | exact zC rfl | exact zW rfl) : p:=h
theorem zaw {p : Prop} (h : p:=by first | (dsimp only;rw [IntWalk.i64_in _ (by omega)];omega) | (dsimp only;rw [IntWalk.i64_in _ (by omega)];done) | (dsimp only;exact IntWalk.i64_in _ (by omega)) | exact IntWalk.i64_in _ (by omega) | (rw [IntWalk.i64_in _ (by omega)];omega)) : p:=h
theorem zj {p : Prop} (h : p:=by first | exact trivial | decide | omega | (dsimp only;omega) | exact λ_ _=>rfl | exact ⟨by assumption,by first | exact trivial | decide | omega | (dsimp only;omega)⟩) : p:=h
theorem zp0 {p : Prop} (h : p:=by first | exact trivial | decide | omega | (dsimp only;omega) | exact λ_ _=>rfl) : p:=h
theorem zn1 {p q : Prop} (hc : p) (h : p -> False:=by (intro hc;first | exact absurd hc (by decide) | exact absurd rfl hc | exact absurd hc (by assumption) | exact absurd (by assumption) hc)) : q:=(h hc).elim
theorem zn2 {p q : Prop} (hc : p) (h : p -> False:=by (intro hc;first | exact absurd rfl hc | exact absurd hc (by assumption) | exact absurd (by assumption) hc)) : q:=(h hc).elim
theorem zn3 {p q : Prop} (hc : p) (h : p -> False:=by (intro hc;first | exact absurd hc (by decide) | exact hc (by decide))) : q:=(h hc).elim
theorem zt8 {p : Prop} (h : p:=by (intro j hj;(iterate 38 (rcases j with _ | j;exact zC rfl));exact absurd hj (by omega))) : p:=h
theorem zt6 {p : Prop} (h : p:=by (intro i hi;(iterate 16 (rcases i with _ | i;exact zC rfl));exact absurd hi (by omega))) : p:=h
theorem zwf {p : Prop} (h : p:=by repeat' (first | exact trivial | exact rfl | exact zF rfl | exact zB rfl | exact zG rfl | exact zM (zO _ _) | exact zM (cl_slR _ _) | exact zM (cl_ll _ _) | exact zD (zH rfl rfl) | refine zB ?_ | refine zG ?_ | exact zE (λ_ _=>(Elem.flat _ _ _).le) | exact zE (λ_ _=>zDJ) | apply And.intro)) : p:=h
theorem zt9 {p : Prop} (h : p:=by (intro j hj;(iterate 38 (rcases j with _ | j;exact zC rfl));exact absurd hj (by show ¬ _ < 38;omega))) : p:=h
theorem zq1 {p : Prop} (h : p:=by exact ⟨ZZ ⟨leE_tl (by exact zt8) zq,zC rfl,trivial⟩,rdN_le rfl⟩) : p:=h
theorem zq2 {p : Prop} (h : p:=by exact ⟨ZZ ⟨zEl rfl (by exact zt6),zC rfl,trivial⟩,rdN_le rfl⟩) : p:=h
theorem zq3 {p : Prop} (h : p:=by (refine Done.mk (ZZ ⟨leE_tail rfl (λj hj=>?_) (qi rfl),zC rfl,trivial⟩);(iterate 38 (rcases j with _ | j;exact zC rfl));exact absurd hj (by show ¬ _ < 38;omega))) : p:=h
theorem zq4 {p : Prop} (h : p:=by (refine Done.mk (ZZ ⟨leE_tail rfl (λj hj=>?_) (qi rfl),zC rfl,zC rfl,trivial⟩);(iterate 38 (rcases j with _ | j;exact zC rfl));exact absurd hj (by show ¬ _ < 38;omega))) : p:=h
theorem zno {a b : Nat} {p : Prop} (hk : a <= b) (h : Nat.ble a b = false:=by exact rfl) : p:=Bool.noConfusion ((Nat.ble_eq_true_of_le hk).symm.trans h)
theorem zab {a b : Nat} {p : Prop} (hk : a < b) (h : b <= 6:=by exact Nat.le_of_ble_eq_true rfl) (h2 : 6 <= a:=by omega) : p:=absurd hk (Nat.not_lt.2 (Nat.le_trans h h2))
theorem zl : type_of% zb0 /\ (∀ (α : Type) (a b : α),(a ≠ b) = ¬ (a = b)) /\ (¬ True) = False:=⟨zb0,fun α a b=>ne_eq a b,not_true_eq_false⟩
theorem zg2 : True /\ True:=⟨trivial,trivial⟩
theorem zg3 : True /\ True /\ True:=⟨trivial,trivial,trivial⟩
theorem zg4 : True /\ True /\ True /\ True:=⟨trivial,trivial,trivial,trivial⟩
theorem zg5 : True /\ True /\ True /\ True /\ True:=⟨trivial,trivial,trivial,trivial,trivial⟩
theorem zg6 : True /\ True /\ True /\ True /\ True /\ True:=⟨trivial,trivial,trivial,trivial,trivial,trivial⟩
theorem zg7 : True /\ True /\ True /\ True /\ True /\ True /\ True:=⟨trivial,trivial,trivial,trivial,trivial,trivial,trivial⟩
theorem zg8 : True /\ True /\ True /\ True /\ True /\ True /\ True /\ True:=⟨trivial,trivial,trivial,trivial,trivial,trivial,trivial,trivial⟩
inductive CV where
 | top
 | int (k : IntKind) (n : Int)
 | bool (b : Bool)
 | ptr (nm i j : Nat) (sym : Bool)
 | nilp
 | sl (sh : Bool) (n sz : Nat) (f : Nat -> Nat -> CV)
 | rp (sh : Bool) (m : Nat) (g : Nat -> CV)
 | os (nm i n : Nat)
 | oa (nm i j n es : Nat)
 | nils
 | mp (nm : Nat)
 | fn (f : FuncId) (n m : Nat) (a : Nat -> CV)
inductive EV where
 | c (x : CV)
 | agg (n : Nat) (f : Nat -> CV)
inductive FV where
 | top
 | e (x : EV)
 | tup (l : List EV)
structure Ent where
 t : TypeId
 n : Nat
 sz : Nat
 v : Bool
 f : Nat -> Nat -> CV
def zAa : Value -> Prop
 | .agg _=>False
 | .tuple _=>False
 | _=>True
structure Bi where
 b : Nat
 sz : Nat
 c : Nat
abbrev QK:=Nat -> Option Bi
def At (r : QK) (k : Nat) (x : Bi) : Prop:=r k = some x /\ 0 < x.sz
def CV.rel (r : QK) (X W : Nat -> Prop) (w : World) : CV -> Value -> Prop
 | .top,v=>zAa v
 | .int k n,v=>v = .int k n
 | .bool b,v=>v = .bool b
 | .ptr nm i j _,v=>∃ x,At r nm x /\ v = .pointer (some ⟨x.b,i * x.sz + j,none⟩)
 | .nilp,v=>v = .pointer none
 | .sl sh n sz f,v=>∃ a cap,v = .slice a n cap /\ n <= cap /\
    (0 < n -> ∃ ad,a = some ad /\ ad.spot = none /\ ¬ W ad.block /\ (sh = true -> ¬ X ad.block) /\ ad.block < w.heap.size /\ ∀ i,i < n -> ∀ j,j < sz -> ∃ u,w.cell? ⟨ad.block,ad.off + (i * sz + j),none⟩ = some u /\ (f i j).rel r X W w u)
 | .rp sh m g,v=>∃ ad,v = .pointer (some ad) /\ ad.spot = none /\ ¬ W ad.block /\ (sh = true -> ¬ X ad.block) /\ ad.block < w.heap.size /\ ∀ j,j < m -> ∃ u,w.cell? ⟨ad.block,ad.off + j,none⟩ = some u /\ (g j).rel r X W w u
 | .os nm i n,v=>∃ a cap,v = .slice a n cap /\ n <= cap /\ (0 < cap -> ∃ x,At r nm x /\ a = some ⟨x.b,i * x.sz,none⟩ /\ i + cap = x.c)
 | .oa nm i j n _,v=>∃ a cap,v = .slice a n cap /\ n <= cap /\ (0 < n -> ∃ x,At r nm x /\ a = some ⟨x.b,i * x.sz + j,none⟩)
 | .nils,v=>v = .slice none 0 0
 | .mp nm,v=>∃ x,r nm = some x /\ x.sz = 0 /\ v = .map (some x.b)
 | .fn f n m a,v=>∃ fs cs,v = .func (.func f) fs cs /\ fs.size = n /\ cs.size = m /\ (∀ k u,fs[k]? = some u -> (a k).rel r X W w u) /\ ∀ k u,cs[k]? = some u -> (a (n + k)).rel r X W w u
def EV.rel (r : QK) (X W : Nat -> Prop) (w : World) : EV -> Value -> Prop
 | .c x,v=>x.rel r X W w v
 | .agg n f,v=>∃ cs,v = .agg cs /\ cs.size = n /\ ∀ i u,cs[i]? = some u -> (f i).rel r X W w u
def FV.rel (r : QK) (X W : Nat -> Prop) (w : World) : FV -> Value -> Prop
 | .top,_=>True
 | .e x,v=>x.rel r X W w v
 | .tup l,v=>∃ vs,v = .tuple vs /\ vs.size = l.length /\ ∀ (i : Nat) x u,l[i]? = some x -> vs[i]? = some u -> x.rel r X W w u
theorem Yr {r X W w} : ∀ {x : CV} {v : Value},x.rel r X W w v -> zAa v:=by
 intro x v h;cases x with
 | top=>exact h
 | int=>unfold CV.rel at h;subst h;trivial
 | bool=>unfold CV.rel at h;subst h;trivial
 | ptr=>obtain ⟨b,_,rfl⟩:=h;trivial
 | nilp=>unfold CV.rel at h;subst h;trivial
 | sl=>obtain ⟨a,cap,rfl,_⟩:=h;trivial
 | rp=>obtain ⟨ad,rfl,_⟩:=h;trivial
 | os=>obtain ⟨a,cap,rfl,_⟩:=h;trivial
 | oa=>obtain ⟨a,cap,rfl,_⟩:=h;trivial
 | nils=>unfold CV.rel at h;subst h;trivial
 | mp=>obtain ⟨x,_,_,rfl⟩:=h;trivial
 | fn=>obtain ⟨fs,cs,rfl,_⟩:=h;trivial
structure Ext (r : QK) (W : Nat -> Prop) (w : World) (r' : QK) (W' : Nat -> Prop) (w' : World) : Prop where
 names : ∀ nm b,r nm = some b -> r' nm = some b
 size : w.heap.size <= w'.heap.size
 kept : ∀ b,b < w.heap.size -> ¬ W b -> w'.heap[b]? = w.heap[b]?
 own : ∀ b,b < w.heap.size -> W' b -> W b
theorem Ext.refl (r W w) : Ext r W w r W w:=⟨λ_ _ h=>h,Nat.le_refl _,λ_ _ _=>rfl,λ_ _ h=>h⟩
theorem Ext.trans {r W w r1 W1 w1 r2 W2 w2} (h : Ext r W w r1 W1 w1) (k : Ext r1 W1 w1 r2 W2 w2) : Ext r W w r2 W2 w2:=
 ⟨λnm b e=>k.names _ _ (h.names _ _ e),Nat.le_trans h.size k.size,
  λb hb ho=>(k.kept b (Nat.lt_of_lt_of_le hb h.size) (λo1=>ho (h.own b hb o1))).trans (h.kept b hb ho),
  λb hb o=>h.own b hb (k.own b (Nat.lt_of_lt_of_le hb h.size) o)⟩
theorem zA6 {w w' : World} {b o : Nat} (h : w'.heap[b]? = w.heap[b]?) : w'.cell? ⟨b,o,none⟩ = w.cell? ⟨b,o,none⟩:=by
 unfold World.cell?;rw [h]
theorem CV.rel_ext {r X W w r' W' w'} (h : Ext r W w r' W' w') : ∀ (x : CV) (v : Value),x.rel r X W w v -> x.rel r' X W' w' v:=by
 intro x;induction x with
 | top=>intro v h1;exact h1
 | int=>intro v h1;exact h1
 | bool=>intro v h1;exact h1
 | ptr nm i j s=>rintro v ⟨b,hb,rfl⟩;exact ⟨b,⟨h.names _ _ hb.1,hb.2⟩,rfl⟩
 | nilp=>intro v h1;exact h1
 | sl sh n sz f ih=>
   rintro v ⟨a,cap,rfl,hn,hx⟩;refine ⟨a,cap,rfl,hn,λh0=>?_⟩;obtain ⟨ad,rfl,hs,ho,hX,hlt,hcell⟩:=hx h0;refine ⟨ad,rfl,hs,λo'=>ho (h.own _ hlt o'),hX,Nat.lt_of_lt_of_le hlt h.size,λi hi j hj=>?_⟩;obtain ⟨u,hu,hr⟩:=hcell i hi j hj;exact ⟨u,(zA6 (h.kept _ hlt ho)).trans hu,ih i j u hr⟩
 | rp sh m g ih=>
   rintro v ⟨ad,rfl,hs,ho,hX,hlt,hcell⟩;refine ⟨ad,rfl,hs,λo'=>ho (h.own _ hlt o'),hX,Nat.lt_of_lt_of_le hlt h.size,λj hj=>?_⟩;obtain ⟨u,hu,hr⟩:=hcell j hj;exact ⟨u,(zA6 (h.kept _ hlt ho)).trans hu,ih j u hr⟩
 | os nm i n=>
   rintro v ⟨a,cap,rfl,hn,hx⟩;refine ⟨a,cap,rfl,hn,λh0=>?_⟩;obtain ⟨x,hx,h1⟩:=hx h0;exact ⟨x,⟨h.names _ _ hx.1,hx.2⟩,h1⟩
 | oa nm i j n es=>
   rintro v ⟨a,cap,rfl,hn,hx⟩;refine ⟨a,cap,rfl,hn,λh0=>?_⟩;obtain ⟨x,hx,h1⟩:=hx h0;exact ⟨x,⟨h.names _ _ hx.1,hx.2⟩,h1⟩
 | nils=>intro v h1;exact h1
 | mp nm=>rintro v ⟨x,hx,h1⟩;exact ⟨x,h.names _ _ hx,h1⟩
 | fn f n m a ih=>
   rintro v ⟨fs,cs,rfl,h1,h2,h3,h4⟩;exact ⟨fs,cs,rfl,h1,h2,λk u hu=>ih k u (h3 k u hu),λk u hu=>ih _ u (h4 k u hu)⟩
theorem EV.rel_ext {r X W w r' W' w'} (h : Ext r W w r' W' w') : ∀ (x : EV) (v : Value),x.rel r X W w v -> x.rel r' X W' w' v:=by
 intro x v;cases x with
 | c x=>exact CV.rel_ext h x v
 | agg n f=>rintro ⟨cs,rfl,hs,hc⟩;exact ⟨cs,rfl,hs,λi u hu=>CV.rel_ext h _ _ (hc i u hu)⟩
theorem FV.rel_ext {r X W w r' W' w'} (h : Ext r W w r' W' w') : ∀ (x : FV) (v : Value),x.rel r X W w v -> x.rel r' X W' w' v:=by
 intro x v;cases x with
 | top=>exact λ_=>trivial
 | e x=>exact EV.rel_ext h x v
 | tup l=>rintro ⟨vs,rfl,hs,hc⟩;exact ⟨vs,rfl,hs,λi x u hx hu=>EV.rel_ext h _ _ (hc i x u hx hu)⟩
def Zp (c : Bool) (x y : CV) : CV:=
 match x,y with
 | .int k a,.int k' b=>bif decide (k = k') then .int k (bif c then a else b) else bif c then .int k a else .int k' b
 | .bool a,.bool b=>.bool (bif c then a else b)
 | .sl sh n sz f,.sl sh' n' sz' f'=>bif decide (sh = sh') && Nat.beq sz sz' then .sl sh (bif c then n else n') sz (λi j=>bif c then f i j else f' i j) else bif c then .sl sh n sz f else .sl sh' n' sz' f'
 | x,y=>bif c then x else y
theorem QS (c : Bool) (x y : CV) : Zp c x y = bif c then x else y:=by
 unfold Zp;split
 . rename_i k a k' b;cases hk : decide (k = k') with
   | true=>have:=of_decide_eq_true hk;subst this;cases c<;>rfl
   | false=>rfl
 . cases c<;>rfl
 . rename_i sh n sz f sh' n' sz' f';cases hk : (decide (sh = sh') && Nat.beq sz sz') with
   | true=>
     rw [Bool.and_eq_true] at hk;have h1:=of_decide_eq_true hk.1;have h2:=Nat.eq_of_beq_eq_true hk.2;subst h1 h2;cases c<;>rfl
   | false=>rfl
 . rfl
theorem zBm (x y : CV) : Zp true x y = x:=by rw [QS];rfl
theorem zA7 (x y : CV) : Zp false x y = y:=by rw [QS];rfl
def qu {α : Type} (d : α) : List (Nat × α) -> Nat -> α
 | [],_=>d
 | (k,v) :: rest,t=>bif Nat.beq t k then v else qu d rest t
abbrev Fr:=List (Nat × FV)
abbrev Hp:=List (Nat × Option Ent)
def QH (fr : Fr) (t : Nat) : FV:=qu .top fr t
def zX (H : Hp) (nm : Nat) : Option Ent:=qu none H nm
theorem zn {α : Type} (d : α) (k : Nat) (v : α) (l : List (Nat × α)) : qu d ((k,v) :: l) k = v:=by simp [qu]
theorem zZ {α : Type} (d : α) {k t : Nat} (v : α) (l : List (Nat × α)) (h : t ≠ k) : qu d ((k,v) :: l) t = qu d l t:=by
 have : Nat.beq t k = false:=by
  cases hb : Nat.beq t k with
  | false=>rfl
  | true=>exact absurd (Nat.eq_of_beq_eq_true hb) h
 simp [qu,this]
structure Cx where
 w0 : World
 D : Nat -> Prop
 E : Nat -> Prop
 X : Nat -> Prop
 pin : Nat -> Option Bi
def zCl (X : Nat -> Prop) (w : World) : Prop:=∀ p ∈ GL,p.1 < w.heap.size /\ ¬ X p.1 /\ ∀ (j : Nat) (k : IntKind) (n : Int),p.2[j]? = some (k,n) -> w.cell? ⟨p.1,j,none⟩ = some (.int k n)
def Xw (X : Nat -> Prop) (w : World) : Prop:=(∀ b,X b -> b < w.heap.size) /\ zCl X w
structure CxOk (cx : Cx) : Prop where
 lt : ∀ b,cx.X b -> b < cx.w0.heap.size
 gl : zCl (λb=>cx.X b \/ cx.D b \/ cx.E b) cx.w0
def wr (r : QK) (H : Hp) (b : Nat) : Prop:=∃ nm e x,zX H nm = some e /\ r nm = some x /\ x.b = b
def mkS (t : TypeId) : Nat:=t / 4
def mkA (t : TypeId) : Bool:=Nat.beq (t / 2 % 2) 1
def mvA (t : TypeId) : Bool:=Nat.beq (t % 2) 1
def zAb (b : Bool) (n o : Nat) (f : Nat -> CV) : EV:=bif b then .agg n (λj=>f (o + j)) else .c (f o)
def keyV (t : TypeId) (sz : Nat) (f : Nat -> CV) : EV:=zAb (mkA t) (mkS t) 0 f
def elemV (t : TypeId) (sz : Nat) (f : Nat -> CV) : EV:=zAb (mvA t) (sz - mkS t) (mkS t) f
def InCells (r : QK) (X W : Nat -> Prop) (w : World) (e : Ent) (o : Option Bi) (hp : Array Obj) : Prop:=
 ∃ x cs,o = some x /\ x.sz = e.sz /\ hp[x.b]? = some (.cells cs e.t (0,0)) /\ cs.size = x.c * x.sz /\ e.n <= x.c /\ ∀ i,i < e.n -> ∀ j,j < e.sz -> ∀ u,cs[i * e.sz + j]? = some u -> (e.f i j).rel r X W w u
def zDL (e : Ent) : Prop:=e.v = false /\ (mkA e.t = false -> mkS e.t = 1) /\ mkS e.t < e.sz /\ (mvA e.t = false -> e.sz = mkS e.t + 1)
def MapIn (r : QK) (X W : Nat -> Prop) (w : World) (t : TypeId) (n sz : Nat) (f : Nat -> Nat -> CV) (es : Array MapEntry) : Prop:=
 es.size = n /\ (∀ (i j : Nat) m m',es[i]? = some m -> es[j]? = some m' -> m.key = m'.key -> i = j) /\
  ∃ π ρ : Nat -> Nat,(∀ i,i < n -> π i < n /\ ρ (π i) = i) /\ (∀ k,k < n -> ρ k < n /\ π (ρ k) = k) /\ ∀ (i : Nat) m,es[i]? = some m -> (keyV t sz (f (π i))).rel r X W w m.key /\ (elemV t sz (f (π i))).rel r X W w m.val
def InMap (r : QK) (X W : Nat -> Prop) (w : World) (e : Ent) (o : Option Bi) (hp : Array Obj) : Prop:=
 zDL e /\ ∃ x es clk,o = some x /\ x.sz = 0 /\ hp[x.b]? = some (.map es clk) /\ MapIn r X W w e.t e.n e.sz e.f es
def Yy (r : QK) (X W : Nat -> Prop) (w : World) (e : Ent) (o : Option Bi) (hp : Array Obj) : Prop:=
 0 < e.sz /\ (e.v = true -> e.n = 1) /\ ((o = none /\ e.n = 0) \/ InCells r X W w e o hp \/ InMap r X W w e o hp)
structure St (cx : Cx) (r : QK) (H : Hp) (w : World) : Prop where
 os : w.os = cx.w0.os
 tape : w.tape = cx.w0.tape
 output : w.output = cx.w0.output
 size : cx.w0.heap.size <= w.heap.size
 kept : ∀ b,b < cx.w0.heap.size -> ¬ cx.E b -> w.heap[b]? = cx.w0.heap[b]?
 xlt : CxOk cx
 dom : ∀ nm x,r nm = some x -> x.b < w.heap.size /\ (cx.w0.heap.size <= x.b \/ cx.D x.b) /\ ¬ cx.X x.b
 ow : ∀ nm e x,zX H nm = some e -> r nm = some x -> cx.w0.heap.size <= x.b \/ cx.E x.b
 inj : ∀ n m e e' x y,zX H n = some e -> zX H m = some e' -> r n = some x -> r m = some y -> x.b = y.b -> n = m
 pin : ∀ k b,cx.pin k = some b -> r k = some b
 blk : ∀ nm e,zX H nm = some e -> Yy r cx.X (wr r H) w e (r nm) w.heap
def YW (cx : Cx) (r : QK) (H : Hp) (w : World) (fr : Fr) (tmps : Array Value) : Prop:=
 ∀ t,(QH fr t).rel r cx.X (wr r H) w (tmps.getD t undef)
theorem YW.ext {cx r H w r' H' w' fr tmps} (h : YW cx r H w fr tmps) (e : Ext r (wr r H) w r' (wr r' H') w') : YW cx r' H' w' fr tmps:=
 λt=>FV.rel_ext e _ _ (h t)
theorem zBY {r H H'} (h : ∀ nm,zX H nm = zX H' nm) : wr r H = wr r H':=by
 funext b
 simp [wr,h]
theorem St.congr {cx r H H' w} (h : ∀ nm,zX H nm = zX H' nm) (s : St cx r H w) : St cx r H' w:=by
 have ho:=zBY (r:=r) h;refine ⟨s.os,s.tape,s.output,s.size,s.kept,s.xlt,s.dom,λnm e x h1=>s.ow nm e x ((h nm).trans h1),λn m e e' x y h1 h2=>s.inj n m e e' x y ((h n).trans h1) ((h m).trans h2),s.pin,λnm e he=>?_⟩;rw [<- ho];exact s.blk nm e ((h nm).trans he)
theorem YW.congr {cx r H H' w fr fr' tmps} (h : ∀ nm,zX H nm = zX H' nm) (hf : ∀ t,QH fr t = QH fr' t) (s : YW cx r H w fr tmps) : YW cx r H' w fr' tmps:=λt=>by
 rw [<- hf t,<- zBY h];exact s t
theorem Yy.map {r X W w r' X' W' w' e e' o o' hp hp'} (h : Yy r X W w e o hp) (ht : e.t = e'.t) (hn : e.n = e'.n) (hz : e.sz = e'.sz) (hv : e.v = e'.v) (ho : o = o') (hh : ∀ x,o = some x -> hp'[x.b]? = hp[x.b]?) (hf : ∀ i,i < e.n -> ∀ j,j < e.sz -> ∀ u,(e.f i j).rel r X W w u -> (e'.f i j).rel r' X' W' w' u) : Yy r' X' W' w' e' o' hp':=by
 obtain ⟨t,n,sz,v,f⟩:=e;obtain ⟨t',n',sz',v',f'⟩:=e';simp only at ht hn hz hv hf;subst ht hn hz hv ho;obtain ⟨h1,h2,h3⟩:=h;refine ⟨h1,h2,h3.imp id (Or.imp ?_ ?_)⟩
 . rintro ⟨x,cs,g1,g2,g3,g4,g5,g6⟩;exact ⟨x,cs,g1,g2,(hh x g1).trans g3,g4,g5,λi hi j hj u hu=>hf i hi j hj u (g6 i hi j hj u hu)⟩
 . rintro ⟨⟨m1,m2,m3,m4⟩,x,es,clk,g1,g2,g3,g4,g6,π,ρ,p1,p2,g5⟩;refine ⟨⟨m1,m2,m3,m4⟩,x,es,clk,g1,g2,(hh x g1).trans g3,g4,g6,π,ρ,p1,p2,λi m hm=>?_⟩;obtain ⟨a1,a2⟩:=g5 i m hm;have hi : π i < n:=by
    have h:=(Array.getElem?_eq_some_iff.1 hm).1;have g4' : es.size = n:=g4;exact (p1 i (by omega)).1
   have go : ∀ (b : Bool) (k o : Nat) (u : Value),(b = false -> o < sz) -> (b = true -> o + k <= sz) -> (zAb b k o (f (π i))).rel r X W w u -> (zAb b k o (f' (π i))).rel r' X' W' w' u:=by
    intro b k o u c1 c2 hr;cases b with
    | false=>exact hf _ hi o (c1 rfl) u hr
    | true=>
      obtain ⟨cs,q1,q2,q3⟩:=hr;refine ⟨cs,q1,q2,λj u hu=>hf _ hi (o + j) ?_ u (q3 j u hu)⟩;have : j < cs.size:=(Array.getElem?_eq_some_iff.1 hu).1;have:=c2 rfl;omega
   refine ⟨go _ _ _ _ (λh=>?_) (λ_=>?_) a1,go _ _ _ _ (λh=>m3) (λ_=>?_) a2⟩
   . exact h1
   . simp only [Nat.zero_add];exact Nat.le_of_lt m3
   . have : mkS t < sz:=m3;show mkS t + (sz - mkS t) <= sz;omega
theorem Yy.ext {r X W w r' W' w' e o hp} (h : Yy r X W w e o hp) (hx : Ext r W w r' W' w') : Yy r' X W' w' e o hp:=
 h.map rfl rfl rfl rfl rfl (λ_ _=>rfl) λi _ j _ u hu=>CV.rel_ext hx _ _ hu
theorem St.step {cx r H w} (s : St cx r H w) {r' : QK} {H' : Hp} {w' : World} (hr : ∀ k x,r k = some x -> r' k = some x) (hos : w'.os = w.os) (htape : w'.tape = w.tape) (hout : w'.output = w.output) (hsz : w.heap.size <= w'.heap.size)
 (hch : ∀ b,b < w.heap.size -> ¬ wr r H b -> w'.heap[b]? = w.heap[b]?) (hown : ∀ b,b < w.heap.size -> wr r' H' b -> wr r H b)
 (hdom : ∀ k x,r' k = some x -> (∃ k0,r k0 = some x) \/ (w.heap.size <= x.b /\ x.b < w'.heap.size))
 (hinj : ∀ n m e e' x y,zX H' n = some e -> zX H' m = some e' -> r' n = some x -> r' m = some y -> x.b = y.b -> n = m)
 (hblk : ∀ k e,zX H' k = some e -> Yy r cx.X (wr r H) w e (r' k) w'.heap) :
 Ext r (wr r H) w r' (wr r' H') w' /\ St cx r' H' w':=by
 have hE : Ext r (wr r H) w r' (wr r' H') w':=⟨hr,hsz,hch,hown⟩;refine ⟨hE,hos.trans s.os,htape.trans s.tape,hout.trans s.output,Nat.le_trans s.size hsz,λb hb hne=>?_,s.xlt,λk x hk=>?_,λk e x he hk=>?_,hinj,λk b hk=>hr k b (s.pin k b hk),λk e he=>(hblk k e he).ext hE⟩
 . rw [<- s.kept b hb hne];refine hch b (Nat.lt_of_lt_of_le hb s.size) ?_;rintro ⟨nm,e,x,he,hx,rfl⟩;rcases s.ow nm e x he hx with h | h
   . omega
   . exact hne h
 . rcases hdom k x hk with ⟨k0,h0⟩ | ⟨h1,h2⟩
   . obtain ⟨g1,g2,g3⟩:=s.dom k0 x h0;exact ⟨Nat.lt_of_lt_of_le g1 hsz,g2,g3⟩
   . exact ⟨h2,.inl (Nat.le_trans s.size h1),λhX=>by have:=s.xlt.lt _ hX;have:=s.size;omega⟩
 . rcases Nat.lt_or_ge x.b w.heap.size with hlt | hge
   . obtain ⟨k0,e0,x0,h1,h2,h3⟩:=hown x.b hlt ⟨k,e,x,he,hk,rfl⟩;have:=s.ow k0 e0 x0 h1 h2;rw [h3] at this;exact this
   . exact .inl (Nat.le_trans s.size hge)
theorem St.old {cx r H w} (s : St cx r H w) {k : Nat} {e : Ent} (he : zX H k = some e) {o : Option Bi} (ho : o = r k) {w' : World} (hw : ∀ x,r k = some x -> w'.heap[x.b]? = w.heap[x.b]?) : Yy r cx.X (wr r H) w e o w'.heap:=by
 subst ho;exact (s.blk k e he).map rfl rfl rfl rfl rfl hw λi _ j _ u hu=>hu
theorem St.new {cx r H w} (s : St cx r H w) {nm : Nat} (hr : r nm = none) (dead : Hp) (hdead : ∀ k e,zX (dead ++ H) k = some e -> zX H k = some e) (hnm : zX H nm = none) (t : TypeId) (cs : Array Value) (n sz c : Nat) (v : Bool) (f : Nat -> Nat -> CV) (hsz : 0 < sz) (hv : v = true -> n = 1) (hc : cs.size = c * sz) (hn : n <= c)
 (hf : ∀ i,i < n -> ∀ j,j < sz -> ∀ u,cs[i * sz + j]? = some u -> (f i j).rel r cx.X (wr r H) w u) {w1 : World} (hos : w1.os = w.os) (htape : w1.tape = w.tape) (hout : w1.output = w.output) (hheap : w1.heap = w.heap.push (.cells cs t)) :
 let r' : QK:=λk=>if k = nm then some ⟨w.heap.size,sz,c⟩ else r k
 let H' : Hp:=(nm,some ⟨t,n,sz,v,f⟩) :: (dead ++ H)
 Ext r (wr r H) w r' (wr r' H') w1 /\ St cx r' H' w1:=by
 intro r' H';have hl0 : zX H' nm = some ⟨t,n,sz,v,f⟩:=zn _ _ _ _;have hl : ∀ k,k ≠ nm -> zX H' k = zX (dead ++ H) k:=λk hk=>zZ _ _ _ hk;have hr0 : r' nm = some ⟨w.heap.size,sz,c⟩:=if_pos rfl;have hr1 : ∀ k,k ≠ nm -> r' k = r k:=λk hk=>if_neg hk;have hpush : ∀ b,b < w.heap.size -> w1.heap[b]? = w.heap[b]?:=λb hb=>by rw [hheap,Array.getElem?_push,if_neg (by omega)]
 have hsize : w1.heap.size = w.heap.size + 1:=by rw [hheap];simp
 refine s.step (λk x hk=>?_) hos htape hout (by omega) (λb hb _=>hpush b hb) (λb hb hw=>?_) (λk x hk=>?_) (λk m e e' x y hk hm hx hy hxy=>?_) (λk e he=>?_)
 . by_cases h : k = nm
   . subst h;rw [hr] at hk;cases hk
   . rw [hr1 k h];exact hk
 . obtain ⟨k,e,x,he,hx,rfl⟩:=hw;by_cases h : k = nm
   . subst h;rw [hr0] at hx;injection hx with hx;subst hx;simp at hb
   . rw [hr1 k h] at hx;rw [hl k h] at he;exact ⟨k,e,x,hdead k e he,hx,rfl⟩
 . by_cases h : k = nm
   . subst h;rw [hr0] at hk;injection hk with hk;subst hk;exact .inr ⟨Nat.le_refl _,by show w.heap.size < _;omega⟩
   . rw [hr1 k h] at hk;exact .inl ⟨k,hk⟩
 . have lt : ∀ k x,k ≠ nm -> r' k = some x -> x.b < w.heap.size:=λk x h hx=>by rw [hr1 k h] at hx;exact (s.dom k x hx).1
   have eq : ∀ x,r' nm = some x -> x.b = w.heap.size:=λx hx=>by rw [hr0] at hx;injection hx with hx;subst hx;rfl
   by_cases h : k = nm
   . by_cases h' : m = nm
     . omega
     . have:=lt m y h' hy;subst h;have:=eq x hx;omega
   . by_cases h' : m = nm
     . have:=lt k x h hx;subst h';have:=eq y hy;omega
     . rw [hl k h] at hk;rw [hl m h'] at hm;rw [hr1 k h] at hx;rw [hr1 m h'] at hy;exact s.inj k m e e' x y (hdead k e hk) (hdead m e' hm) hx hy hxy
 . by_cases h : k = nm
   . subst h;rw [hl0] at he;injection he with he;subst he;refine ⟨hsz,hv,.inr (.inl ⟨_,cs,hr0,rfl,?_,hc,hn,hf⟩)⟩;rw [hheap];simp
   . rw [hl k h] at he;exact s.old (hdead k e he) (hr1 k h) λx hx=>hpush _ (s.dom k x hx).1
theorem St.write {cx r H w} (s : St cx r H w) {nm : Nat} {x : Bi} {e : Ent} (he : zX H nm = some e) (hx0 : At r nm x) (cs : Array Value) (f : Nat -> Nat -> CV) (hsize : cs.size = x.c * x.sz)
 (hf : ∀ i,i < e.n -> ∀ j,j < e.sz -> ∀ u,cs[i * e.sz + j]? = some u -> (f i j).rel r cx.X (wr r H) w u) (w' : World) (hos : w'.os = w.os) (htape : w'.tape = w.tape) (hout : w'.output = w.output) (hsz : w'.heap.size = w.heap.size)
 (hother : ∀ k,k ≠ x.b -> w'.heap[k]? = w.heap[k]?) (hthis : w'.heap[x.b]? = some (.cells cs e.t (0,0))) :
 Ext r (wr r H) w r (wr r ((nm,some ⟨e.t,e.n,e.sz,e.v,f⟩) :: H)) w' /\ St cx r ((nm,some ⟨e.t,e.n,e.sz,e.v,f⟩) :: H) w':=by
 have hx:=hx0.1;have hl : ∀ k,k ≠ nm -> zX ((nm,some ⟨e.t,e.n,e.sz,e.v,f⟩) :: H) k = zX H k:=λk hk=>zZ _ _ _ hk;have hl0 : zX ((nm,some ⟨e.t,e.n,e.sz,e.v,f⟩) :: H) nm = some ⟨e.t,e.n,e.sz,e.v,f⟩:=zn _ _ _ _;have live : ∀ k e',zX ((nm,some ⟨e.t,e.n,e.sz,e.v,f⟩) :: H) k = some e' -> ∃ e1,zX H k = some e1:=λk e' h=>by
  by_cases hk : k = nm
  . subst hk;exact ⟨e,he⟩
  . rw [hl k hk] at h;exact ⟨e',h⟩
 refine s.step (λ_ _ h=>h) hos htape hout (by omega) (λb hb hw=>hother b λhbx=>hw ⟨nm,e,x,he,hx,hbx.symm⟩) (λb hb hw=>?_) (λk y hk=>.inl ⟨k,hk⟩) (λn m e1 e2 y z h1 h2 hy hz hyz=>?_) (λk e' hk=>?_)
 . obtain ⟨k,e',y,h1,h2,h3⟩:=hw;obtain ⟨e1,h1⟩:=live k e' h1;exact ⟨k,e1,y,h1,h2,h3⟩
 . obtain ⟨e1,h1⟩:=live n e1 h1;obtain ⟨e2,h2⟩:=live m e2 h2;exact s.inj n m e1 e2 y z h1 h2 hy hz hyz
 . by_cases h : k = nm
   . subst h;rw [hl0] at hk;injection hk with hk;subst hk;obtain ⟨g1,g2,g3⟩:=s.blk k e he;rcases g3 with ⟨g3,_⟩ | ⟨y,cs',g3,g4,g5,g6,g7,g8⟩ | ⟨_,y,_,_,g3,g4,_⟩
     . rw [hx] at g3;cases g3
     . rw [hx] at g3;injection g3 with g3;subst g3;exact ⟨g1,g2,.inr (.inl ⟨x,cs,hx,g4,hthis,hsize,g7,hf⟩)⟩
     . rw [hx] at g3;injection g3 with g3;subst g3;exact absurd hx0.2 (by omega)
   . rw [hl k h] at hk;exact s.old hk rfl λy hy=>hother _ λhyx=>h (s.inj k nm e' e y x hk he hy hx hyx)
theorem St.grow {cx r H w} (s : St cx r H w) {nm nm' : Nat} {x : Bi} {e : Ent} (he : zX H nm = some e) (hx0 : At r nm x) (hr : r nm' = none) (hnm : zX H nm' = none) (cs : Array Value) (n : Nat) (f : Nat -> Nat -> CV) (hsize : cs.size = x.c * x.sz) (hn : n <= x.c) (hv : e.v = true -> n = 1)
 (hf : ∀ i,i < n -> ∀ j,j < e.sz -> ∀ u,cs[i * e.sz + j]? = some u -> (f i j).rel r cx.X (wr r H) w u) (w' : World) (hos : w'.os = w.os) (htape : w'.tape = w.tape) (hout : w'.output = w.output) (hsz : w'.heap.size = w.heap.size)
 (hother : ∀ k,k ≠ x.b -> w'.heap[k]? = w.heap[k]?) (hthis : w'.heap[x.b]? = some (.cells cs e.t (0,0))) :
 let r' : QK:=λk=>if k = nm' then some x else r k
 let H' : Hp:=(nm',some ⟨e.t,n,e.sz,e.v,f⟩) :: (nm,none) :: H
 Ext r (wr r H) w r' (wr r' H') w' /\ St cx r' H' w':=by
 have hx:=hx0.1;intro r' H';have hne : nm' ≠ nm:=λh=>by rw [h,he] at hnm;cases hnm
 have hl0 : zX H' nm' = some ⟨e.t,n,e.sz,e.v,f⟩:=zn _ _ _ _;have hl1 : zX H' nm = none:=(zZ _ _ _ (Ne.symm hne)).trans (zn _ _ _ _);have hl : ∀ k,k ≠ nm' -> k ≠ nm -> zX H' k = zX H k:=λk hk hk'=>(zZ _ _ _ hk).trans (zZ _ _ _ hk');have hr0 : r' nm' = some x:=if_pos rfl;have hr1 : ∀ k,k ≠ nm' -> r' k = r k:=λk hk=>if_neg hk;have back : ∀ k e' y,zX H' k = some e' -> r' k = some y -> ∃ k0 e0,zX H k0 = some e0 /\ r k0 = some y /\ (k = nm' /\ k0 = nm \/ k ≠ nm' /\ k ≠ nm /\ k0 = k):=λk e' y h1 h2=>by
  by_cases h : k = nm'
  . subst h;rw [hr0] at h2;exact ⟨nm,e,he,hx.trans h2,.inl ⟨rfl,rfl⟩⟩
  . by_cases h' : k = nm
    . subst h';rw [hl1] at h1;cases h1
    . rw [hl k h h'] at h1;rw [hr1 k h] at h2;exact ⟨k,e',h1,h2,.inr ⟨h,h',rfl⟩⟩
 refine s.step (λk y hk=>?_) hos htape hout (by omega) (λb hb hw=>hother b λhbx=>hw ⟨nm,e,x,he,hx,hbx.symm⟩) (λb hb hw=>?_) (λk y hk=>?_) (λk m e1 e2 y z h1 h2 hy hz hyz=>?_) (λk e' hk=>?_)
 . by_cases h : k = nm'
   . subst h;rw [hr] at hk;cases hk
   . rw [hr1 k h];exact hk
 . obtain ⟨k,e',y,h1,h2,h3⟩:=hw;obtain ⟨k0,e0,g1,g2,_⟩:=back k e' y h1 h2;exact ⟨k0,e0,y,g1,g2,h3⟩
 . by_cases h : k = nm'
   . subst h;rw [hr0] at hk;exact .inl ⟨nm,hx.trans hk⟩
   . rw [hr1 k h] at hk;exact .inl ⟨k,hk⟩
 . obtain ⟨k0,e0,g1,g2,g3⟩:=back k e1 y h1 hy;obtain ⟨m0,e0',g1',g2',g3'⟩:=back m e2 z h2 hz;have:=s.inj k0 m0 e0 e0' y z g1 g1' g2 g2' hyz;omega
 . by_cases h : k = nm'
   . subst h;rw [hl0] at hk;injection hk with hk;subst hk;obtain ⟨g1,g2,g3⟩:=s.blk nm e he;rcases g3 with ⟨g3,_⟩ | ⟨y,cs',g3,g4,g5,g6,g7,g8⟩ | ⟨_,y,_,_,g3,g4,_⟩
     . rw [hx] at g3;cases g3
     . rw [hx] at g3;injection g3 with g3;subst g3;exact ⟨g1,hv,.inr (.inl ⟨x,cs,hr0,g4,hthis,hsize,hn,hf⟩)⟩
     . rw [hx] at g3;injection g3 with g3;subst g3;exact absurd hx0.2 (by omega)
   . by_cases h' : k = nm
     . subst h';rw [hl1] at hk;cases hk
     . rw [hl k h h'] at hk;exact s.old hk (hr1 k h) λy hy=>hother _ λhyx=>h' (s.inj k nm e' e y x hk he hy hx hyx)
theorem St.newMap {cx r H w} (s : St cx r H w) {nm : Nat} (hr : r nm = none) (hnm : zX H nm = none) (t : TypeId) (sz : Nat) (f : Nat -> Nat -> CV) (hfit : zDL ⟨t,0,sz,false,f⟩) {w1 : World} (hos : w1.os = w.os) (htape : w1.tape = w.tape) (hout : w1.output = w.output) (hheap : w1.heap = w.heap.push (.map #[] 0)) :
 let r' : QK:=λk=>if k = nm then some ⟨w.heap.size,0,0⟩ else r k
 let H' : Hp:=(nm,some ⟨t,0,sz,false,f⟩) :: H
 Ext r (wr r H) w r' (wr r' H') w1 /\ St cx r' H' w1:=by
 intro r' H';have hl0 : zX H' nm = some ⟨t,0,sz,false,f⟩:=zn _ _ _ _;have hl : ∀ k,k ≠ nm -> zX H' k = zX H k:=λk hk=>zZ _ _ _ hk;have hr0 : r' nm = some ⟨w.heap.size,0,0⟩:=if_pos rfl;have hr1 : ∀ k,k ≠ nm -> r' k = r k:=λk hk=>if_neg hk;have hpush : ∀ b,b < w.heap.size -> w1.heap[b]? = w.heap[b]?:=λb hb=>by rw [hheap,Array.getElem?_push,if_neg (by omega)]
 have hsize : w1.heap.size = w.heap.size + 1:=by rw [hheap];simp
 refine s.step (λk x hk=>?_) hos htape hout (by omega) (λb hb _=>hpush b hb) (λb hb hw=>?_) (λk x hk=>?_) (λk m e e' x y hk hm hx hy hxy=>?_) (λk e he=>?_)
 . by_cases h : k = nm
   . subst h;rw [hr] at hk;cases hk
   . rw [hr1 k h];exact hk
 . obtain ⟨k,e,x,he,hx,rfl⟩:=hw;by_cases h : k = nm
   . subst h;rw [hr0] at hx;injection hx with hx;subst hx;simp at hb
   . rw [hr1 k h] at hx;rw [hl k h] at he;exact ⟨k,e,x,he,hx,rfl⟩
 . by_cases h : k = nm
   . subst h;rw [hr0] at hk;injection hk with hk;subst hk;exact .inr ⟨Nat.le_refl _,by show w.heap.size < _;omega⟩
   . rw [hr1 k h] at hk;exact .inl ⟨k,hk⟩
 . have lt : ∀ k x,k ≠ nm -> r' k = some x -> x.b < w.heap.size:=λk x h hx=>by rw [hr1 k h] at hx;exact (s.dom k x hx).1
   have eq : ∀ x,r' nm = some x -> x.b = w.heap.size:=λx hx=>by rw [hr0] at hx;injection hx with hx;subst hx;rfl
   by_cases h : k = nm
   . by_cases h' : m = nm
     . omega
     . have:=lt m y h' hy;subst h;have:=eq x hx;omega
   . by_cases h' : m = nm
     . have:=lt k x h hx;subst h';have:=eq y hy;omega
     . rw [hl k h] at hk;rw [hl m h'] at hm;rw [hr1 k h] at hx;rw [hr1 m h'] at hy;exact s.inj k m e e' x y hk hm hx hy hxy
 . by_cases h : k = nm
   . subst h;rw [hl0] at he;injection he with he;subst he;refine ⟨Nat.lt_of_le_of_lt (Nat.zero_le _) hfit.2.2.1,(λh=>by cases h),.inr (.inr ⟨hfit,_,#[],0,hr0,rfl,?_,rfl,(λi j m m' hm=>by simp at hm),id,id,(λi h=>absurd h (Nat.not_lt_zero i)),(λi h=>absurd h (Nat.not_lt_zero i)),λi m hm=>by simp at hm⟩)⟩;rw [hheap];simp
   . rw [hl k h] at he;exact s.old he (hr1 k h) λx hx=>hpush _ (s.dom k x hx).1
theorem St.mapPut {cx r H w} (s : St cx r H w) {nm : Nat} {x : Bi} {e : Ent} (he : zX H nm = some e) (hx : r nm = some x) (hz : x.sz = 0) (es : Array MapEntry) (clk n : Nat) (f : Nat -> Nat -> CV) (hf : MapIn r cx.X (wr r H) w e.t n e.sz f es) (w' : World) (hos : w'.os = w.os) (htape : w'.tape = w.tape) (hout : w'.output = w.output) (hsz : w'.heap.size = w.heap.size)
 (hother : ∀ k,k ≠ x.b -> w'.heap[k]? = w.heap[k]?) (hthis : w'.heap[x.b]? = some (.map es clk)) :
 Ext r (wr r H) w r (wr r ((nm,some ⟨e.t,n,e.sz,e.v,f⟩) :: H)) w' /\ St cx r ((nm,some ⟨e.t,n,e.sz,e.v,f⟩) :: H) w':=by
 have hl : ∀ k,k ≠ nm -> zX ((nm,some ⟨e.t,n,e.sz,e.v,f⟩) :: H) k = zX H k:=λk hk=>zZ _ _ _ hk;have hl0 : zX ((nm,some ⟨e.t,n,e.sz,e.v,f⟩) :: H) nm = some ⟨e.t,n,e.sz,e.v,f⟩:=zn _ _ _ _;have live : ∀ k e',zX ((nm,some ⟨e.t,n,e.sz,e.v,f⟩) :: H) k = some e' -> ∃ e1,zX H k = some e1:=λk e' h=>by
  by_cases hk : k = nm
  . subst hk;exact ⟨e,he⟩
  . rw [hl k hk] at h;exact ⟨e',h⟩
 refine s.step (λ_ _ h=>h) hos htape hout (by omega) (λb hb hw=>hother b λhbx=>hw ⟨nm,e,x,he,hx,hbx.symm⟩) (λb hb hw=>?_) (λk y hk=>.inl ⟨k,hk⟩) (λn m e1 e2 y z h1 h2 hy hz hyz=>?_) (λk e' hk=>?_)
 . obtain ⟨k,e',y,h1,h2,h3⟩:=hw;obtain ⟨e1,h1⟩:=live k e' h1;exact ⟨k,e1,y,h1,h2,h3⟩
 . obtain ⟨e1,h1⟩:=live n e1 h1;obtain ⟨e2,h2⟩:=live m e2 h2;exact s.inj n m e1 e2 y z h1 h2 hy hz hyz
 . by_cases h : k = nm
   . subst h;rw [hl0] at hk;injection hk with hk;subst hk;obtain ⟨g1,g2,g3⟩:=s.blk k e he;rcases g3 with ⟨g3,_⟩ | ⟨y,cs',g3,g4,g5,g6,g7,g8⟩ | ⟨hfit,y,es0,_,g3,g4,g5⟩
     . rw [hx] at g3;cases g3
     . rw [hx] at g3;injection g3 with g3;subst g3;omega
     . rw [hx] at g3;injection g3 with g3;subst g3;have hv : e.v = false:=hfit.1;exact ⟨g1,(λh=>by rw [hv] at h;cases h),.inr (.inr ⟨hfit,x,es,clk,hx,hz,hthis,hf⟩)⟩
   . rw [hl k h] at hk;exact s.old hk rfl λy hy=>hother _ λhyx=>h (s.inj k nm e' e y x hk he hy hx hyx)
theorem St.empty {cx r H w} (s : St cx r H w) {nm : Nat} (hr : r nm = none) (hnm : zX H nm = none) (dead : Hp) (hdead : ∀ k e,zX (dead ++ H) k = some e -> zX H k = some e) (t : TypeId) (sz : Nat) (f : Nat -> Nat -> CV) (hsz : 0 < sz) :
 Ext r (wr r H) w r (wr r ((nm,some ⟨t,0,sz,false,f⟩) :: (dead ++ H))) w /\ St cx r ((nm,some ⟨t,0,sz,false,f⟩) :: (dead ++ H)) w:=by
 have hl0 : zX ((nm,some ⟨t,0,sz,false,f⟩) :: (dead ++ H)) nm = some ⟨t,0,sz,false,f⟩:=zn _ _ _ _;have hl : ∀ k,k ≠ nm -> zX ((nm,some ⟨t,0,sz,false,f⟩) :: (dead ++ H)) k = zX (dead ++ H) k:=λk hk=>zZ _ _ _ hk;have live : ∀ k e' x,zX ((nm,some ⟨t,0,sz,false,f⟩) :: (dead ++ H)) k = some e' -> r k = some x -> zX H k = some e':=λk e' x h hx=>by
  by_cases hk : k = nm
  . subst hk;rw [hr] at hx;cases hx
  . rw [hl k hk] at h;exact hdead k e' h
 refine s.step (λ_ _ h=>h) rfl rfl rfl (Nat.le_refl _) (λ_ _ _=>rfl) (λb hb hw=>?_) (λk y hk=>.inl ⟨k,hk⟩) (λn m e1 e2 y z h1 h2 hy hz hyz=>?_) (λk e' hk=>?_)
 . obtain ⟨k,e',y,h1,h2,h3⟩:=hw;exact ⟨k,e',y,live k e' y h1 h2,h2,h3⟩
 . exact s.inj n m e1 e2 y z (live n e1 y h1 hy) (live m e2 z h2 hz) hy hz hyz
 . by_cases h : k = nm
   . subst h;rw [hl0] at hk;injection hk with hk;subst hk;exact ⟨hsz,(λh=>by cases h),.inl ⟨hr,rfl⟩⟩
   . rw [hl k h] at hk;exact s.old (hdead k e' hk) rfl λ_ _=>rfl
theorem St.drew {cx r H w} (s : St cx r H w) (n : Nat) : Ext r (wr r H) w r (wr r H) { w with drawn:=n } /\ St cx r H { w with drawn:=n }:=
 s.step (λ_ _ h=>h) rfl rfl rfl (Nat.le_refl _) (λ_ _ _=>rfl) (λ_ _ h=>h) (λk y hk=>.inl ⟨k,hk⟩) s.inj (λk e he=>s.blk k e he)
theorem St.below {cx r H w w'} (s : St cx r H w) (h : Below w.heap.size w w') : Ext r (wr r H) w r (wr r H) w' /\ St cx r H w':=
 s.step (λ_ _ h=>h) h.os h.tape h.output h.size (λb hb _=>h.block b hb) (λ_ _ h=>h) (λk y hk=>.inl ⟨k,hk⟩) s.inj
  (λk e he=>s.old he rfl λx hx=>h.block _ (s.dom k x hx).1)
inductive TD where
 | int (k : IntKind)
 | bool
 | struct (fs : List (Nat × Nat × Option Bool))
 | arr (n : Nat) (e : TypeId) (esz : Nat) (eagg : Option Bool)
 | slice (e : TypeId) (esz : Nat) (there : Bool)
 | ptr (e : TypeId)
 | map (k e : TypeId) (ks vs : Nat) (ka va : Option Bool)
 | other
structure TI where
 d : TD
 size : Nat
 zero : List CV
 eq : List Bool
 bytes : Nat
def zAf : Value -> Bool
 | .agg _=>false
 | .tuple _=>false
 | _=>true
theorem zES {v : Value} (h : zAf v = true) : zAa v:=by cases v<;>simp [zAf] at h<;>trivial
def zCN : Value -> CV
 | .int k n=>.int k n
 | .bool b=>.bool b
 | .pointer none=>.nilp
 | .slice none 0 0=>.nils
 | _=>.top
theorem rel_ofVal {r X W w} {v : Value} (h : zAf v = true) : (zCN v).rel r X W w v:=by
 unfold zCN;split
 . rfl
 . rfl
 . rfl
 . rfl
 . exact zES h
def qe : TypeDesc -> Bool
 | .struct _=>true
 | .array _ _=>true
 | _=>false
def szN (P : Program) (t : TypeId) : Nat:=((P.info? t).map (·.size)).getD 0
def zB0 (P : Program) : TypeDesc -> TD
 | .int k=>.int k
 | .bool=>.bool
 | .struct fs=>.struct (fs.toList.map λf=>(f.offset,szN P f.type,(P.underlying f.type).map qe))
 | .array n e=>.arr n e (szN P e) ((P.underlying e).map qe)
 | .slice e=>.slice e (szN P e) (P.info? e).isSome
 | .pointer e=>.ptr e
 | .map k e=>.map k e (szN P k) (szN P e) ((P.underlying k).map qe) ((P.underlying e).map qe)
 | _=>.other
def eqFs (E : TypeId -> Option (List Bool)) (P : Program) : List Field -> Nat -> Option (List Bool)
 | [],_=>some []
 | f :: fs,off=>bif f.name != "_" && Nat.beq f.offset off then
     match E f.type with
     | some l=>bif Nat.beq (szN P f.type) l.length && Nat.blt 0 l.length then
        match eqFs E P fs (off + l.length) with
        | some l'=>some (l ++ l')
        | none=>none
       else none
     | none=>none
   else none
def eqT (P : Program) : Nat -> TypeId -> Option (List Bool)
 | 0,_=>none
 | m + 1,t=>
   match P.underlying t with
   | some .bool=>some [true]
   | some (.int _)=>some [false]
   | some (.array n e)=>match eqT P m e with
     | some l=>bif Nat.beq (szN P e) l.length && Nat.blt 0 l.length then some (List.replicate n l).flatten else none
     | none=>none
   | some (.struct fs)=>bif P.stoodInHeld t then none else eqFs (eqT P m) P fs.toList 0
   | _=>none
def zCO : Value -> Bool
 | .agg _=>true
 | _=>false
def aggTD : TD -> Bool
 | .struct _=>true
 | .arr _ _ _ _=>true
 | _=>false
def ZI (P : Program) (t : TypeId) (ti : TI) : Prop:=
 (P.info? t).map (λi=>(i.size,i.bytes,i.zero.map λz=>(z.cells.toList.map zCN,z.cells.toList.all zAf && (zCO z == aggTD ti.d)))) = some (ti.size,ti.bytes,some (ti.zero,true)) /\
 (P.underlying t).map (zB0 P) = some ti.d /\
 (ti.eq.isEmpty || ((eqT P 6 t == some ti.eq) && !P.eqGuardType P.depth t && ((P.underlying t).map qe == some true))) = true
abbrev YU:=TypeId -> Option TI
def qP (P : Program) (T : YU) : Prop:=∀ t ti,T t = some ti -> ZI P t ti
theorem ZI.info' {P t ti} (h : ZI P t ti) : ∃ i z,P.info? t = some i /\ i.size = ti.size /\ i.zero = some z /\ z.cells.toList.map zCN = ti.zero /\ z.cells.toList.all zAf = true /\ i.bytes = ti.bytes /\ zCO z = aggTD ti.d:=by
 have h1:=h.1;cases hi : P.info? t with
 | none=>rw [hi] at h1;cases h1
 | some i=>
   rw [hi] at h1;simp only [Option.map_some,Option.some.injEq,Prod.mk.injEq] at h1;cases hz : i.zero with
   | none=>rw [hz] at h1;cases h1.2.2
   | some z=>
     rw [hz] at h1;simp only [Option.map_some,Option.some.injEq,Prod.mk.injEq,Bool.and_eq_true,beq_iff_eq] at h1;exact ⟨i,z,rfl,h1.1,hz,h1.2.2.1,h1.2.2.2.1,h1.2.1,h1.2.2.2.2⟩
theorem ZI.info {P t ti} (h : ZI P t ti) : ∃ i z,P.info? t = some i /\ i.size = ti.size /\ i.zero = some z /\ z.cells.toList.map zCN = ti.zero /\ z.cells.toList.all zAf = true /\ i.bytes = ti.bytes:=by
 obtain ⟨i,z,h1,h2,h3,h4,h5,h6,_⟩:=h.info';exact ⟨i,z,h1,h2,h3,h4,h5,h6⟩
theorem ZI.under {P t ti} (h : ZI P t ti) : ∃ d,P.underlying t = some d /\ zB0 P d = ti.d:=by
 have h1:=h.2.1;cases hd : P.underlying t with
 | none=>rw [hd] at h1;cases h1
 | some d=>rw [hd] at h1;exact ⟨d,rfl,by simpa using h1⟩
theorem zE1 {P d k} (h : zB0 P d = .int k) : d = .int k:=by cases d<;>simp [zB0] at h;rw [h]
theorem td_bool {P d} (h : zB0 P d = .bool) : d = .bool:=by cases d<;>simp [zB0] at h;rfl
theorem QA {P d e s b} (h : zB0 P d = .slice e s b) : d = .slice e /\ szN P e = s /\ (P.info? e).isSome = b:=by
 cases d<;>simp [zB0] at h;obtain ⟨rfl,h2,h3⟩:=h;exact ⟨rfl,h2,h3⟩
theorem zBV {P d n e s b} (h : zB0 P d = .arr n e s b) : d = .array n e /\ szN P e = s /\ (P.underlying e).map qe = b:=by
 cases d<;>simp [zB0] at h;obtain ⟨rfl,rfl,h2,h3⟩:=h;exact ⟨rfl,h2,h3⟩
theorem td_map {P d k e ks vs ka va} (h : zB0 P d = .map k e ks vs ka va) : d = .map k e /\ szN P k = ks /\ szN P e = vs /\ (P.underlying k).map qe = ka /\ (P.underlying e).map qe = va:=by
 cases d<;>simp [zB0] at h;obtain ⟨rfl,rfl,h⟩:=h;exact ⟨rfl,h⟩
theorem zBl {P d fs} (h : zB0 P d = .struct fs) : ∃ a,d = .struct a /\ a.toList.map (λf=>(f.offset,szN P f.type,(P.underlying f.type).map qe)) = fs:=by
 cases d<;>simp [zB0] at h;exact ⟨_,rfl,h⟩
theorem QZ {P : Program} {t : TypeId} {s : Nat} (h : szN P t = s) (h0 : s ≠ 0) : ∃ i,P.info? t = some i /\ i.size = s:=by
 unfold szN at h;cases hi : P.info? t with
 | none=>rw [hi] at h;simp at h;omega
 | some i=>rw [hi] at h;exact ⟨i,rfl,by simpa using h⟩
structure SR where
 pre : Option Prop
 val : FV
 eff : Hp
 rd : List Nat
def Qh : Option Prop -> Prop
 | none=>True
 | some p=>p
def evC : Value -> FV
 | .int k n=>.e (.c (.int k n))
 | .bool b=>.e (.c (.bool b))
 | .pointer none=>.e (.c .nilp)
 | .slice none 0 0=>.e (.c .nils)
 | _=>.top
def glOf (g : Nat) : Option (Nat × List (IntKind × Int)):=GL.find? (λp : Nat × List (IntKind × Int)=>Nat.beq p.1 g)
def glC (p : Nat × List (IntKind × Int)) (j : Nat) : CV:=match p.2[j]? with | some (k,n)=>.int k n | none=>.top
def ev (fr : Fr) : Operand -> FV
 | .tmp t=>QH fr t
 | .const v=>evC v
 | .func f=>.e (.c (.fn f 0 0 (λ_=>.top)))
 | .global g=>match glOf g with
   | some p=>.e (.c (.rp true p.2.length (glC p)))
   | none=>.top
theorem ev_ok {cx r H w fr} {a : Act} (st : St cx r H w) (h : YW cx r H w fr a.tmps) (x : Operand) : (ev fr x).rel r cx.X (wr r H) w (a.eval x):=by
 cases x with
 | tmp t=>exact h _
 | global g=>
   show (match glOf g with
    | some p=>(.e (.c (.rp true p.2.length (glC p))) : FV)
    | none=>.top).rel r cx.X (wr r H) w (.pointer (some ⟨g,0,none⟩))
   cases hf : glOf g with
   | none=>trivial
   | some p=>
     have hm:=List.mem_of_find?_eq_some hf;have hg : p.1 = g:=Nat.eq_of_beq_eq_true (List.find?_some (p:=λp : Nat × List (IntKind × Int)=>Nat.beq p.1 g) hf);subst hg;obtain ⟨h1,h2,h3⟩:=st.xlt.gl p hm;refine ⟨⟨p.1,0,none⟩,rfl,rfl,?_,λ_ hx=>h2 (.inl hx),Nat.lt_of_lt_of_le h1 st.size,λj hj=>?_⟩
     . rintro ⟨nm,e,x,he,hx,hb⟩;have hb : x.b = p.1:=hb;rcases (st.dom nm x hx).2.1 with hd | hd
       . omega
       . exact h2 (.inr (.inl (by rw [<- hb];exact hd)))
     . obtain ⟨⟨k,n⟩,hkn⟩ : ∃ q,p.2[j]? = some q:=⟨_,List.getElem?_eq_getElem hj⟩;refine ⟨.int k n,?_,?_⟩
       . rw [Nat.zero_add,<- h3 j k n hkn];exact zA6 (st.kept _ h1 λhE=>h2 (.inr (.inr hE)))
       . show (glC p j).rel r cx.X (wr r H) w (.int k n);unfold glC;rw [hkn];exact rfl
 | func f=>exact ⟨#[],#[],rfl,rfl,rfl,λk u h=>(by simp at h),λk u h=>(by simp at h)⟩
 | const v=>
 show (evC v).rel r cx.X (wr r H) w v;unfold evC;split
 . rfl
 . rfl
 . rfl
 . rfl
 . trivial
def CV.see {α : Type} (x : CV) (K : CV -> α) : α:=
 match x with
 | .top=>K .top
 | .int k n=>K (.int k n)
 | .bool b=>K (.bool b)
 | .ptr nm i j s=>K (.ptr nm i j s)
 | .nilp=>K .nilp
 | .sl sh n sz f=>K (.sl sh n sz f)
 | .rp sh m g=>K (.rp sh m g)
 | .os nm i n=>K (.os nm i n)
 | .oa nm i j n es=>K (.oa nm i j n es)
 | .nils=>K .nils
 | .mp nm=>K (.mp nm)
 | .fn f n m a=>K (.fn f n m a)
theorem CV.see_eq {α : Type} (x : CV) (K : CV -> α) : x.see K = K x:=by cases x<;>rfl
def EV.see {α : Type} (x : EV) (K : EV -> α) : α:=
 match x with
 | .c x=>x.see λx=>K (.c x)
 | .agg n f=>K (.agg n f)
theorem EV.see_eq {α : Type} (x : EV) (K : EV -> α) : x.see K = K x:=by cases x with | c x=>exact CV.see_eq x (λx=>K (.c x)) | agg n f=>rfl
def FV.see {α : Type} (x : FV) (K : FV -> α) : α:=
 match x with
 | .top=>K .top
 | .e x=>x.see λx=>K (.e x)
 | .tup l=>K (.tup l)
theorem FV.see_eq {α : Type} (x : FV) (K : FV -> α) : x.see K = K x:=by cases x with | e x=>exact EV.see_eq x (λx=>K (.e x)) | top=>rfl | tup l=>rfl
def Yq (k : IntKind) (x y : Int) : Int:=k.wrap (x * 2 ^ (min y.toNat k.bits))
def shrI (k : IntKind) (x y : Int) : Int:=x.fdiv (2 ^ (min y.toNat k.bits))
def intBin (op : BinOp) (k : IntKind) (a b : Int) : Option (Option Prop × CV):=
 match op with
 | .add=>some (none,.int k (k.wrap (a + b)))
 | .sub=>some (none,.int k (k.wrap (a - b)))
 | .mul=>some (none,.int k (k.wrap (a * b)))
 | .quo=>some (some (b ≠ 0),.int k (k.wrap (a.tdiv b)))
 | .rem=>some (some (b ≠ 0),.int k (a.tmod b))
 | .and=>some (none,.int k (bits .and k a b))
 | .or=>some (none,.int k (bits .or k a b))
 | .xor=>some (none,.int k (bits .xor k a b))
 | .andNot=>some (none,.int k (bits .andNot k a b))
 | .eql=>some (none,.bool (a == b))
 | .neq=>some (none,.bool (a != b))
 | .lss=>some (none,.bool (decide (a < b)))
 | .leq=>some (none,.bool (decide (a <= b)))
 | .gtr=>some (none,.bool (decide (b < a)))
 | .geq=>some (none,.bool (decide (b <= a)))
 | _=>none
def isShift : BinOp -> Bool
 | .shl=>true
 | .shr=>true
 | _=>false
def shBin (op : BinOp) (k : IntKind) (a b : Int) : Option (Option Prop × CV):=
 match op with
 | .shl=>some (some (0 <= b),.int k (Yq k a b))
 | .shr=>some (some (0 <= b),.int k (shrI k a b))
 | _=>none
def YR (a b : IntKind) : Bool:=decide (a = b)
def zAY : Bool -> CV -> CV -> Bool
 | false,.int k _,.int k' _=>YR k k'
 | true,.bool _,.bool _=>true
 | _,_,_=>false
def zA5 : CV -> CV -> Bool
 | .int _ a,.int _ b=>a == b
 | .bool a,.bool b=>a == b
 | _,_=>false
def Zw (f g : Nat -> CV) : List Bool -> Nat -> Bool
 | [],_=>true
 | b :: l,off=>zAY b (f off) (g off) && Zw f g l (off + 1)
def ZF (f g : Nat -> CV) : Nat -> Nat -> Bool
 | 0,_=>true
 | n + 1,off=>zA5 (f off) (g off) && ZF f g n (off + 1)
def slLen : CV -> Option (Option Nat)
 | .sl _ n _ _=>some (some n)
 | .os _ _ n=>some (some n)
 | .oa _ _ _ n _=>some (some n)
 | .nils=>some none
 | _=>none
def nilB (T : YU) (op : BinOp) (t : TypeId) (x : CV) : Option (Option Prop × CV):=
 match T t,op,slLen x with
 | some ⟨.slice _ _ _,_,_,_,_⟩,.eql,some (some n)=>some (some (0 < n),.bool false)
 | some ⟨.slice _ _ _,_,_,_,_⟩,.neq,some (some n)=>some (some (0 < n),.bool true)
 | some ⟨.slice _ _ _,_,_,_,_⟩,.eql,some none=>some (none,.bool true)
 | some ⟨.slice _ _ _,_,_,_,_⟩,.neq,some none=>some (none,.bool false)
 | _,_,_=>none
def bin (T : YU) (op : BinOp) (t : TypeId) (x y : FV) : Option (Option Prop × CV):=
 match x,y with
 | .e (.c (.int k a)),.e (.c (.int k' b))=>bif isShift op then shBin op k a b else bif YR k k' then intBin op k a b else none
 | .e (.c (.bool a)),.e (.c (.bool b))=>
   match T t,op with
   | some ⟨.bool,_,_,_,_⟩,.eql=>some (none,.bool (a == b))
   | some ⟨.bool,_,_,_,_⟩,.neq=>some (none,.bool (a != b))
   | _,_=>none
 | .e (.agg n f),.e (.agg m g)=>
   match T t,op with
   | some ⟨_,_,_,l,_⟩,.eql=>bif Nat.blt 0 l.length && Nat.beq n l.length && Nat.beq m l.length && Zw f g l 0 then some (none,.bool (ZF f g n 0)) else none
   | some ⟨_,_,_,l,_⟩,.neq=>bif Nat.blt 0 l.length && Nat.beq n l.length && Nat.beq m l.length && Zw f g l 0 then some (none,.bool (!ZF f g n 0)) else none
   | _,_=>none
 | .e (.c x),.e (.c .nils)=>nilB T op t x
 | _,_=>none
def ovr (f : Nat -> CV) (off n : Nat) (g : Nat -> CV) (j : Nat) : CV:=bif Nat.ble off j && Nat.blt j (off + n) then g (j - off) else f j
def ovs (f : Nat -> CV) (off n : Nat) (g : Nat -> CV) (j : Nat) : CV:=Zp (Nat.ble off j && Nat.blt j (off + n)) (g (j - off)) (f j)
theorem zE2 (f : Nat -> CV) (off n : Nat) (g : Nat -> CV) : ovs f off n g = ovr f off n g:=by funext j;exact QS _ _ _
def ovw (sym : Bool) (es : Nat) (f : Nat -> CV) (off n : Nat) (g : Nat -> CV) : Nat -> CV:=
 match sym with
 | true=>ovs f off n g
 | false=>bif Nat.beq off 0 && Nat.beq n es then g else ovr f off n g
theorem ovw_eq (sym : Bool) (es : Nat) (f : Nat -> CV) (off n : Nat) (g : Nat -> CV) (j : Nat) (hj : j < es) : ovw sym es f off n g j = ovr f off n g j:=by
 cases sym with
 | true=>exact congrFun (zE2 f off n g) j
 | false=>
   show (bif Nat.beq off 0 && Nat.beq n es then g else ovr f off n g) j = _;cases hb : (Nat.beq off 0 && Nat.beq n es) with
   | false=>rfl
   | true=>
     simp only [Bool.and_eq_true] at hb;have e1 : off = 0:=Nat.eq_of_beq_eq_true hb.1;have e2 : n = es:=Nat.eq_of_beq_eq_true hb.2;subst e1 e2;unfold ovr;have h1 : (Nat.ble 0 j && Nat.blt j (0 + n)) = true:=by
      simp only [Bool.and_eq_true];exact ⟨Nat.ble_eq_true_of_le (Nat.zero_le _),Nat.ble_eq_true_of_le (by omega)⟩
     rw [h1];simp
def zBW (v : Bool) (f : Nat -> Nat -> CV) (i : Nat) (g : Nat -> CV) : Nat -> Nat -> CV:=
 match v with
 | true=>λ_=>g
 | false=>λk j=>Zp (Nat.beq k i) (g j) (f k j)
def ovE (f : Nat -> Nat -> CV) (i n : Nat) (g : Nat -> Nat -> CV) : Nat -> Nat -> CV:=λk j=>Zp (Nat.ble i k && Nat.blt k (i + n)) (g (k - i) j) (f k j)
def nth (l : List CV) (i : Nat) : CV:=(l[i]?).getD .top
def cellsOf : EV -> Option (Nat × (Nat -> CV))
 | .c .top=>none
 | .c x=>some (1,λ_=>x)
 | .agg n f=>some (n,f)
def zDp (place : Nat -> Option (Nat × Nat)) (N : Nat) (f : Nat -> CV) : List (Nat × FV) -> Option (Nat -> CV)
 | []=>some f
 | (i,.e x) :: rest=>
   match place i,cellsOf x with
   | some (off,size),some (n,g)=>bif Nat.beq n size && Nat.ble (off + n) N then zDp place N (ovr f off n g) rest else none
   | _,_=>none
 | _=>none
def fillS (place : Nat -> Option (Nat × Nat)) (N : Nat) (f : Nat -> CV) : List (Nat × FV) -> Option (Nat -> CV)
 | []=>some f
 | (i,.e x) :: rest=>
   match place i,cellsOf x with
   | some (off,size),some (n,g)=>bif Nat.beq n size && Nat.ble (off + n) N then fillS place N (ovs f off n g) rest else none
   | _,_=>none
 | _=>none
theorem fillS_eq (place : Nat -> Option (Nat × Nat)) (N : Nat) : ∀ (l : List (Nat × FV)) (f : Nat -> CV),fillS place N f l = zDp place N f l:=by
 intro l;induction l with
 | nil=>intro f;rfl
 | cons p l ih=>
   intro f;obtain ⟨i,x⟩:=p;cases x with
   | top=>rfl
   | tup=>rfl
   | e x=>simp only [fillS,zDp,ih,zE2]
def eqI (k : IntKind) (n : Int) : CV -> Bool
 | .int k' m=>YR k k' && decide (n = m)
 | _=>false
def zf (z : List CV) : Nat -> CV:=
 match z with
 | .int k n :: rest=>bif rest.all (eqI k n) then λ_=>.int k n else nth z
 | _=>nth z
theorem zf_eq {z : List CV} {i : Nat} (h : i < z.length) : zf z i = nth z i:=by
 cases z with
 | nil=>simp at h
 | cons x rest=>
   cases x<;>try rfl
   rename_i k n;unfold zf;simp only;cases hb : rest.all (eqI k n) with
   | false=>rfl
   | true=>
     rw [cond_true];cases i with
     | zero=>rfl
     | succ i=>
       have hi : i < rest.length:=by simpa using h
       have h1:=List.all_eq_true.1 hb _ (List.getElem_mem hi);have h2 : nth (.int k n :: rest) (i + 1) = rest[i]:=by simp [nth,List.getElem?_eq_getElem hi]
       rw [h2];generalize rest[i] = y at h1 ⊢;cases y<;>simp [eqI,YR] at h1;rw [h1.1,h1.2]
def zDq (sz N : Nat) (f : Nat -> Nat -> CV) : List (Nat × FV) -> Option (Nat -> Nat -> CV)
 | []=>some f
 | (i,.e x) :: rest=>
   match cellsOf x with
   | some (n,g)=>bif Nat.beq n sz && Nat.blt i N then zDq sz N (λk j=>Zp (Nat.beq k i) (g j) (f k j)) rest else none
   | none=>none
 | _=>none
def zL (x : CV) : FV:=.e (.c x)
def zBX : Option Prop -> Option Prop -> Option Prop
 | none,q=>q
 | some p,none=>some p
 | some p,some q=>some (p /\ q)
theorem YV {p q : Option Prop} : Qh (zBX p q) ↔ Qh p /\ Qh q:=by
 cases p<;>cases q<;>simp [zBX,Qh]
def fits (lit : Bool) (s m : Nat) : Option Prop:=
 match lit with
 | true=>bif Nat.ble s m then none else some False
 | false=>some (s <= m)
theorem zCP {lit : Bool} {s m : Nat} (h : Qh (fits lit s m)) : s <= m:=by
 cases lit with
 | false=>exact h
 | true=>
   simp only [fits] at h;cases hb : Nat.ble s m with
   | true=>exact Nat.le_of_ble_eq_true hb
   | false=>rw [hb] at h;exact h.elim
def zBx (ti : TI) (m : Nat) (g : Nat -> CV) (lit : Bool) (q : Option Prop) (rd : List Nat) : Option SR:=
 match ti with
 | ⟨.struct _,size,_,_,_⟩=>some ⟨zBX q (fits lit size m),.e (.agg size g),[],rd⟩
 | ⟨.arr _ _ _ _,size,_,_,_⟩=>some ⟨zBX q (fits lit size m),.e (.agg size g),[],rd⟩
 | _=>(g 0).see λx=>some ⟨zBX q (fits lit 1 m),.e (.c x),[],rd⟩
structure Src where
 n : Nat
 g : Nat -> Nat -> CV
 pre : Option Prop
 rd : List Nat
def zAg (H : Hp) (sz : Nat) : FV -> Option Src
 | .e (.c (.sl _ n s f))=>bif Nat.beq s sz then some ⟨n,f,none,[]⟩ else none
 | .e (.c .nils)=>some ⟨0,λ_ _=>.top,none,[]⟩
 | .e (.c (.os nm i n))=>
   match zX H nm with
   | some ⟨_,en,es,_,f⟩=>bif Nat.beq es sz then some ⟨n,λk j=>f (i + k) j,some (i + n <= en),[nm]⟩ else none
   | none=>none
 | .e (.c (.oa nm i j n s))=>
   match zX H nm with
   | some ⟨_,en,es,_,f⟩=>bif Nat.beq s sz then some ⟨n,λk q=>f i (j + (k * s + q)),some (i < en /\ j + n * s <= es),[nm]⟩ else none
   | none=>none
 | _=>none
def appZ (T : YU) (t t' : TypeId) (x y : FV) (H : Hp) (nm : Nat) : Option SR:=
 match T t,T t' with
 | some ⟨.slice e es true,_,_,_,_⟩,some ⟨.int _,_,_,_,_⟩=>
   match T e,x,y with
   | some ⟨_,_,z,_,bytes⟩,.e (.c (.os k i n)),.e (.c (.int _ q))=>
     match zX H k with
     | some ⟨et,en,esz,false,f⟩=>bif Nat.beq i 0 && Nat.beq esz es && Nat.beq et e && Nat.beq z.length es && Nat.blt 0 es then some ⟨some (n = en /\ 0 <= q /\ IntKind.i64.wrap q = q /\ (n + q.toNat) * bytes <= 140737488355328 /\ n + q.toNat <= 9223372036854775807),zL (.os nm 0 (n + q.toNat)),[(nm,some ⟨e,n + q.toNat,es,false,λk j=>Zp (Nat.blt k n) (f k j) (nth z j)⟩),(k,none)],[k]⟩ else none
     | _=>none
   | _,_,_=>none
 | _,_=>none
def zET (T : YU) (b : Builtin) (ts : Array TypeId) (args : List FV) (H : Hp) (nm : Nat) : Option SR:=
 match b,args with
 | .len,[x]=>
   match ts[0]? with
   | some t=>match T t with
     | some ⟨.slice _ _ _,_,_,_,_⟩=>
       match x with
       | .e (.c (.sl _ n _ _))=>some ⟨none,zL (.int .i64 n),[],[]⟩
       | .e (.c (.os _ _ n))=>some ⟨none,zL (.int .i64 n),[],[]⟩
       | .e (.c (.oa _ _ _ n _))=>some ⟨none,zL (.int .i64 n),[],[]⟩
       | .e (.c .nils)=>some ⟨none,zL (.int .i64 0),[],[]⟩
       | _=>none
     | _=>none
   | none=>none
 | .min,[.e (.c (.int k a)),.e (.c (.int _ b))]=>some ⟨none,zL (.int k (if b < a then b else a)),[],[]⟩
 | .max,[.e (.c (.int k a)),.e (.c (.int _ b))]=>some ⟨none,zL (.int k (if a < b then b else a)),[],[]⟩
 | .append,[x,y]=>
   match ts.toList with
   | [t,t']=>bif Nat.beq t t' then
     match T t with
     | some ⟨.slice e es true,_,_,_,_⟩=>
       match T e,bif Nat.blt 0 es then zAg H es y else none with
       | some ⟨_,_,z,_,bytes⟩,some ⟨m,g,p,rd⟩=>bif Nat.beq z.length es then
         match x with
         | .e (.c .nils)=>some ⟨zBX p (some (m * bytes <= 140737488355328 /\ m <= 9223372036854775807)),zL (.os nm 0 m),[(nm,some ⟨e,m,es,false,g⟩)],rd⟩
         | .e (.c (.os k i n))=>
           match zX H k with
           | some ⟨et,en,esz,false,f⟩=>bif Nat.beq i 0 && Nat.beq esz es && Nat.beq et e then some ⟨zBX p (some (n = en /\ (n + m) * bytes <= 140737488355328 /\ n + m <= 9223372036854775807)),zL (.os nm 0 (n + m)),[(nm,some ⟨e,n + m,es,false,λk j=>Zp (Nat.blt k n) (f k j) (g (k - n) j)⟩),(k,none)],k :: rd⟩ else none
           | _=>none
         | _=>none
         else none
       | _,_=>none
     | _=>none
     else appZ T t t' x y H nm
   | _=>none
 | .copy,[x,y]=>
   match ts[0]? with
   | some t=>
     match T t with
     | some ⟨.slice e es true,_,_,_,_⟩=>
       match bif Nat.blt 0 es then zAg H es y else none with
       | some ⟨m,g,p,rd⟩=>
         match x with
         | .e (.c (.os k i n))=>
           match zX H k with
           | some ⟨et,en,esz,false,f⟩=>bif Nat.beq esz es then some ⟨zBX p (some (i + n <= en)),zL (.int .i64 (Nat.min m n)),[(k,some ⟨et,en,esz,false,ovE f i (Nat.min m n) g⟩)],k :: rd⟩ else none
           | _=>none
         | .e (.c (.oa k i j n s))=>
           match zX H k with
           | some ⟨et,en,esz,v,f⟩=>bif Nat.beq s es then some ⟨zBX p (some (i < en /\ j + n * s <= esz)),zL (.int .i64 (Nat.min m n)),[(k,some ⟨et,en,esz,v,zBW v f i (ovs (f i) j (Nat.min m n * s) λq=>g (q / s) (q % s))⟩)],k :: rd⟩ else none
           | _=>none
         | _=>none
       | none=>none
     | _=>none
   | none=>none
 | _,_=>none
def bnds (lo hi : Option FV) (n : Nat) : Option (Option Prop × Nat × Nat):=
 match lo,hi with
 | none,none=>some (none,0,n)
 | some (.e (.c (.int _ l))),none=>some (some (0 <= l /\ l <= n),l.toNat,n)
 | none,some (.e (.c (.int _ h)))=>some (some (0 <= h /\ h <= n),0,h.toNat)
 | some (.e (.c (.int _ l))),some (.e (.c (.int _ h)))=>some (some (0 <= l /\ l <= h /\ h <= n),l.toNat,h.toNat)
 | _,_=>none
def zCi (T : YU) (H : Hp) (t : TypeId) (x : FV) (lo hi : Option FV) : Option SR:=
 match T t,x with
 | some ⟨.slice _ es true,_,_,_,_⟩,.e (.c (.sl sh n sz f))=>
   match bnds lo hi n with
   | some (p,l,h)=>bif Nat.beq sz es then some ⟨p,zL (.sl sh (h - l) sz (λi=>f (l + i))),[],[]⟩ else none
   | none=>none
 | some ⟨.slice _ es true,_,_,_,_⟩,.e (.c (.os k i n))=>
   match bnds lo hi n with
   | some (p,l,h)=>
     match zX H k with
     | some ⟨_,_,esz,_,_⟩=>bif Nat.beq esz es then some ⟨p,zL (.os k (i + l) (h - l)),[],[k]⟩ else none
     | none=>none
   | none=>none
 | some ⟨.slice _ es true,_,_,_,_⟩,.e (.c (.oa k i j n s))=>
   match bnds lo hi n with
   | some (p,l,h)=>bif Nat.beq s es then some ⟨p,zL (.oa k i (j + l * s) (h - l) s),[],[]⟩ else none
   | none=>none
 | some ⟨.arr n _ es _,_,_,_,_⟩,.e (.c (.ptr k i j _))=>
   match bnds lo hi n with
   | some (p,l,h)=>bif Nat.blt 0 es then some ⟨p,zL (.oa k i (j + l * es) (h - l) es),[],[]⟩ else none
   | none=>none
 | some ⟨.arr n _ es _,_,_,_,_⟩,.e (.c (.rp sh m g))=>
   match bnds lo hi n with
   | some (p,l,h)=>bif Nat.blt 0 es then some ⟨zBX p (some (n * es <= m)),zL (.sl sh (h - l) es (λi q=>g ((l + i) * es + q))),[],[]⟩ else none
   | none=>none
 | _,_=>none
def qN (p : Nat -> Bool) : Nat -> Nat -> Nat
 | 0,i=>i
 | n + 1,i=>bif p i then i else qN p n (i + 1)
def keyOk (T : YU) (k : TypeId) (ka : Option Bool) : FV -> Option (Nat × List Bool × (Nat -> CV))
 | .e (.c (.int q a))=>
   match T k,ka with
   | some ⟨.int q',_,_,_,_⟩,some false=>bif YR q q' then some (1,[false],λ_=>.int q a) else none
   | _,_=>none
 | .e (.agg n g)=>
   match T k,ka with
   | some ⟨.arr m e 1 (some false),_,_,l,_⟩,some true=>
     match T e with
     | some ⟨.int _,_,_,_,_⟩=>bif Nat.blt 0 l.length && Nat.beq n l.length && Nat.beq m n then some (n,l,g) else none
     | _=>none
   | _,_=>none
 | _=>none
def Za (ks : Nat) (ka va : Bool) : Nat:=4 * ks + (bif ka then 2 else 0) + (bif va then 1 else 0)
def pickV (va : Bool) (vs ks : Nat) (c : Bool) (f : Nat -> CV) (z : Nat -> CV) : EV:=bif va then .agg vs (λj=>Zp c (f (ks + j)) (z j)) else .c (Zp c (f ks) (z 0))
def zCj (T : YU) (H : Hp) (t : TypeId) (x k : FV) (ok : Bool) : Option SR:=
 match T t,x with
 | some ⟨.map kt et ks vs ka (some va),_,_,_,_⟩,.e (.c (.mp nm))=>
   match zX H nm,keyOk T kt ka k,T et with
   | some ⟨et',n,sz,_,f⟩,some (kn,l,g),some ⟨ed,_,z,_,_⟩=>
     bif (aggTD ed == va) && Nat.beq kn ks && Nat.beq et' (Za ks (ka.getD false) va) && Nat.beq sz (ks + vs) && Nat.beq z.length vs then
      (pickV va vs ks (Nat.blt (qN (λi=>ZF g (f i) ks 0) n 0) n) (f (qN (λi=>ZF g (f i) ks 0) n 0)) (nth z)).see λv=>
        some ⟨some (∀ i,i < n -> Zw g (f i) l 0 = true),bif ok then .tup [v,.c (.bool (Nat.blt (qN (λi=>ZF g (f i) ks 0) n 0) n))] else .e v,[],[nm]⟩
     else none
   | _,_,_=>none
 | _,_=>none
def isAggV : EV -> Bool
 | .c _=>false
 | .agg _ _=>true
def zAZ (T : YU) (H : Hp) (t : TypeId) (x k v : FV) : Option SR:=
 match T t,x,v with
 | some ⟨.map kt et ks vs ka (some va),_,_,_,_⟩,.e (.c (.mp nm)),.e v=>
   match zX H nm,keyOk T kt ka k,cellsOf v with
   | some ⟨et',n,sz,b,f⟩,some (kn,l,g),some (vn,vg)=>
     bif Nat.beq kn ks && Nat.beq et' (Za ks (ka.getD false) va) && Nat.beq sz (ks + vs) && Nat.beq vn vs && (isAggV v == va) then
      some ⟨some (∀ i,i < n -> Zw g (f i) l 0 = true),.top,[(nm,some ⟨et',bif Nat.blt (qN (λi=>ZF g (f i) ks 0) n 0) n then n else qN (λi=>ZF g (f i) ks 0) n 0 + 1,sz,b,λi j=>Zp (Nat.beq i (qN (λi=>ZF g (f i) ks 0) n 0)) (bif Nat.blt j ks then g j else vg (j - ks)) (f i j)⟩)],[nm]⟩
     else none
   | _,_,_=>none
 | _,_,_=>none
def zDr (T : YU) (t : TypeId) (nm : Nat) : Option SR:=
 match T t with
 | some ⟨.map _ _ ks vs (some ka) (some va),_,_,_,_⟩=>
   bif Nat.blt 0 ks && Nat.blt 0 vs && (ka || Nat.beq ks 1) && (va || Nat.beq vs 1) then some ⟨none,zL (.mp nm),[(nm,some ⟨Za ks ka va,0,ks + vs,false,λ_ _=>.top⟩)],[]⟩ else none
 | _=>none
def zE3 (n m : Nat) (a : Nat -> CV) (args : List FV) : List FV:=(List.range n).map (λk=>zL (a k)) ++ args ++ (List.range m).map (λk=>zL (a (n + k)))
def qW (T : YU) (o : Op) (fr : Fr) (H : Hp) (nm : Nat) : Option SR:=
 match o with
 | .move x=>(ev fr x).see λv=>some ⟨none,v,[],[]⟩
 | .assign x=>(ev fr x).see λv=>some ⟨none,v,[],[]⟩
 | .pick c a b=>
   match ev fr c with
   | .e (.c (.bool true))=>(ev fr a).see λv=>some ⟨none,v,[],[]⟩
   | .e (.c (.bool false))=>(ev fr b).see λv=>some ⟨none,v,[],[]⟩
   | _=>none
 | .alloc t=>
   match T t with
   | some ⟨_,_,z,_,_⟩=>bif Nat.blt 0 z.length then some ⟨none,zL (.ptr nm 0 0 false),[(nm,some ⟨t,1,z.length,true,λ_=>nth z⟩)],[]⟩ else none
   | none=>none
 | .box t x=>
   match ev fr x with
   | .e x=>match cellsOf x with
     | some (n,f)=>bif Nat.blt 0 n then some ⟨none,zL (.ptr nm 0 0 false),[(nm,some ⟨t,1,n,true,λ_=>f⟩)],[]⟩ else none
     | none=>none
   | _=>none
 | .build t parts=>
   match T t with
   | some ⟨.struct fs,_,z,_,_⟩=>bif fs.all (λx=>x.2.2.isSome) then
     match zDp (λi=>(fs[i]?).map λx=>(x.1,x.2.1)) z.length (nth z) (parts.toList.map λp=>(p.1,ev fr p.2)) with
     | some f=>some ⟨none,.e (.agg z.length f),[],[]⟩
     | none=>none
     else none
   | some ⟨.arr _ _ es _,_,z,_,_⟩=>bif Nat.blt 0 es then
     match fillS (λi=>bif Nat.blt 0 es then some (i * es,es) else none) z.length (zf z) (parts.toList.map λp=>(p.1,ev fr p.2)) with
     | some f=>some ⟨none,.e (.agg z.length f),[],[]⟩
     | none=>none
     else none
   | _=>none
 | .buildSlice t len parts=>
   match T t with
   | some ⟨.slice e es true,_,_,_,_⟩=>
     match T e with
     | some ⟨_,size,z,_,_⟩=>bif Nat.blt 0 es && Nat.beq z.length es && Nat.ble (len * es) 16777216 then
       match zDq es len (λ_=>nth z) (parts.toList.map λp=>(p.1,ev fr p.2)) with
       | some f=>some ⟨none,zL (.os nm 0 len),[(nm,some ⟨e,len,es,false,f⟩)],[]⟩
       | none=>none
       else none
     | none=>none
   | _=>none
 | .makeSlice t l c=>
   match T t,ev fr l,ev fr c with
   | some ⟨.slice e es true,_,_,_,_⟩,.e (.c (.int _ l)),.e (.c (.int _ c))=>
     match T e with
     | some ⟨_,_,z,_,bytes⟩=>bif Nat.blt 0 es && Nat.beq z.length es then some ⟨some (0 <= l /\ l <= c /\ (bytes : Int) * c <= 281474976710656 /\ c <= 9223372036854775807),zL (.os nm 0 l.toNat),[(nm,some ⟨e,l.toNat,es,false,λ_=>nth z⟩)],[]⟩ else none
     | none=>none
   | _,_,_=>none
 | .makeFunc (.func f) first captured=>
   match (first.toList.map (ev fr)).mapM fun | .e (.c x)=>some x | _=>none,(captured.toList.map (ev fr)).mapM fun | .e (.c x)=>some x | _=>none with
   | some l,some l'=>some ⟨none,zL (.fn f l.length l'.length (nth (l ++ l'))),[],[]⟩
   | _,_=>none
 | .load t a=>
   match T t,ev fr a with
   | some ti,.e (.c (.ptr k i j sym))=>
     match zX H k with
     | some ⟨_,en,es,v,ef⟩=>zBx ti (es - j) (λq=>ef i (j + q)) (!sym) (fits v (i + 1) en) [k]
     | none=>none
   | some ti,.e (.c (.rp _ m g))=>zBx ti m g false none []
   | _,_=>none
 | .store t a x=>
   match T t,ev fr a,ev fr x with
   | some ⟨_,tsz,_,_,_⟩,.e (.c (.ptr k i j sym)),.e x=>
     match zX H k,cellsOf x with
     | some ⟨et,en,es,v,ef⟩,some (n,g)=>bif Nat.beq n tsz then some ⟨zBX (fits v (i + 1) en) (fits (!sym) (j + n) es),.top,[(k,some ⟨et,en,es,v,zBW v ef i (ovw sym es (ef i) j n g)⟩)],[k]⟩ else none
     | _,_=>none
   | _,_,_=>none
 | .nilCheck x=>
   match ev fr x with
   | .e (.c (.ptr k i j s))=>some ⟨none,zL (.ptr k i j s),[],[]⟩
   | .e (.c (.rp sh m g))=>some ⟨none,zL (.rp sh m g),[],[]⟩
   | .e (.c (.fn f n m a))=>some ⟨none,zL (.fn f n m a),[],[]⟩
   | _=>none
 | .binOp op t x y _=>
   match bin T op t (ev fr x) (ev fr y) with
   | some (p,v)=>v.see λv=>some ⟨p,.e (.c v),[],[]⟩
   | none=>none
 | .unOp op _ x=>
   match op,ev fr x with
   | .not,.e (.c (.bool b))=>some ⟨none,zL (.bool (!b)),[],[]⟩
   | .neg,.e (.c (.int k n))=>some ⟨none,zL (.int k (k.wrap (0 - n))),[],[]⟩
   | .xor,.e (.c (.int k n))=>some ⟨none,zL (.int k (bits .xor k (if k.signed then -1 else k.max) n)),[],[]⟩
   | _,_=>none
 | .convert src dst x=>
   match T src,T dst,ev fr x with
   | some _,some ⟨.int k,_,_,_,_⟩,.e (.c (.int _ n))=>some ⟨none,zL (.int k (k.wrap n)),[],[]⟩
   | _,_,_=>none
 | .fieldAddr t x f=>
   match T t,ev fr x with
   | some ⟨.struct fs,_,_,_,_⟩,.e (.c (.ptr k i j s))=>
     match fs[f]? with
     | some (o,sz,_)=>bif Nat.blt 0 sz then some ⟨none,zL (.ptr k i (j + o) s),[],[]⟩ else none
     | none=>none
   | some ⟨.struct fs,_,_,_,_⟩,.e (.c (.rp sh m g))=>
     match fs[f]? with
     | some (o,s,_)=>bif Nat.blt 0 s then some ⟨none,zL (.rp sh (m - o) (λj=>g (o + j))),[],[]⟩ else none
     | none=>none
   | _,_=>none
 | .field t x f=>
   match T t,ev fr x with
   | some ⟨.struct fs,_,_,_,_⟩,.e (.agg n g)=>
     match fs[f]? with
     | some (o,s,some true)=>bif Nat.blt 0 s && Nat.ble (o + s) n then some ⟨none,.e (.agg s (λj=>g (o + j))),[],[]⟩ else none
     | some (o,s,some false)=>bif Nat.blt o n then (g o).see λx=>some ⟨none,.e (.c x),[],[]⟩ else none
     | _=>none
   | _,_=>none
 | .indexAddr t x ix=>
   match T t,ev fr x,ev fr ix with
   | some ⟨.slice _ es _,_,_,_,_⟩,.e (.c (.sl sh n sz f)),.e (.c (.int _ i))=>bif Nat.blt 0 es && Nat.beq sz es then some ⟨some (0 <= i /\ i < n),zL (.rp sh sz (f i.toNat)),[],[]⟩ else none
   | some ⟨.slice _ es _,_,_,_,_⟩,.e (.c (.os k b n)),.e (.c (.int _ i))=>
     match zX H k with
     | some ⟨_,_,esz,_,_⟩=>bif Nat.blt 0 es && Nat.beq esz es then some ⟨some (0 <= i /\ i < n),zL (.ptr k (b + i.toNat) 0 false),[],[k]⟩ else none
     | none=>none
   | some ⟨.slice _ es _,_,_,_,_⟩,.e (.c (.oa k b j n s)),.e (.c (.int _ i))=>bif Nat.blt 0 es && Nat.beq s es then some ⟨some (0 <= i /\ i < n),zL (.ptr k b (j + i.toNat * s) true),[],[]⟩ else none
   | some ⟨.arr n _ es _,_,_,_,_⟩,.e (.c (.ptr k b j s)),.e (.c (.int _ i))=>bif Nat.blt 0 es then some ⟨some (0 <= i /\ i < n),zL (.ptr k b (j + i.toNat * es) true),[],[]⟩ else none
   | some ⟨.arr n _ es _,_,_,_,_⟩,.e (.c (.rp sh m g)),.e (.c (.int _ i))=>bif Nat.blt 0 es then some ⟨some (0 <= i /\ i < n),zL (.rp sh (m - i.toNat * es) (λj=>g (i.toNat * es + j))),[],[]⟩ else none
   | _,_,_=>none
 | .index t x ix=>
   match T t,ev fr x,ev fr ix with
   | some ⟨.arr n _ es (some true),_,_,_,_⟩,.e (.agg m g),.e (.c (.int _ i))=>bif Nat.blt 0 es && Nat.ble (n * es) m then some ⟨some (0 <= i /\ i < n),.e (.agg es (λj=>g (i.toNat * es + j))),[],[]⟩ else none
   | some ⟨.arr n _ es (some false),_,_,_,_⟩,.e (.agg m g),.e (.c (.int _ i))=>bif Nat.blt 0 es && Nat.ble (n * es) m then (g (i.toNat * es)).see λx=>some ⟨some (0 <= i /\ i < n),.e (.c x),[],[]⟩ else none
   | _,_,_=>none
 | .extract x ix=>
   match ev fr x with
   | .tup l=>match l[ix]? with
     | some y=>y.see λy=>some ⟨none,.e y,[],[]⟩
     | none=>none
   | _=>none
 | .makeMap t none=>zDr T t nm
 | .lookup t x k ok=>zCj T H t (ev fr x) (ev fr k) ok
 | .mapUpdate t m k x=>zAZ T H t (ev fr m) (ev fr k) (ev fr x)
 | .insert t m k x=>zAZ T H t (ev fr m) (ev fr k) (ev fr x)
 | .slice t x lo hi none=>zCi T H t (ev fr x) (lo.map (ev fr)) (hi.map (ev fr))
 | .call { callee:=.builtin b,args,argTypes }=>zET T b argTypes (args.toList.map (ev fr)) H nm
 | _=>none
def zCk (o : Op) (fr : Fr) : Option (FuncId × List FV):=
 match o with
 | .call { callee:=.value f,args,.. }=>
   match ev fr f with
   | .e (.c (.fn f n m a))=>some (f,zE3 n m a (args.toList.map (ev fr)))
   | _=>none
 | _=>none
theorem zBv (b o i : Nat) : (Addr.add ⟨b,o,none⟩ i) = ⟨b,o + i,none⟩:=by
 unfold Addr.add;split
 . subst_vars;rfl
 . rfl
theorem addS {a : Addr} (h : a.spot = none) (i : Nat) : a.add i = ⟨a.block,a.off + i,none⟩:=by
 obtain ⟨b,o,s⟩:=a;simp only at h;subst h;exact zBv b o i
theorem zGC {v : Value} (h : zAa v) : v.oneCell' = true:=by
 cases v<;>first | rfl | exact h.elim
theorem zCM (P : Program) (w : World) (a : Addr) : ∀ (n k : Nat) (acc : Array Value),(∀ i,i < n -> ∃ u,w.cell? (a.add (k + i)) = some u) ->
 ∃ cs,(loadCellsFrom a k n acc).run P w = .ok cs w /\ cs.size = acc.size + n /\ (∀ i,i < acc.size -> cs[i]? = acc[i]?) /\ ∀ i,i < n -> cs[acc.size + i]? = w.cell? (a.add (k + i)):=by
 intro n;induction n with
 | zero=>intro k acc _;exact ⟨acc,rfl,rfl,λ_ _=>rfl,λi hi=>absurd hi (Nat.not_lt_zero _)⟩
 | succ n ih=>
   intro k acc h;obtain ⟨u,hu⟩:=h 0 (by omega);rw [Nat.add_zero] at hu;obtain ⟨cs,h1,h2,h3,h4⟩:=ih (k + 1) (acc.push u) (λi hi=>by
    have:=h (i + 1) (by omega);rwa [show k + (i + 1) = k + 1 + i by omega] at this)
   refine ⟨cs,?_,?_,λi hi=>?_,λi hi=>?_⟩
   . simp only [loadCellsFrom,Sem.run_bind,run_load,hu,Result.andThen_ok];exact h1
   . rw [h2,Array.size_push];omega
   . rw [h3 i (by rw [Array.size_push];omega),Array.getElem?_push,if_neg (by omega)]
   . cases i with
     | zero=>rw [Nat.add_zero,Nat.add_zero,hu,h3 _ (by rw [Array.size_push];omega),Array.getElem?_push,if_pos rfl]
     | succ i=>
       have:=h4 i (by omega);rw [Array.size_push] at this;rw [show acc.size + (i + 1) = acc.size + 1 + i by omega,this,show k + 1 + i = k + (i + 1) by omega]
theorem zD4 (P : Program) (w : World) (a : Addr) (n : Nat) (h : ∀ i,i < n -> ∃ u,w.cell? (a.add i) = some u) :
 ∃ cs,(loadCells a n).run P w = .ok cs w /\ cs.size = n /\ ∀ i,i < n -> cs[i]? = w.cell? (a.add i):=by
 obtain ⟨cs,h1,h2,_,h4⟩:=zCM P w a n 0 #[] (λi hi=>by rw [Nat.zero_add];exact h i hi);refine ⟨cs,h1,by simpa using h2,λi hi=>?_⟩;have:=h4 i hi;simpa using this
def ovl (cs : Array Value) (i : Nat) : List Value -> Array Value
 | []=>cs
 | v :: vs=>ovl (cs.setIfInBounds i v) (i + 1) vs
theorem zAt : ∀ (vs : List Value) (cs : Array Value) (i : Nat),(ovl cs i vs).size = cs.size:=by
 intro vs;induction vs with
 | nil=>intro cs i;rfl
 | cons v vs ih=>intro cs i;rw [ovl,ih];simp
theorem zBk : ∀ (vs : List Value) (cs : Array Value) (i : Nat),i + vs.length <= cs.size -> ∀ j,(ovl cs i vs)[j]? = if i <= j /\ j < i + vs.length then vs[j - i]? else cs[j]?:=by
 intro vs;induction vs with
 | nil=>intro cs i _ j;rw [if_neg (by simp only [List.length_nil];omega)];rfl
 | cons v vs ih=>
   intro cs i h j;simp only [List.length_cons] at h ⊢;rw [ovl,ih _ _ (by simp;omega)];by_cases h1 : i + 1 <= j /\ j < i + 1 + vs.length
   . rw [if_pos h1,if_pos (by omega)];rw [show j - i = (j - (i + 1)) + 1 by omega];rfl
   . rw [if_neg h1];by_cases hj : j = i
     . subst hj;rw [if_pos (by omega),Nat.sub_self];simp [Array.getElem?_setIfInBounds,show j < cs.size by omega]
     . rw [if_neg (by omega),Array.getElem?_setIfInBounds_ne (by omega)]
theorem Yh (P : Program) (b off : Nat) (t : TypeId) : ∀ (vs : List Value) (k : Nat) (w : World) (cs : Array Value),w.heap[b]? = some (.cells cs t (0,0)) -> off + k + vs.length <= cs.size -> (∀ v ∈ vs,zAa v) ->
 ∃ w',(storeCells ⟨b,off,none⟩ vs k).run P w = .ok () w' /\ w'.os = w.os /\ w'.tape = w.tape /\ w'.output = w.output /\ w'.heap.size = w.heap.size /\ (∀ x,x ≠ b -> w'.heap[x]? = w.heap[x]?) /\ w'.heap[b]? = some (.cells (ovl cs (off + k) vs) t (0,0)):=by
 intro vs;induction vs with
 | nil=>intro k w cs h _ _;exact ⟨w,rfl,rfl,rfl,rfl,rfl,λ_ _=>rfl,h⟩
 | cons v vs ih=>
   intro k w cs h hl hv;simp only [List.length_cons] at hl;have hc : ∃ u,w.cell? ⟨b,off + k,none⟩ = some u:=by
    refine ⟨cs[off + k]'(by omega),?_⟩;simp [World.cell?,h,Array.getElem?_eq_getElem (show off + k < cs.size by omega)]
   obtain ⟨u,hu⟩:=hc;have hfz : w.frozen? ⟨b,off + k,none⟩ = false:=by simp [World.frozen?,h]
   have hh : (w.setCell ⟨b,off + k,none⟩ v).heap[b]? = some (.cells (cs.setIfInBounds (off + k) v) t (0,0)):=by
    simp [World.setCell,Array.getElem?_modify,h]
   obtain ⟨w',h1,h2,h3,h4,h5,h6,h7⟩:=ih (k + 1) (w.setCell ⟨b,off + k,none⟩ v) _ hh (by simp;omega) (λx hx=>hv x (List.mem_cons_of_mem _ hx));refine ⟨w',?_,h2,h3,h4,by rw [h5];simp [World.setCell],λx hx=>?_,?_⟩
   . simp only [storeCells,Sem.run_bind,zBv,run_store _ _ _ _ _ (zGC (hv v (List.mem_cons_self ..))),hu,hfz,Result.andThen_ok];exact h1
   . rw [h6 x hx];exact Below.heap_setCell w _ v x hx
   . rw [h7,show off + (k + 1) = off + k + 1 by omega,ovl]
theorem fv_e {r X W w} {x : FV} {v : Value} {y : EV} (h : x.rel r X W w v) (e : x = .e y) : y.rel r X W w v:=by subst e;exact h
theorem zAu {r X W w} {x : EV} {v : Value} {n : Nat} {f : Nat -> CV} (h : x.rel r X W w v) (hc : cellsOf x = some (n,f)) :
 v.cells.size = n /\ (∀ i u,v.cells[i]? = some u -> (f i).rel r X W w u) /\ ∀ u ∈ v.cells.toList,zAa u:=by
 cases x with
 | c x=>
   have hx : x.rel r X W w v:=h;have hcell:=Yr hx;have hn : n = 1 /\ f = λ_=>x:=by cases x<;>simp [cellsOf] at hc<;>exact ⟨hc.1.symm,hc.2.symm⟩
   obtain ⟨rfl,rfl⟩:=hn;have hvc : v.cells = #[v]:=by cases v<;>first | rfl | exact hcell.elim
   rw [hvc];refine ⟨rfl,λi u hu=>?_,λu hu=>?_⟩
   . cases i with
     | zero=>simp at hu;subst hu;exact hx
     | succ i=>simp at hu
   . simp at hu;subst hu;exact hcell
 | agg m g=>
   obtain ⟨cs,rfl,hs,hg⟩:=h;simp [cellsOf] at hc;obtain ⟨rfl,rfl⟩:=hc;refine ⟨hs,hg,λu hu=>?_⟩;obtain ⟨i,hi,rfl⟩:=Array.mem_iff_getElem.1 (Array.mem_toList_iff.1 hu);exact Yr (hg i _ (Array.getElem?_eq_getElem hi))
theorem load_ok {P : Program} {t : TypeId} {ti : TI} (hT : ZI P t ti) {r X W w} {m : Nat} {g : Nat -> CV} {lit : Bool} {q : Option Prop} {rd : List Nat} {sr : SR} (hs : zBx ti m g lit q rd = some sr) (hp : Qh sr.pre)
 {b off : Nat} (hc : Qh q -> ∀ j,j < m -> ∃ u,w.cell? ⟨b,off + j,none⟩ = some u /\ (g j).rel r X W w u) :
 ∃ v,(loadVar t ⟨b,off,none⟩).run P w = .ok v w /\ sr.eff = [] /\ sr.val.rel r X W w v:=by
 obtain ⟨i,z,hi,hsz,_⟩:=hT.info;obtain ⟨d,hd,htd⟩:=hT.under;have agg : qe d = true -> some sr = some (⟨zBX q (fits lit ti.size m),.e (.agg ti.size g),[],rd⟩ : SR) -> ∃ v,(loadVar t ⟨b,off,none⟩).run P w = .ok v w /\ sr.eff = [] /\ sr.val.rel r X W w v:=by
  intro ha hsr;injection hsr with hsr;subst hsr;obtain ⟨hq,hp'⟩:=YV.1 hp;have hp' : ti.size <= m:=zCP hp';have hc:=hc hq;obtain ⟨cs,h1,h2,h3⟩:=zD4 P w ⟨b,off,none⟩ ti.size (λi hi=>by
   obtain ⟨u,hu,_⟩:=hc i (by omega);exact ⟨u,by rw [zBv];exact hu⟩)
  refine ⟨.agg cs,?_,rfl,cs,rfl,h2,λj u hu=>?_⟩
  . have hA : (isAgg t).run P w = .ok true w:=by
     simp only [isAgg,Sem.run_bind,run_underlying hd,Result.andThen_ok];cases d<;>first | rfl | cases ha
    simp only [loadVar,Sem.run_bind,hA,Result.andThen_ok,if_true,sizeOf,typeInfo,run_program,hi,Sem.run_pure,hsz,h1]
  . have hj : j < ti.size:=by
     have:=(Array.getElem?_eq_some_iff.1 hu).1;omega
    have h4:=h3 j hj;rw [zBv] at h4;obtain ⟨u',hu',hr⟩:=hc j (by omega);rw [hu,hu'] at h4;injection h4 with h4;subst h4;exact hr
 have plain : qe d = false -> some sr = some (⟨zBX q (fits lit 1 m),.e (.c (g 0)),[],rd⟩ : SR) -> ∃ v,(loadVar t ⟨b,off,none⟩).run P w = .ok v w /\ sr.eff = [] /\ sr.val.rel r X W w v:=by
  intro ha hsr;injection hsr with hsr;subst hsr;obtain ⟨hq,hp'⟩:=YV.1 hp;obtain ⟨u,hu,hr⟩:=hc hq 0 (zCP hp');rw [Nat.add_zero] at hu;refine ⟨u,?_,rfl,hr⟩;have hA : (isAgg t).run P w = .ok false w:=by
   simp only [isAgg,Sem.run_bind,run_underlying hd,Result.andThen_ok];cases d<;>first | rfl | cases ha
  simp only [loadVar,Sem.run_bind,hA,Result.andThen_ok,run_load,hu,Bool.false_eq_true,if_false]
 obtain ⟨tid,tis,tiz,tie,tib⟩:=ti;simp only at htd;subst htd;unfold zBx at hs;cases d<;>simp only [zB0,CV.see_eq] at hs<;>first | exact agg rfl hs.symm | exact plain rfl hs.symm
theorem zCK {n : Nat} (h : Nat.blt 0 n = true) : n ≠ 0:=by have:=Nat.le_of_ble_eq_true h;omega
theorem zDn (f g : Nat -> CV) : ∀ (a b : List Bool) (off : Nat),Zw f g (a ++ b) off = (Zw f g a off && Zw f g b (off + a.length)):=by
 intro a;induction a with
 | nil=>intro b off;simp [Zw]
 | cons x a ih=>intro b off;rw [List.cons_append,Zw,Zw,ih,List.length_cons,show off + 1 + a.length = off + (a.length + 1) by omega,Bool.and_assoc]
theorem zDo (f g : Nat -> CV) : ∀ (a b off : Nat),ZF f g (a + b) off = (ZF f g a off && ZF f g b (off + a)):=by
 intro a;induction a with
 | zero=>intro b off;simp [ZF]
 | succ a ih=>intro b off;rw [show a + 1 + b = (a + b) + 1 by omega,ZF,ZF,ih,show off + 1 + a = off + (a + 1) by omega,Bool.and_assoc]
theorem underOf {P : Program} {t : TypeId} {l : List Bool} : ∀ {m : Nat},eqT P m t = some l -> ∃ d,P.underlying t = some d:=by
 intro m h;cases m with
 | zero=>cases h
 | succ m=>
   unfold eqT at h;cases hu : P.underlying t with
   | none=>rw [hu] at h;cases h
   | some d=>exact ⟨d,rfl⟩
theorem infoOf {P : Program} {t : TypeId} {d : TypeDesc} (h : P.underlying t = some d) : ∃ i,P.info? t = some i:=by
 cases hi : P.info? t with
 | some i=>exact ⟨i,rfl⟩
 | none=>simp [Program.underlying,hi] at h
theorem zEQ {P : Program} {t : TypeId} {d : TypeDesc} (h : P.underlying t = some d) (w : World) : (isAgg t).run P w = .ok (qe d) w:=by
 simp only [isAgg,Sem.run_bind,run_underlying h,Result.andThen_ok];cases d<;>rfl
def zEy (P : Program) (d : Nat) (t : TypeId) (l : List Bool) : Prop:=
 ∀ (w : World) (r : QK) (X W : Nat -> Prop) (xs ys : Array Value) (f g : Nat -> CV) (off : Nat),off + l.length <= xs.size -> off + l.length <= ys.size -> (∀ i u,xs[i]? = some u -> (f i).rel r X W w u) -> (∀ i u,ys[i]? = some u -> (g i).rel r X W w u) -> Zw f g l off = true ->
   ∃ a b,(part t xs off).run P w = .ok a w /\ (part t ys off).run P w = .ok b w /\ (Op.equalIn d t a b).run P w = .ok (ZF f g l.length off) w
theorem YS {P : Program} {t : TypeId} {d : TypeDesc} (h : P.underlying t = some d) (ha : qe d = false) {w : World} {xs : Array Value} {off : Nat} {u : Value} (hu : xs[off]? = some u) : (part t xs off).run P w = .ok u w:=by
 simp only [part,Sem.run_bind,zEQ h,ha,Result.andThen_ok,hu,Sem.run_pure,Bool.false_eq_true,if_false]
theorem zCL {P : Program} {t : TypeId} {d : TypeDesc} {s : Nat} (h : P.underlying t = some d) (ha : qe d = true) (hs : szN P t = s) {w : World} {xs : Array Value} {off : Nat} : (part t xs off).run P w = .ok (.agg (xs.extract off (off + s))) w:=by
 obtain ⟨i,hi⟩:=infoOf h;have : i.size = s:=by rw [<- hs];simp [szN,hi]
 simp only [part,Sem.run_bind,zEQ h,ha,Result.andThen_ok,if_true,sizeOf,typeInfo,run_program,hi,Sem.run_pure,this]
theorem zFX {P : Program} {d : Nat} {E : TypeId -> Option (List Bool)} (hE : ∀ t l,E t = some l -> szN P t = l.length -> zEy P d t l) (w : World) (r : QK) (X W : Nat -> Prop) (xs ys : Array Value) (f g : Nat -> CV)
 (hx : ∀ i u,xs[i]? = some u -> (f i).rel r X W w u) (hy : ∀ i u,ys[i]? = some u -> (g i).rel r X W w u) : ∀ (fs : List Field) (off : Nat) (l : List Bool),eqFs E P fs off = some l -> off + l.length <= xs.size -> off + l.length <= ys.size -> Zw f g l off = true ->
 (Op.eqFields d xs ys fs).run P w = .ok (ZF f g l.length off) w:=by
 intro fs;induction fs with
 | nil=>
   intro off l h _ _ _;injection h with h;subst h;rfl
 | cons fd fs ih=>
   intro off l h h1 h2 ho;unfold eqFs at h;cases hb : (fd.name != "_" && Nat.beq fd.offset off) with
   | false=>rw [hb] at h;cases h
   | true=>
     rw [hb,cond_true] at h;simp only [Bool.and_eq_true,bne_iff_ne] at hb;have e1:=Nat.eq_of_beq_eq_true hb.2;split at h
     . rename_i l1 hl1;cases hb2 : (Nat.beq (szN P fd.type) l1.length && Nat.blt 0 l1.length) with
       | false=>rw [hb2] at h;cases h
       | true=>
         rw [hb2,cond_true] at h;simp only [Bool.and_eq_true] at hb2;have e2:=Nat.eq_of_beq_eq_true hb2.1;split at h
         . rename_i l2 hl2;injection h with h;subst h;rw [zDn,Bool.and_eq_true] at ho;rw [List.length_append] at h1 h2 ⊢;obtain ⟨a,b,p1,p2,p3⟩:=hE fd.type l1 hl1 e2 w r X W xs ys f g off (by omega) (by omega) hx hy ho.1;have:=ih (off + l1.length) l2 hl2 (by omega) (by omega) ho.2;rw [zDo];simp only [Op.eqFields,hb.1,ne_eq,not_false_eq_true,if_true,Sem.run_bind,e1,p1,p2,p3,Result.andThen_ok];cases ZF f g l1.length off with
           | false=>simp
           | true=>simpa using this
         . cases h
     . cases h
theorem zGB {P : Program} {d : Nat} {e : TypeId} {l : List Bool} (hE : zEy P d e l) (w : World) (r : QK) (X W : Nat -> Prop) (xs ys : Array Value) (f g : Nat -> CV)
 (hx : ∀ i u,xs[i]? = some u -> (f i).rel r X W w u) (hy : ∀ i u,ys[i]? = some u -> (g i).rel r X W w u) : ∀ (n k : Nat),(k + n) * l.length <= xs.size -> (k + n) * l.length <= ys.size -> Zw f g (List.replicate n l).flatten (k * l.length) = true ->
 (Op.eqItems d e l.length xs ys (List.range' k n)).run P w = .ok (ZF f g (n * l.length) (k * l.length)) w:=by
 intro n;induction n with
 | zero=>intro k _ _ _;simp [Op.eqItems,ZF]
 | succ n ih=>
   intro k h1 h2 ho;have hk : k * l.length + l.length <= (k + (n + 1)) * l.length:=by
    rw [show k * l.length + l.length = (k + 1) * l.length by rw [Nat.add_mul,Nat.one_mul]];exact Nat.mul_le_mul_right _ (by omega)
   rw [List.replicate_succ,List.flatten_cons,zDn,Bool.and_eq_true] at ho;obtain ⟨a,b,p1,p2,p3⟩:=hE w r X W xs ys f g (k * l.length) (by omega) (by omega) hx hy ho.1;have ho2:=ho.2;rw [show k * l.length + l.length = (k + 1) * l.length by rw [Nat.add_mul,Nat.one_mul]] at ho2;have:=ih (k + 1) (by rw [show k + 1 + n = k + (n + 1) by omega];exact h1) (by rw [show k + 1 + n = k + (n + 1) by omega];exact h2) ho2;rw [show (n + 1) * l.length = l.length + n * l.length by rw [Nat.add_mul,Nat.one_mul,Nat.add_comm],zDo,show k * l.length + l.length = (k + 1) * l.length by rw [Nat.add_mul,Nat.one_mul]];simp only [List.range'_succ,Op.eqItems,Sem.run_bind,p1,p2,p3,Result.andThen_ok];cases ZF f g l.length (k * l.length) with
   | false=>simp
   | true=>simpa using this
theorem zAX {x y : CV} (h : zAY false x y = true) : ∃ k a b,x = .int k a /\ y = .int k b:=by
 cases x<;>cases y<;>simp [zAY,YR] at h;subst h;exact ⟨_,_,_,rfl,rfl⟩
theorem zBU {x y : CV} (h : zAY true x y = true) : ∃ a b,x = .bool a /\ y = .bool b:=by
 cases x<;>cases y<;>simp [zAY] at h;exact ⟨_,_,rfl,rfl⟩
theorem ex_rel {xs : Array Value} {w : World} {r : QK} {X W : Nat -> Prop} {f : Nat -> CV} (hx : ∀ i u,xs[i]? = some u -> (f i).rel r X W w u) {off s : Nat} (h : off + s <= xs.size) :
 (xs.extract off (off + s)).size = s /\ ∀ i u,(xs.extract off (off + s))[i]? = some u -> (f (off + i)).rel r X W w u:=by
 refine ⟨by simp;omega,λi u hu=>?_⟩;rw [Array.getElem?_extract] at hu;split at hu
 . exact hx _ _ hu
 . cases hu
theorem zEz (f g : Nat -> CV) (k : Nat) : ∀ (l : List Bool) (off : Nat),Zw (λi=>f (k + i)) (λi=>g (k + i)) l off = Zw f g l (k + off):=by
 intro l;induction l with
 | nil=>intro off;rfl
 | cons b l ih=>intro off;rw [Zw,Zw,ih,Nat.add_assoc]
theorem zE0 (f g : Nat -> CV) (k : Nat) : ∀ (n off : Nat),ZF (λi=>f (k + i)) (λi=>g (k + i)) n off = ZF f g n (k + off):=by
 intro n;induction n with
 | zero=>intro off;rfl
 | succ n ih=>intro off;rw [ZF,ZF,ih,Nat.add_assoc]
def AggEq (P : Program) (d : Nat) (t : TypeId) (l : List Bool) : Prop:=
 ∀ (w : World) (r : QK) (X W : Nat -> Prop) (xs ys : Array Value) (f g : Nat -> CV),xs.size = l.length -> ys.size = l.length -> (∀ i u,xs[i]? = some u -> (f i).rel r X W w u) -> (∀ i u,ys[i]? = some u -> (g i).rel r X W w u) -> Zw f g l 0 = true ->
   (Op.equalIn d t (.agg xs) (.agg ys)).run P w = .ok (ZF f g l.length 0) w
theorem zC3 {P : Program} {d : Nat} {t : TypeId} {l : List Bool} {td : TypeDesc} (h : P.underlying t = some td) (ha : qe td = true) (hs : szN P t = l.length) (hA : AggEq P d t l) : zEy P d t l:=by
 intro w r X W xs ys f g off h1 h2 hx hy ho;obtain ⟨a1,a2⟩:=ex_rel hx h1;obtain ⟨b1,b2⟩:=ex_rel hy h2;refine ⟨_,_,zCL h ha hs,zCL h ha hs,?_⟩;have:=hA w r X W _ _ (λi=>f (off + i)) (λi=>g (off + i)) a1 b1 a2 b2 (by rw [zEz,Nat.add_zero];exact ho);rw [zE0,Nat.add_zero] at this;exact this
theorem eq_all {P : Program} (d : Nat) : ∀ (m : Nat) (t : TypeId) (l : List Bool),eqT P m t = some l -> (szN P t = l.length -> zEy P (d + m) t l) /\ ((P.underlying t).map qe = some true -> AggEq P (d + m) t l):=by
 intro m;induction m with
 | zero=>intro t l h;cases h
 | succ m ih=>
   intro t l h;unfold eqT at h;split at h
   . rename_i hu;injection h with h;subst h;refine ⟨λ_ w r X W xs ys f g off h1 h2 hx hy ho=>?_,λha=>by rw [hu] at ha;cases ha⟩;simp only [List.length_cons,List.length_nil] at h1 h2;have c1 : xs[off]? = some (xs[off]'(by omega)):=Array.getElem?_eq_getElem (by omega);have c2 : ys[off]? = some (ys[off]'(by omega)):=Array.getElem?_eq_getElem (by omega);simp only [Zw,Bool.and_true] at ho;obtain ⟨a,b,ea,eb⟩:=zBU ho;have r1:=hx _ _ c1;have r2:=hy _ _ c2;rw [ea] at r1;rw [eb] at r2;have r1' : xs[off]'(by omega) = .bool a:=r1;have r2' : ys[off]'(by omega) = .bool b:=r2;refine ⟨_,_,YS hu rfl c1,YS hu rfl c2,?_⟩;rw [r1',r2',show d + (m + 1) = (d + m) + 1 from rfl,run_equalIn_bool w (d + m) t a b hu];simp [ZF,ea,eb,zA5]
   . rename_i q hu;injection h with h;subst h;refine ⟨λ_ w r X W xs ys f g off h1 h2 hx hy ho=>?_,λha=>by rw [hu] at ha;cases ha⟩;simp only [List.length_cons,List.length_nil] at h1 h2;have c1 : xs[off]? = some (xs[off]'(by omega)):=Array.getElem?_eq_getElem (by omega);have c2 : ys[off]? = some (ys[off]'(by omega)):=Array.getElem?_eq_getElem (by omega);simp only [Zw,Bool.and_true] at ho;obtain ⟨k,a,b,ea,eb⟩:=zAX ho;have r1:=hx _ _ c1;have r2:=hy _ _ c2;rw [ea] at r1;rw [eb] at r2;have r1' : xs[off]'(by omega) = .int k a:=r1;have r2' : ys[off]'(by omega) = .int k b:=r2;refine ⟨_,_,YS hu rfl c1,YS hu rfl c2,?_⟩;rw [r1',r2',show d + (m + 1) = (d + m) + 1 from rfl,run_equalIn_int w (d + m) t k q a b hu];simp [ZF,ea,eb,zA5]
   . rename_i n e hu;split at h
     . rename_i l1 hl1;cases hb : (Nat.beq (szN P e) l1.length && Nat.blt 0 l1.length) with
       | false=>rw [hb] at h;cases h
       | true=>
         rw [hb,cond_true] at h;injection h with h;simp only [Bool.and_eq_true] at hb;have e1:=Nat.eq_of_beq_eq_true hb.1;obtain ⟨de,hde⟩:=underOf hl1;obtain ⟨i,hi⟩:=infoOf hde;have hce : P.cellsOf e = l1.length:=by rw [<- e1];simp [szN,Program.cellsOf,hi]
         have hll : l.length = n * l1.length:=by rw [<- h];simp
         have hA : AggEq P (d + (m + 1)) t l:=by
          intro w r X W xs ys f g h1 h2 hx hy ho;rw [show d + (m + 1) = (d + m) + 1 from rfl,run_equalIn_array w (d + m) xs ys hu hi,hce,List.range_eq_range'];have:=zGB ((ih e l1 hl1).1 e1) w r X W xs ys f g hx hy n 0 (by rw [Nat.zero_add];omega) (by rw [Nat.zero_add];omega) (by rw [Nat.zero_mul,h];exact ho);rw [Nat.zero_mul] at this;rw [hll];exact this
         exact ⟨λhs=>zC3 hu rfl hs hA,λ_=>hA⟩
     . cases h
   . rename_i fs hu;cases hst : P.stoodInHeld t with
     | true=>rw [hst] at h;cases h
     | false=>
       rw [hst,cond_false] at h;have hfs : P.fieldsOf t = fs:=by simp [Program.fieldsOf,hu]
       have hA : AggEq P (d + (m + 1)) t l:=by
        intro w r X W xs ys f g h1 h2 hx hy ho;rw [show d + (m + 1) = (d + m) + 1 from rfl,run_equalIn_struct w (d + m) t xs ys (by rw [hfs];exact hu) hst,hfs];exact zFX (λt' l' ht' hs'=>(ih t' l' ht').1 hs') w r X W xs ys f g hx hy fs.toList 0 l h (by omega) (by omega) ho
       exact ⟨λhs=>zC3 hu rfl hs hA,λ_=>hA⟩
   . cases h
theorem zER {P : Program} {t : TypeId} {l : List Bool} (w : World) (h : eqT P 6 t = some l) (ha : (P.underlying t).map qe = some true) {r : QK} {X W : Nat -> Prop} {xs ys : Array Value} {f g : Nat -> CV} (h1 : xs.size = l.length) (h2 : ys.size = l.length)
 (hx : ∀ i u,xs[i]? = some u -> (f i).rel r X W w u) (hy : ∀ i u,ys[i]? = some u -> (g i).rel r X W w u) (ho : Zw f g l 0 = true) : (Op.equalIn 10000 t (.agg xs) (.agg ys)).run P w = .ok (ZF f g l.length 0) w:=
 (eq_all 9994 6 t l h).2 ha w r X W xs ys f g h1 h2 hx hy ho
def zAe (r : QK) (X W : Nat -> Prop) (w : World) (args : List FV) (vals : Array Value) : Prop:=
 vals.size = args.length /\ ∀ (i : Nat) x u,args[i]? = some x -> vals[i]? = some u -> x.rel r X W w u
def zAq (r : QK) (H : Hp) (nm wd : Nat) : Prop:=∀ k,nm <= k -> k < nm + wd -> r k = none /\ zX H k = none
def zBt : Nat:=4611686018427387904
def zAD (cx : Cx) (r : QK) (H : Hp) (w : World) (nm wd : Nat) (sr : SR) (v : Value) (w' : World) : Prop:=
 ∃ r',Ext r (wr r H) w r' (wr r' (sr.eff ++ H)) w' /\ St cx r' (sr.eff ++ H) w' /\ (∀ k,k < nm \/ nm + wd <= k -> r' k = r k) /\ (∀ k e,zX (sr.eff ++ H) k = some e -> ((nm <= k \/ zBt ∈ sr.rd) /\ k < nm + wd) \/ ∃ e',zX H k = some e') /\ sr.val.rel r' cx.X (wr r' (sr.eff ++ H)) w' v
def zAJ (P : Program) (f : FuncId) : Prop:=∃ fn,P.funcs[f]? = some fn /\ fn.body.isSome = true /\ (fn.name == "runtime.NumGoroutine") = false
def Whole (rd : List Nat) (H : Hp) (r : QK) (H' : Hp) (nm : Nat) : Prop:=zBt ∈ rd -> (∀ k,zX H k = zX H' k) /\ ∀ k,nm <= k -> r k = none /\ zX H' k = none
def zC0 (P : Program) (f : FuncId) (args : List FV) (H : Hp) (nm wd : Nat) (sr : SR) : Prop:=zAJ P f /\ ∀ H',(∀ k ∈ sr.rd,zX H k = zX H' k) -> ∀ cx r w (vals : Array Value),St cx r H' w -> zAq r H' nm wd -> Whole sr.rd H r H' nm -> zAe r cx.X (wr r H') w args vals ->
 Calls P f vals w λe w'=>∃ v,e = .returned v /\ zAD cx r H' w nm wd sr v w'
section
variable {P : Program} {cx : Cx} {r : QK} {H : Hp} {w : World} {T : YU} {fr : Fr} {a : Act} {nm wd : Nat}
theorem YJ (st : St cx r H w) {sr : SR} {v : Value} (he : sr.eff = []) (hrel : sr.val.rel r cx.X (wr r H) w v) : zAD cx r H w nm wd sr v w:=by
 unfold zAD;rw [he];exact ⟨r,Ext.refl _ _ _,st,λ_ _=>rfl,λk e he=>.inr ⟨e,he⟩,hrel⟩
def zBu (P : Program) (cx : Cx) (r : QK) (H : Hp) (w : World) (nm wd : Nat) (sr : SR) (s : Sem Next) : Prop:=
 ∃ v w',(s.run P w = .ok (.value v) w' \/ (s.run P w = .ok .skip w' /\ v = undef)) /\ zAD cx r H w nm wd sr v w'
theorem Zl (st : St cx r H w) {sr : SR} {v : Value} {s : Sem Value} (hv : s.run P w = .ok v w) (he : sr.eff = []) (hrel : sr.val.rel r cx.X (wr r H) w v) :
 zBu P cx r H w nm wd sr (do pure (.value (<- s))):=
 ⟨v,w,.inl (by simp [hv]),YJ st he hrel⟩
theorem intBin_ok {op : BinOp} {k : IntKind} {x y : Int} {p : Option Prop} {c : CV} (t : TypeId) (h : intBin op k x y = some (p,c)) (hp : Qh p) :
 ∃ v,(binOp op t (.int k x) (.int k y)).run P w = .ok v w /\ c.rel r cx.X (wr r H) w v:=by
 cases op<;>simp only [intBin,Option.some.injEq,Prod.mk.injEq,reduceCtorEq] at h<;>obtain ⟨rfl,rfl⟩:=h;case add=>exact ⟨_,by rw [binOp_add];rfl,rfl⟩
 case sub=>exact ⟨_,by rw [binOp_sub];rfl,rfl⟩
 case mul=>exact ⟨_,by rw [binOp_mul];rfl,rfl⟩
 case quo=>exact ⟨_,by rw [binOp_quo,Op.intDiv,if_neg (show y ≠ 0 from hp)];rfl,rfl⟩
 case rem=>exact ⟨_,by rw [binOp_rem,Op.intDiv,if_neg (show y ≠ 0 from hp)];rfl,rfl⟩
 case and=>exact ⟨_,by rw [binOp_and];rfl,rfl⟩
 case or=>exact ⟨_,by rw [binOp_or];rfl,rfl⟩
 case xor=>exact ⟨_,by rw [binOp_xor];rfl,rfl⟩
 case andNot=>exact ⟨_,by rw [binOp_andNot];rfl,rfl⟩
 case eql=>exact ⟨_,by rw [binOp_eql];rfl,rfl⟩
 case neq=>exact ⟨_,by rw [binOp_neq];rfl,rfl⟩
 case lss=>exact ⟨_,by rw [binOp_lss];rfl,rfl⟩
 case leq=>exact ⟨_,by rw [binOp_leq];rfl,rfl⟩
 case gtr=>exact ⟨_,by rw [binOp_gtr];rfl,rfl⟩
 case geq=>exact ⟨_,by rw [binOp_geq];rfl,rfl⟩
theorem shBin_ok {op : BinOp} {k k' : IntKind} {x y : Int} {p : Option Prop} {c : CV} (t : TypeId) (h : shBin op k x y = some (p,c)) (hp : Qh p) :
 ∃ v,(binOp op t (.int k x) (.int k' y)).run P w = .ok v w /\ c.rel r cx.X (wr r H) w v:=by
 cases op<;>simp only [shBin,Option.some.injEq,Prod.mk.injEq,reduceCtorEq] at h<;>obtain ⟨rfl,rfl⟩:=h;case shl=>exact ⟨_,by rw [binOp_shl,Op.shift,if_neg (Int.not_lt.2 (show 0 <= y from hp))];rfl,rfl⟩
 case shr=>exact ⟨_,by rw [binOp_shr,Op.shift,if_neg (Int.not_lt.2 (show 0 <= y from hp))];rfl,rfl⟩
theorem zDk {t : TypeId} (hb : P.underlying t = some .bool) (x y : Bool) : (Op.equal t (.bool x) (.bool y)).run P w = .ok (x == y) w:=by
 have h : ∀ d : Nat,(Op.equalIn (d + 1) t (.bool x) (.bool y)).run P w = .ok (x == y) w:=λd=>by
  simp only [Op.equalIn,Sem.run_bind,run_underlying hb,Result.andThen_ok,Sem.run_pure]
 exact h 9999
theorem zFU {x : CV} {n : Nat} {v : Value} {X W : Nat -> Prop} (h : slLen x = some (some n)) (hx : x.rel r X W w v) (h0 : 0 < n) : ∃ ad m c,v = .slice (some ad) m c:=by
 cases x<;>simp only [slLen,Option.some.injEq,reduceCtorEq] at h
 . subst h;obtain ⟨a,cap,rfl,h1,h2⟩:=hx;obtain ⟨ad,rfl,_⟩:=h2 h0;exact ⟨ad,_,_,rfl⟩
 . subst h;obtain ⟨a,cap,rfl,h1,h2⟩:=hx;obtain ⟨x,_,rfl,_⟩:=h2 (by omega);exact ⟨_,_,_,rfl⟩
 . subst h;obtain ⟨a,cap,rfl,h1,h2⟩:=hx;obtain ⟨x,_,rfl⟩:=h2 h0;exact ⟨_,_,_,rfl⟩
theorem zEM {x : CV} {v : Value} {X W : Nat -> Prop} (h : slLen x = some none) (hx : x.rel r X W w v) : v = .slice none 0 0:=by
 cases x<;>simp only [slLen,Option.some.injEq,reduceCtorEq] at h;exact hx
theorem zAr {t e : TypeId} (ht : P.underlying t = some (.slice e)) (a : Option Addr) (l c : Nat) : (Op.equal t (.slice a l c) (.slice none 0 0)).run P w = .ok a.isNone w:=by
 have h : ∀ d : Nat,(Op.equalIn (d + 1) t (.slice a l c) (.slice none 0 0)).run P w = .ok a.isNone w:=λd=>by
  cases a<;>simp [Op.equalIn,run_underlying ht]
 exact h 9999
theorem bin_ok (hT : qP P T) {op : BinOp} {t : TypeId} {x y : FV} {u v : Value} {p : Option Prop} {c : CV} (h : bin T op t x y = some (p,c)) (hp : Qh p) (hx : x.rel r cx.X (wr r H) w u) (hy : y.rel r cx.X (wr r H) w v) (ox oy : Operand) :
 ∃ z,(do eqGuard op t ox oy u v;binOp op t u v : Sem Value).run P w = .ok z w /\ c.rel r cx.X (wr r H) w z:=by
 unfold bin at h;split at h
 . rename_i k a k' b;have e1 : u = .int k a:=hx;have e2 : v = .int k' b:=hy;subst e1 e2;have hg : eqGuard op t ox oy (.int k a) (.int k' b) = pure ():=by cases op<;>rfl
   rw [hg];cases hsft : isShift op with
   | true=>
     rw [hsft,cond_true] at h;obtain ⟨z,h1,h2⟩:=shBin_ok (P:=P) (cx:=cx) (r:=r) (H:=H) (w:=w) (k':=k') t h hp;exact ⟨z,by simp [h1],h2⟩
   | false=>
     rw [hsft,cond_false] at h;cases hk : YR k k' with
     | false=>rw [hk] at h;cases h
     | true=>
       rw [hk,cond_true] at h;have : k = k':=by simpa [YR] using hk
       subst this;obtain ⟨z,h1,h2⟩:=intBin_ok (P:=P) (cx:=cx) (r:=r) (H:=H) (w:=w) t h hp;exact ⟨z,by simp [h1],h2⟩
 . rename_i a b;have e1 : u = .bool a:=hx;have e2 : v = .bool b:=hy;subst e1 e2;have hg : eqGuard op t ox oy (.bool a) (.bool b) = pure ():=by cases op<;>rfl
   rw [hg];split at h
   . rename_i hTt;obtain ⟨d,hd,htd⟩:=(hT t _ hTt).under;have:=td_bool htd;subst this;simp only [Option.some.injEq,Prod.mk.injEq] at h;obtain ⟨rfl,rfl⟩:=h;exact ⟨.bool (a == b),by simp [binOp,zDk hd],rfl⟩
   . rename_i hTt;obtain ⟨d,hd,htd⟩:=(hT t _ hTt).under;have:=td_bool htd;subst this;simp only [Option.some.injEq,Prod.mk.injEq] at h;obtain ⟨rfl,rfl⟩:=h;exact ⟨.bool (!(a == b)),by simp [binOp,zDk hd],by cases a<;>cases b<;>rfl⟩
   . cases h
 . rename_i n f m g;obtain ⟨xs,rfl,hxn,hxc⟩:=hx;obtain ⟨ys,rfl,hyn,hyc⟩:=hy;have main : ∀ (d0 : TD) (size : Nat) (z0 : List CV) (l : List Bool) (by0 : Nat),T t = some ⟨d0,size,z0,l,by0⟩ -> (Nat.blt 0 l.length && Nat.beq n l.length && Nat.beq m l.length && Zw f g l 0) = true ->
    (∀ ox oy,(eqGuard op t ox oy (.agg xs) (.agg ys)).run P w = .ok () w) /\ (Op.equalIn 10000 t (.agg xs) (.agg ys)).run P w = .ok (ZF f g n 0) w:=by
    intro d0 size z0 l by0 hTt hb;simp only [Bool.and_eq_true] at hb;have e0:=zCK hb.1.1.1;have e1:=Nat.eq_of_beq_eq_true hb.1.1.2;have e2:=Nat.eq_of_beq_eq_true hb.1.2;have hck:=(hT t _ hTt).2.2;have hne : l.isEmpty = false:=by cases l with | nil=>simp at e0 | cons a l=>rfl
    simp only [hne,Bool.false_or,Bool.and_eq_true,beq_iff_eq,Bool.not_eq_true'] at hck;refine ⟨λox oy=>run_eqGuard_agg w op t ox oy xs ys hck.1.2,?_⟩;rw [e1];exact zER w hck.1.1 hck.2 (by omega) (by omega) hxc hyc hb.2
   split at h
   . rename_i d0 size z0 l by0 hTt;cases hb : (Nat.blt 0 l.length && Nat.beq n l.length && Nat.beq m l.length && Zw f g l 0) with
     | false=>rw [hb] at h;cases h
     | true=>
       rw [hb,cond_true] at h;obtain ⟨h1,h2⟩:=main d0 size z0 l by0 hTt hb;simp only [Option.some.injEq,Prod.mk.injEq] at h;obtain ⟨rfl,rfl⟩:=h;exact ⟨.bool (ZF f g n 0),by rw [Sem.run_bind,h1,Result.andThen_ok,run_eql_struct,h2];rfl,rfl⟩
   . rename_i d0 size z0 l by0 hTt;cases hb : (Nat.blt 0 l.length && Nat.beq n l.length && Nat.beq m l.length && Zw f g l 0) with
     | false=>rw [hb] at h;cases h
     | true=>
       rw [hb,cond_true] at h;obtain ⟨h1,h2⟩:=main d0 size z0 l by0 hTt hb;simp only [Option.some.injEq,Prod.mk.injEq] at h;obtain ⟨rfl,rfl⟩:=h;exact ⟨.bool (!ZF f g n 0),by rw [Sem.run_bind,h1,Result.andThen_ok,run_neq_struct,h2];rfl,rfl⟩
   . cases h
 . rename_i x;have e2 : v = .slice none 0 0:=hy;subst e2;have hx' : x.rel r cx.X (wr r H) w u:=hx;unfold nilB at h;split at h
   . rename_i hTt hsl;obtain ⟨d,hd,htd⟩:=(hT t _ hTt).under;obtain ⟨rfl,_⟩:=QA htd;simp only [Option.some.injEq,Prod.mk.injEq] at h;obtain ⟨rfl,rfl⟩:=h;obtain ⟨ad,m,c,rfl⟩:=zFU hsl hx' hp;have hg : eqGuard .eql t ox oy (.slice (some ad) m c) (.slice none 0 0) = pure ():=rfl;exact ⟨.bool false,by rw [hg];simp [binOp,zAr hd],rfl⟩
   . rename_i hTt hsl;obtain ⟨d,hd,htd⟩:=(hT t _ hTt).under;obtain ⟨rfl,_⟩:=QA htd;simp only [Option.some.injEq,Prod.mk.injEq] at h;obtain ⟨rfl,rfl⟩:=h;obtain ⟨ad,m,c,rfl⟩:=zFU hsl hx' hp;have hg : eqGuard .neq t ox oy (.slice (some ad) m c) (.slice none 0 0) = pure ():=rfl;exact ⟨.bool true,by rw [hg];simp [binOp,zAr hd],rfl⟩
   . rename_i hTt hsl;obtain ⟨d,hd,htd⟩:=(hT t _ hTt).under;obtain ⟨rfl,_⟩:=QA htd;simp only [Option.some.injEq,Prod.mk.injEq] at h;obtain ⟨rfl,rfl⟩:=h;have:=zEM hsl hx';subst this;have hg : eqGuard .eql t ox oy (.slice none 0 0) (.slice none 0 0) = pure ():=rfl;exact ⟨.bool true,by rw [hg];simp [binOp,zAr hd],rfl⟩
   . rename_i hTt hsl;obtain ⟨d,hd,htd⟩:=(hT t _ hTt).under;obtain ⟨rfl,_⟩:=QA htd;simp only [Option.some.injEq,Prod.mk.injEq] at h;obtain ⟨rfl,rfl⟩:=h;have:=zEM hsl hx';subst this;have hg : eqGuard .neq t ox oy (.slice none 0 0) (.slice none 0 0) = pure ():=rfl;exact ⟨.bool false,by rw [hg];simp [binOp,zAr hd],rfl⟩
   . cases h
 . cases h
theorem zEN (off : Nat) : ∀ (l : List Value) (k : Nat) (cs : Array Value),(l.zipIdx k).foldl (λcs (x : Value × Nat)=>cs.setIfInBounds (off + x.2) x.1) cs = ovl cs (off + k) l:=by
 intro l;induction l with
 | nil=>intro k cs;rfl
 | cons v l ih=>intro k cs;simp only [List.zipIdx_cons,List.foldl_cons,ovl];rw [ih,Nat.add_assoc]
theorem fill_ok {X W : Nat -> Prop} {pl : Nat -> Option (Nat × Nat)} {N : Nat} : ∀ (ps : List (Nat × FV)) (qs : List (Nat × Value)) (f g : Nat -> CV) (cs : Array Value),cs.size = N -> (∀ i u,cs[i]? = some u -> (f i).rel r X W w u) ->
 ps.length = qs.length -> (∀ (i : Nat) p q,ps[i]? = some p -> qs[i]? = some q -> p.1 = q.1 /\ p.2.rel r X W w q.2) -> zDp pl N f ps = some g ->
 ∃ cs',Instr.fill pl cs qs = some cs' /\ cs'.size = N /\ ∀ i u,cs'[i]? = some u -> (g i).rel r X W w u:=by
 intro ps;induction ps with
 | nil=>
   intro qs f g cs hN hf hl hr h;have : qs = []:=List.eq_nil_of_length_eq_zero hl.symm;subst this;injection h with h;subst h;exact ⟨cs,rfl,hN,hf⟩
 | cons p ps ih=>
   intro qs f g cs hN hf hl hr h;match qs,hl with
   | q :: qs,hl=>
     obtain ⟨i,x⟩:=p;obtain ⟨j,v⟩:=q;obtain ⟨hij,hrel⟩:=hr 0 (i,x) (j,v) rfl rfl;simp only at hij hrel;subst hij;cases x with
     | top=>cases h
     | tup=>cases h
     | e x=>
       simp only [zDp] at h;split at h
       . rename_i off size n gg hpl hcs;obtain ⟨h1,h2,h3⟩:=zAu hrel hcs;cases hb : (Nat.beq n size && Nat.ble (off + n) N) with
         | false=>rw [hb] at h;cases h
         | true=>
           rw [hb,cond_true] at h;simp only [Bool.and_eq_true] at hb;have e1 : n = size:=Nat.eq_of_beq_eq_true hb.1;have e2 : off + n <= N:=Nat.le_of_ble_eq_true hb.2;have hlen : v.cells.toList.length = n:=by simpa using h1
           have hfold : (v.cells.zipIdx.foldl (λcs (x : Value × Nat)=>cs.setIfInBounds (off + x.2) x.1) cs) = ovl cs off v.cells.toList:=by
            rw [<- Array.foldl_toList,Array.toList_zipIdx];have:=zEN off v.cells.toList 0 cs;rw [Nat.add_zero] at this;exact this
           obtain ⟨cs',h4,h5,h6⟩:=ih qs (ovr f off n gg) g (ovl cs off v.cells.toList) (by rw [zAt];exact hN) (λk u hu=>by
            rw [zBk _ _ _ (by rw [hlen];omega)] at hu;unfold ovr;by_cases hk : off <= k /\ k < off + n
            . have hb1 : (Nat.ble off k && Nat.blt k (off + n)) = true:=by
               simp only [Bool.and_eq_true];exact ⟨Nat.ble_eq_true_of_le hk.1,Nat.ble_eq_true_of_le hk.2⟩
              rw [hb1,cond_true];rw [hlen,if_pos hk] at hu;exact h2 (k - off) u (by simpa using hu)
            . have hb1 : (Nat.ble off k && Nat.blt k (off + n)) = false:=by
               cases hh : (Nat.ble off k && Nat.blt k (off + n)) with
               | false=>rfl
               | true=>
                 simp only [Bool.and_eq_true] at hh;exact absurd ⟨Nat.le_of_ble_eq_true hh.1,Nat.le_of_ble_eq_true hh.2⟩ hk
              rw [hb1,cond_false];rw [hlen,if_neg hk] at hu;exact hf k u hu) (by simpa using hl) (λk p q hp hq=>hr (k + 1) p q hp hq) h
           refine ⟨cs',?_,h5,h6⟩;rw [Instr.fill];simp only [hpl];rw [if_neg (by simp;exact ⟨by omega,by omega⟩),hfold];exact h4
       . cases h
theorem relL_of (st : St cx r H w) {xs : Array Operand} (hf : YW cx r H w fr a.tmps) : zAe r cx.X (wr r H) w (xs.toList.map (ev fr)) (xs.map a.eval):=by
 refine ⟨by simp,λi x u hx hu=>?_⟩;simp only [List.getElem?_map,Array.getElem?_toList,Array.getElem?_map] at hx hu;cases ho : xs[i]? with
 | none=>rw [ho] at hx;cases hx
 | some o=>
   rw [ho] at hx hu;simp only [Option.map_some,Option.some.injEq] at hx hu;subst hx hu;exact ev_ok st hf o
theorem Yx {k : Nat} : ∀ j e,zX ([(k,none)] ++ H) j = some e -> zX H j = some e:=λj e h=>by
 by_cases hj : j = k
 . subst hj;have : zX ([(j,none)] ++ H) j = none:=zn _ _ _ _;rw [this] at h;cases h
 . have : zX ([(k,none)] ++ H) j = zX H j:=zZ _ _ _ hj;rw [this] at h;exact h
theorem zAS : ∀ j e,zX ([] ++ H) j = some e -> zX H j = some e:=λj e h=>h
theorem zAs (st : St cx r H w) (hfr : zAq r H nm wd) (hwd : 0 < wd) {dead : Hp} (hdead : ∀ k e,zX (dead ++ H) k = some e -> zX H k = some e) (t : TypeId) (cs : Array Value) (n sz c : Nat) (v : Bool) (f : Nat -> Nat -> CV) (hsz : 0 < sz) (hv : v = true -> n = 1) (hc : cs.size = c * sz) (hn : n <= c)
 (hf : ∀ i,i < n -> ∀ j,j < sz -> ∀ u,cs[i * sz + j]? = some u -> (f i j).rel r cx.X (wr r H) w u) {w1 : World} (hos : w1.os = w.os) (htape : w1.tape = w.tape) (hout : w1.output = w.output) (hheap : w1.heap = w.heap.push (.cells cs t))
 {sr : SR} {val : Value} (he : sr.eff = (nm,some ⟨t,n,sz,v,f⟩) :: dead) (hval : ∀ r' : QK,r' nm = some ⟨w.heap.size,sz,c⟩ -> ∀ W w',sr.val.rel r' cx.X W w' val) :
 zAD cx r H w nm wd sr val w1:=by
 have h0:=hfr nm (Nat.le_refl _) (by omega);obtain ⟨h1,h2⟩:=st.new h0.1 dead hdead h0.2 t cs n sz c v f hsz hv hc hn hf hos htape hout hheap;unfold zAD;rw [he];refine ⟨_,h1,h2,λk hk=>if_neg (by omega),λk e hk=>?_,hval _ (if_pos rfl) _ _⟩;by_cases h : k = nm
 . exact .inl ⟨.inl (by omega),by omega⟩
 . have : zX (((nm,some ⟨t,n,sz,v,f⟩) :: dead) ++ H) k = zX (dead ++ H) k:=zZ _ _ _ h;rw [this] at hk;exact .inr ⟨e,hdead k e hk⟩
theorem zBS {t : TypeId} {i : TypeInfo} {z : Value} (hi : P.info? t = some i) (hz : i.zero = some z) (w : World) : (zeroValue t).run P w = .ok z w:=by
 simp [zeroValue,typeInfo,hi,hz]
theorem qg {t : TypeId} {i : TypeInfo} (hi : P.info? t = some i) (w : World) : (sizeOf t).run P w = .ok i.size w:=by
 simp [sizeOf,typeInfo,hi]
theorem Yg {z : Value} {l : List CV} {X W : Nat -> Prop} (h1 : z.cells.toList.map zCN = l) (h2 : z.cells.toList.all zAf = true) : z.cells.size = l.length /\ ∀ i u,z.cells[i]? = some u -> (nth l i).rel r X W w u:=by
 subst h1;refine ⟨by simp,λi u hu=>?_⟩;have hu' : z.cells.toList[i]? = some u:=by simpa using hu
 have : nth (z.cells.toList.map zCN) i = zCN u:=by simp [nth,hu]
 rw [this];exact rel_ofVal (List.all_eq_true.1 h2 u (List.mem_of_getElem? hu'))
theorem zFV {O : Prop} {cs : Array Value} {sz : Nat} {f : Nat -> CV} {X W : Nat -> Prop} (h : ∀ i u,cs[i]? = some u -> (f i).rel r X W w u) : ∀ i,i < 1 -> ∀ j,j < sz -> ∀ u,cs[i * sz + j]? = some u -> ((λ_=>f : Nat -> Nat -> CV) i j).rel r X W w u:=by
 intro i hi j hj u hu;have : i = 0:=by omega
 subst this;rw [Nat.zero_mul,Nat.zero_add] at hu;exact h j u hu
theorem zDC (hT : qP P T) (st : St cx r H w) (hfr : zAq r H nm wd) (hwd : 0 < wd) {t : TypeId} {ti : TI} (ht : T t = some ti) (h0 : 0 < ti.zero.length) :
 zBu P cx r H w nm wd ⟨none,zL (.ptr nm 0 0 false),[(nm,some ⟨t,1,ti.zero.length,true,λ_=>nth ti.zero⟩)],[]⟩ (do pure (.value (<- Instr.alloc t true (.tuple #[])))):=by
 obtain ⟨i,z,hi,hsz,hz,hl,hall,_⟩:=(hT t ti ht).info;obtain ⟨h1,h2⟩:=Yg (r:=r) (w:=w) (X:=cx.X) (W:=wr r H) hl hall;refine ⟨.pointer (some ⟨w.heap.size,0,none⟩),w.alloc (.cells z.cells t),.inl (by simp [Instr.alloc,zBS hi hz,newVar,newRow]),?_⟩;refine zAs st hfr hwd zAS t z.cells 1 ti.zero.length 1 true (λ_=>nth ti.zero) h0 (λ_=>rfl) (by rw [h1,Nat.one_mul]) (Nat.le_refl _) (zFV (O:=True) h2) ?_ ?_ ?_ ?_ ?_ ?_<;>first | rfl | exact λr' h W w'=>⟨_,⟨h,h0⟩,by simp⟩
theorem zD2 (st : St cx r H w) (hfr : zAq r H nm wd) (hwd : 0 < wd) {t : TypeId} {x : EV} {v : Value} {n : Nat} {f : Nat -> CV} (hx : x.rel r cx.X (wr r H) w v) (hc : cellsOf x = some (n,f)) (h0 : 0 < n) :
 zBu P cx r H w nm wd ⟨none,zL (.ptr nm 0 0 false),[(nm,some ⟨t,1,n,true,λ_=>f⟩)],[]⟩ (do pure (.value (<- Instr.box t v))):=by
 obtain ⟨h1,h2,h3⟩:=zAu hx hc;refine ⟨.pointer (some ⟨w.heap.size,0,none⟩),w.alloc (.cells v.cells t),.inl (by simp [Instr.box,newVar,newRow]),?_⟩;refine zAs st hfr hwd zAS t v.cells 1 n 1 true (λ_=>f) h0 (λ_=>rfl) (by rw [h1,Nat.one_mul]) (Nat.le_refl _) (zFV (O:=True) h2) ?_ ?_ ?_ ?_ ?_ ?_<;>first | rfl | exact λr' h W w'=>⟨_,⟨h,h0⟩,by simp⟩
theorem zCg {X W : Nat -> Prop} (hf : ∀ x,(ev fr x).rel r X W w (a.eval x)) (parts : Array (Nat × Operand)) :
 (parts.toList.map λp=>(p.1,ev fr p.2)).length = (parts.map λ(i,x)=>(i,a.eval x)).toList.length /\
 ∀ (i : Nat) (p : Nat × FV) (q : Nat × Value),(parts.toList.map λp=>(p.1,ev fr p.2))[i]? = some p -> (parts.map λ(i,x)=>(i,a.eval x)).toList[i]? = some q -> p.1 = q.1 /\ p.2.rel r X W w q.2:=by
 refine ⟨by simp,λi p q hp hq=>?_⟩;simp only [List.getElem?_map,Array.getElem?_toList,Array.getElem?_map] at hp hq;cases ho : parts[i]? with
 | none=>rw [ho] at hp;cases hp
 | some o=>
   rw [ho] at hp hq;simp only [Option.map_some,Option.some.injEq] at hp hq;subst hp hq;exact ⟨rfl,hf _⟩
theorem zD3 {t : TypeId} {d : TypeDesc} (h : P.underlying t = some d) : ∃ i,P.info? t = some i:=by
 cases hi : P.info? t with
 | some i=>exact ⟨i,rfl⟩
 | none=>simp [Program.underlying,hi] at h
theorem zFW (w : World) : ∀ (fs : List Field),(∀ f ∈ fs,∃ d,P.underlying f.type = some d) ->
 (fs.mapM λf=>(do pure (f.offset,<- sizeOf f.type) : Sem (Nat × Nat))).run P w = .ok (fs.map λf=>(f.offset,szN P f.type)) w:=by
 intro fs;induction fs with
 | nil=>intro _;rfl
 | cons f fs ih=>
   intro h;obtain ⟨d,hd⟩:=h f (List.mem_cons_self ..);obtain ⟨i,hi⟩:=zD3 hd;have hs : i.size = szN P f.type:=by simp [szN,hi]
   simp only [List.mapM_cons,Sem.run_bind,qg hi,Result.andThen_ok,Sem.run_pure,ih (λf hf=>h f (List.mem_cons_of_mem _ hf)),hs,List.map_cons]
theorem zDD (hT : qP P T) (st : St cx r H w) {t : TypeId} {fs : List (Nat × Nat × Option Bool)} {sz : Nat} {z : List CV} {parts : Array (Nat × Operand)} {f : Nat -> CV}
 {eqb : List Bool} {by0 : Nat} (ht : T t = some ⟨.struct fs,sz,z,eqb,by0⟩) (hall : fs.all (λx=>x.2.2.isSome) = true) (hf : ∀ x,(ev fr x).rel r cx.X (wr r H) w (a.eval x))
 (hfill : zDp (λi=>(fs[i]?).map λx=>(x.1,x.2.1)) z.length (nth z) (parts.toList.map λp=>(p.1,ev fr p.2)) = some f) :
 zBu P cx r H w nm wd ⟨none,.e (.agg z.length f),[],[]⟩ (do pure (.value (<- Instr.build t (parts.map λ(i,x)=>(i,a.eval x))))):=by
 obtain ⟨i,zv,hi,hsz,hz,hl,hcell,_⟩:=(hT t _ ht).info;obtain ⟨d,hd,htd⟩:=(hT t _ ht).under;obtain ⟨fa,rfl,hfa⟩:=zBl htd;obtain ⟨h1,h2⟩:=Yg (r:=r) (w:=w) (X:=cx.X) (W:=wr r H) hl hcell;obtain ⟨h3,h4⟩:=zCg hf parts;obtain ⟨cs,h5,h6,h7⟩:=fill_ok (r:=r) (w:=w) (X:=cx.X) (W:=wr r H) _ _ _ _ zv.cells h1 h2 h3 h4 hfill;refine Zl st (v:=.agg cs) ?_ rfl ⟨cs,rfl,h6,h7⟩;have hm : (fa.mapM λf=>(do pure (f.offset,<- sizeOf f.type) : Sem (Nat × Nat))).run P w = .ok (fa.map λf=>(f.offset,szN P f.type)) w:=by
  rw [Array.mapM_eq_mapM_toList,Sem.run_map,zFW w fa.toList]
  . simp only [Result.andThen];congr 1
    apply Array.ext';simp
  . intro f hf;have : (f.offset,szN P f.type,(P.underlying f.type).map qe) ∈ fs:=by rw [<- hfa];exact List.mem_map.2 ⟨f,hf,rfl⟩
    have:=List.all_eq_true.1 hall _ this;simp only at this;cases hu : P.underlying f.type with
    | none=>rw [hu] at this;cases this
    | some d=>exact ⟨d,rfl⟩
 have hpl : (λ(i : Nat)=>(fa.map λf=>(f.offset,szN P f.type))[i]?) = λ(i : Nat)=>(fs[i]?).map λx=>(x.1,x.2.1):=by
  funext i
  rw [<- hfa];simp only [List.getElem?_map,Array.getElem?_toList,Array.getElem?_map,Option.map_map];rfl
 simp only [Instr.build,Sem.run_bind,zBS hi hz,run_underlying hd,Result.andThen_ok,hm,hpl,h5,Sem.run_pure]
theorem zCh (hT : qP P T) (st : St cx r H w) {t e : TypeId} {n es sz : Nat} {b : Option Bool} {z : List CV} {parts : Array (Nat × Operand)} {f : Nat -> CV}
 {eqb : List Bool} {by0 : Nat} (ht : T t = some ⟨.arr n e es b,sz,z,eqb,by0⟩) (hf : ∀ x,(ev fr x).rel r cx.X (wr r H) w (a.eval x))
 (hfill : fillS (λi=>bif Nat.blt 0 es then some (i * es,es) else none) z.length (zf z) (parts.toList.map λp=>(p.1,ev fr p.2)) = some f) (h0 : es ≠ 0) :
 zBu P cx r H w nm wd ⟨none,.e (.agg z.length f),[],[]⟩ (do pure (.value (<- Instr.build t (parts.map λ(i,x)=>(i,a.eval x))))):=by
 obtain ⟨i,zv,hi,hsz,hz,hl,hcell,_⟩:=(hT t _ ht).info;obtain ⟨d,hd,htd⟩:=(hT t _ ht).under;obtain ⟨rfl,hes,_⟩:=zBV htd;obtain ⟨ie,hie,hies⟩:=QZ hes h0;obtain ⟨h1,h2⟩:=Yg (r:=r) (w:=w) (X:=cx.X) (W:=wr r H) hl hcell;obtain ⟨h3,h4⟩:=zCg hf parts;have hb : Nat.blt 0 es = true:=Nat.ble_eq_true_of_le (by omega);have hpl : (λi=>bif Nat.blt 0 es then some (i * es,es) else none) = λi=>some (i * es,es):=by funext i;rw [hb];rfl
 rw [hpl,fillS_eq] at hfill;have h2' : ∀ i u,zv.cells[i]? = some u -> (zf z i).rel r cx.X (wr r H) w u:=λi u hu=>by
  rw [zf_eq (by rw [<- h1];exact (Array.getElem?_eq_some_iff.1 hu).1)];exact h2 i u hu
 obtain ⟨cs,h5,h6,h7⟩:=fill_ok (r:=r) (w:=w) (X:=cx.X) (W:=wr r H) _ _ _ _ zv.cells h1 h2' h3 h4 hfill;refine Zl st (v:=.agg cs) ?_ rfl ⟨cs,rfl,h6,h7⟩;simp only [Instr.build,Sem.run_bind,zBS hi hz,run_underlying hd,Result.andThen_ok,qg hie,hies,h5,Sem.run_pure]
theorem Yp (st : St cx r H w) {k : Nat} {x : Bi} {e : Ent} (hk : zX H k = some e) (hx : At r k x) : 0 < e.sz /\ (e.v = true -> e.n = 1) /\ x.sz = e.sz /\ e.n <= x.c /\ ∃ cs,w.heap[x.b]? = some (.cells cs e.t (0,0)) /\ cs.size = x.c * x.sz /\ ∀ i,i < e.n -> ∀ j,j < e.sz -> ∀ u,cs[i * e.sz + j]? = some u -> (e.f i j).rel r cx.X (wr r H) w u:=by
 obtain ⟨h1,h2,h3⟩:=st.blk k e hk;rcases h3 with ⟨h3,_⟩ | ⟨y,cs,g1,g2,g3,g4,g5,g6⟩ | ⟨_,y,_,_,g1,g2,_⟩
 . rw [hx.1] at h3;cases h3
 . rw [hx.1] at g1;injection g1 with g1;subst g1;exact ⟨h1,h2,g2,g5,cs,g3,g4,g6⟩
 . rw [hx.1] at g1;injection g1 with g1;subst g1;have:=hx.2;omega
theorem zEx {i j n sz c : Nat} (hi : i < n) (hj : j < sz) (hn : n <= c) : i * sz + j < c * sz:=by
 have h1 : i * sz + sz <= c * sz:=by rw [<- Nat.succ_mul];exact Nat.mul_le_mul_right _ (by omega)
 omega
theorem YK (st : St cx r H w) {k : Nat} {x : Bi} {e : Ent} (hk : zX H k = some e) (hx : At r k x) {i j : Nat} (hi : i < e.n) (hj : j < e.sz) : ∃ u,w.cell? ⟨x.b,i * x.sz + j,none⟩ = some u /\ (e.f i j).rel r cx.X (wr r H) w u:=by
 obtain ⟨h1,h2,h3,h4,cs,h5,h6,h7⟩:=Yp st hk hx;have hlt : i * x.sz + j < cs.size:=by rw [h6];exact zEx hi (by omega) h4
 refine ⟨cs[i * x.sz + j],by simp [World.cell?,h5,Array.getElem?_eq_getElem hlt],?_⟩;exact h7 i hi j hj _ (by rw [<- h3];exact Array.getElem?_eq_getElem hlt)
theorem zDl (st : St cx r H w) {k : Nat} {x : Bi} {e : Ent} (hk : zX H k = some e) (hx : At r k x) {cs' : Array Value} {f : Nat -> Nat -> CV} (hsize : cs'.size = x.c * x.sz)
 (hf : ∀ i,i < e.n -> ∀ j,j < e.sz -> ∀ u,cs'[i * e.sz + j]? = some u -> (f i j).rel r cx.X (wr r H) w u) {w' : World} (hos : w'.os = w.os) (htape : w'.tape = w.tape) (hout : w'.output = w.output) (hsz : w'.heap.size = w.heap.size)
 (hother : ∀ y,y ≠ x.b -> w'.heap[y]? = w.heap[y]?) (hthis : w'.heap[x.b]? = some (.cells cs' e.t (0,0))) {sr : SR} {v : Value} (he : sr.eff = [(k,some ⟨e.t,e.n,e.sz,e.v,f⟩)]) (hval : ∀ W w',sr.val.rel r cx.X W w' v) : zAD cx r H w nm wd sr v w':=by
 obtain ⟨h1,h2⟩:=st.write hk hx cs' f hsize hf w' hos htape hout hsz hother hthis;unfold zAD;rw [he];refine ⟨r,h1,h2,λ_ _=>rfl,λn e' hn=>?_,hval _ _⟩;by_cases h : n = k
 . subst h;exact .inr ⟨e,hk⟩
 . have : zX ([(k,some ⟨e.t,e.n,e.sz,e.v,f⟩)] ++ H) n = zX H n:=zZ _ _ _ h;rw [this] at hn;exact .inr ⟨e',hn⟩
theorem Qd {sz i a : Nat} (h : i < a) : i * sz + sz <= a * sz:=by rw [<- Nat.succ_mul];exact Nat.mul_le_mul_right _ h
theorem ovr_in {f g : Nat -> CV} {off n j : Nat} (h : off <= j /\ j < off + n) : ovr f off n g j = g (j - off):=by
 unfold ovr;rw [show (Nat.ble off j && Nat.blt j (off + n)) = true from by simp only [Bool.and_eq_true];exact ⟨Nat.ble_eq_true_of_le h.1,Nat.ble_eq_true_of_le h.2⟩];rfl
theorem ovr_out {f g : Nat -> CV} {off n j : Nat} (h : ¬ (off <= j /\ j < off + n)) : ovr f off n g j = f j:=by
 unfold ovr;have : (Nat.ble off j && Nat.blt j (off + n)) = false:=by
  cases hh : (Nat.ble off j && Nat.blt j (off + n)) with
  | false=>rfl
  | true=>
    simp only [Bool.and_eq_true] at hh;exact absurd ⟨Nat.le_of_ble_eq_true hh.1,Nat.le_of_ble_eq_true hh.2⟩ h
 rw [this];rfl
theorem updE_at {v : Bool} {f : Nat -> Nat -> CV} {a : Nat} {g : Nat -> CV} {n i : Nat} (hv : v = true -> n = 1) (ha : a < n) (hi : i < n) : zBW v f a g i = if i = a then g else f i:=by
 cases v with
 | true=>have:=hv rfl;rw [if_pos (by omega)];rfl
 | false=>
   funext j
   show Zp (Nat.beq i a) (g j) (f i j) = _;rw [QS];by_cases h : i = a
   . subst h;simp
   . have : Nat.beq i a = false:=by
      cases hb : Nat.beq i a with
      | false=>rfl
      | true=>exact absurd (Nat.eq_of_beq_eq_true hb) h
     rw [this,if_neg h];rfl
theorem laid_rel (st : St cx r H w) {k : Nat} {x : Bi} {e : Ent} (hk : zX H k = some e) (hx : At r k x) {cs : Array Value} (hcs : w.heap[x.b]? = some (.cells cs e.t (0,0))) {a b n : Nat} {vs : List Value} {g F : Nat -> CV} (hF : ∀ j,j < e.sz -> F j = ovr (e.f a) b n g j) (ha : a < e.n) (hb : b + n <= e.sz) (hn : vs.length = n)
 (hg : ∀ i u,vs[i]? = some u -> (g i).rel r cx.X (wr r H) w u) : ∀ i,i < e.n -> ∀ j,j < e.sz -> ∀ u,(ovl cs (a * x.sz + b) vs)[i * e.sz + j]? = some u -> (zBW e.v e.f a F i j).rel r cx.X (wr r H) w u:=by
 obtain ⟨h1,h2,h3,h4,cs',h5,h6,h7⟩:=Yp st hk hx;rw [hcs] at h5;injection h5 with h5;injection h5 with h5;subst h5;intro i hi j hj u hu;rw [updE_at h2 ha hi];have hfit : a * x.sz + b + vs.length <= cs.size:=by
  rw [h6,hn];have:=Qd (sz:=x.sz) (Nat.lt_of_lt_of_le ha h4);omega
 rw [zBk _ _ _ hfit] at hu;rw [h3] at hu;by_cases hin : a * e.sz + b <= i * e.sz + j /\ i * e.sz + j < a * e.sz + b + vs.length
 . rw [if_pos hin] at hu;have hia : i = a:=by
    rcases Nat.lt_trichotomy i a with h | h | h
    . have:=Qd (sz:=e.sz) h;omega
    . exact h
    . have:=Qd (sz:=e.sz) h;omega
   subst hia;rw [if_pos rfl,hF j hj,ovr_in (by omega)];rw [show i * e.sz + j - (i * e.sz + b) = j - b by omega] at hu;exact hg _ _ hu
 . rw [if_neg hin] at hu;by_cases hia : i = a
   . subst hia;rw [if_pos rfl,hF j hj,ovr_out (by omega)];exact h7 i hi j hj u hu
   . rw [if_neg hia];exact h7 i hi j hj u hu
theorem zDm (st : St cx r H w) {k : Nat} {x : Bi} {e : Ent} (hk : zX H k = some e) (hx : At r k x) {a b n : Nat} {vs : List Value} {g F : Nat -> CV} (hF : ∀ j,j < e.sz -> F j = ovr (e.f a) b n g j) (ha : a < e.n) (hb : b + n <= e.sz) (hn : vs.length = n) (hcell : ∀ v ∈ vs,zAa v)
 (hg : ∀ i u,vs[i]? = some u -> (g i).rel r cx.X (wr r H) w u) {sr : SR} {v : Value} (he : sr.eff = [(k,some ⟨e.t,e.n,e.sz,e.v,zBW e.v e.f a F⟩)]) (hval : ∀ W w',sr.val.rel r cx.X W w' v) :
 ∃ w',(storeCells ⟨x.b,a * x.sz + b,none⟩ vs 0).run P w = .ok () w' /\ zAD cx r H w nm wd sr v w':=by
 obtain ⟨h1,h2,h3,h4,cs,h5,h6,h7⟩:=Yp st hk hx;have hfit : a * x.sz + b + 0 + vs.length <= cs.size:=by
  rw [h6,hn];have:=Qd (sz:=x.sz) (Nat.lt_of_lt_of_le ha h4);omega
 obtain ⟨w',g1,g2,g3,g4,g5,g6,g7⟩:=Yh P x.b (a * x.sz + b) e.t vs 0 w cs h5 hfit hcell;rw [Nat.add_zero] at g7;exact ⟨w',g1,zDl st hk hx (by rw [zAt];exact h6) (laid_rel st hk hx h5 hF ha hb hn hg) g2 g3 g4 g5 g6 g7 he hval⟩
theorem zDE (hT : qP P T) (st : St cx r H w) {t : TypeId} {ti : TI} {k i j : Nat} {sym : Bool} {e : Ent} {x : EV} {v va : Value} {n : Nat} {g : Nat -> CV} (ht : T t = some ti) (hva : (CV.ptr k i j sym).rel r cx.X (wr r H) w va) (hk : zX H k = some e)
 (hx : x.rel r cx.X (wr r H) w v) (hc : cellsOf x = some (n,g)) (hn : n = ti.size) (h1 : i < e.n) (h2 : j + n <= e.sz) (p : Option Prop) :
 zBu P cx r H w nm wd ⟨p,.top,[(k,some ⟨e.t,e.n,e.sz,e.v,zBW e.v e.f i (ovw sym e.sz (e.f i) j n g)⟩)],[k]⟩ (do Instr.storeAt t va v;pure .skip):=by
 obtain ⟨q,z,hi,hsz,_⟩:=(hT t ti ht).info;obtain ⟨b,hb,rfl⟩:=hva;obtain ⟨c1,c2,c3⟩:=zAu hx hc;obtain ⟨w',g1,g2⟩:=zDm (P:=P) (nm:=nm) (wd:=wd) st hk hb (a:=i) (b:=j) (n:=n) (vs:=v.cells.toList) (g:=g) (F:=ovw sym e.sz (e.f i) j n g) (λq hq=>ovw_eq _ _ _ _ _ _ q hq) h1 h2 (by simpa using c1) c3 (λi u hu=>c2 i u (by simpa using hu)) (sr:=⟨p,.top,[(k,some ⟨e.t,e.n,e.sz,e.v,zBW e.v e.f i (ovw sym e.sz (e.f i) j n g)⟩)],[k]⟩) (v:=undef) rfl (λ_ _=>trivial);refine ⟨undef,w',.inr ⟨?_,rfl⟩,g2⟩;have hne : ¬ (v.cells.size ≠ q.size):=by rw [c1,hsz];simpa using hn
 simp only [Instr.storeAt,Instr.sureAddr,storeVar,Sem.run_bind,Sem.run_pure,Result.andThen_ok,qg hi,hne,if_false,g1]
theorem zBT (hT : qP P T) (st : St cx r H w) {t : TypeId} {ti : TI} {sr : SR} {m : Nat} {g : Nat -> CV} {lit : Bool} {q : Option Prop} {rd : List Nat} {b off : Nat} (ht : T t = some ti) (hs : zBx ti m g lit q rd = some sr) (hp : Qh sr.pre)
 (hc : Qh q -> ∀ j,j < m -> ∃ u,w.cell? ⟨b,off + j,none⟩ = some u /\ (g j).rel r cx.X (wr r H) w u) :
 zBu P cx r H w nm wd sr (do pure (.value (<- Instr.loadAt t (.pointer (some ⟨b,off,none⟩))))):=by
 obtain ⟨v,h1,h2,h3⟩:=load_ok (hT t ti ht) hs hp hc;exact Zl st (v:=v) (by simp [Instr.loadAt,Instr.sureAddr,h1]) h2 h3
theorem zDK {sh : Bool} {m : Nat} {g : Nat -> CV} {v : Value} {X W : Nat -> Prop} (h : (CV.rp sh m g).rel r X W w v) : ∃ b off,v = .pointer (some ⟨b,off,none⟩) /\ ¬ W b /\ (sh = true -> ¬ X b) /\ b < w.heap.size /\ ∀ j,j < m -> ∃ u,w.cell? ⟨b,off + j,none⟩ = some u /\ (g j).rel r X W w u:=by
 obtain ⟨ad,rfl,hs,ho,hX,hlt,hc⟩:=h;obtain ⟨b,o,s⟩:=ad;simp only at hs;subst hs;exact ⟨b,o,rfl,ho,hX,hlt,hc⟩
theorem rp_mk {sh : Bool} {m : Nat} {g : Nat -> CV} {b off : Nat} {X W : Nat -> Prop} (ho : ¬ W b) (hX : sh = true -> ¬ X b) (hlt : b < w.heap.size) (hc : ∀ j,j < m -> ∃ u,w.cell? ⟨b,off + j,none⟩ = some u /\ (g j).rel r X W w u) : (CV.rp sh m g).rel r X W w (.pointer (some ⟨b,off,none⟩)):=
 ⟨_,rfl,rfl,ho,hX,hlt,hc⟩
theorem zC1 {t : TypeId} {fa : Array Field} {i : Nat} {f : Field} {s : Nat} (hd : P.underlying t = some (.struct fa)) (hf : fa[i]? = some f) (hs : szN P f.type = s) (h0 : s ≠ 0) (b off : Nat) :
 (Instr.fieldAt t (.pointer (some ⟨b,off,none⟩)) i).run P w = .ok (.pointer (some ⟨b,off + f.offset,none⟩)) w:=by
 obtain ⟨j,hj,hjs⟩:=QZ hs h0;simp only [Instr.fieldAt,Sem.run_bind,run_underlying hd,Result.andThen_ok,hf,Instr.sureAddr,Sem.run_pure,fieldPlace,qg hj,hjs,h0,if_false,zBv]
theorem fs_at {fa : Array Field} {fs : List (Nat × Nat × Option Bool)} {i o s : Nat} {b : Option Bool} (hfa : fa.toList.map (λf=>(f.offset,szN P f.type,(P.underlying f.type).map qe)) = fs) (h : fs[i]? = some (o,s,b)) :
 ∃ f,fa[i]? = some f /\ f.offset = o /\ szN P f.type = s /\ (P.underlying f.type).map qe = b:=by
 subst hfa;simp only [List.getElem?_map,Array.getElem?_toList] at h;cases hf : fa[i]? with
 | none=>rw [hf] at h;cases h
 | some f=>
   rw [hf] at h;simp only [Option.map_some,Option.some.injEq,Prod.mk.injEq] at h;exact ⟨f,rfl,h.1,h.2.1,h.2.2⟩
theorem zEO {t : TypeId} {d : TypeDesc} {i : TypeInfo} (hd : P.underlying t = some d) (ha : qe d = true) (hi : P.info? t = some i) (cs : Array Value) (off : Nat) :
 (part t cs off).run P w = .ok (.agg (cs.extract off (off + i.size))) w:=by
 have hA : (isAgg t).run P w = .ok true w:=by
  simp only [isAgg,Sem.run_bind,run_underlying hd,Result.andThen_ok];cases d<;>first | rfl | cases ha
 simp only [part,Sem.run_bind,hA,Result.andThen_ok,if_true,qg hi,Sem.run_pure]
theorem zEP {t : TypeId} {d : TypeDesc} (hd : P.underlying t = some d) (ha : qe d = false) (cs : Array Value) (off : Nat) {v : Value} (hv : cs[off]? = some v) :
 (part t cs off).run P w = .ok v w:=by
 have hA : (isAgg t).run P w = .ok false w:=by
  simp only [isAgg,Sem.run_bind,run_underlying hd,Result.andThen_ok];cases d<;>first | rfl | cases ha
 simp only [part,Sem.run_bind,hA,Result.andThen_ok,hv,Sem.run_pure,Bool.false_eq_true,if_false]
theorem zBj {t : TypeId} {b : Bool} (h : (P.underlying t).map qe = some b) : ∃ d,P.underlying t = some d /\ qe d = b:=by
 cases hd : P.underlying t with
 | none=>rw [hd] at h;cases h
 | some d=>rw [hd] at h;exact ⟨d,rfl,by simpa using h⟩
theorem QY {n : Nat} (h : Nat.blt 0 n = true) : n ≠ 0:=by have:=Nat.le_of_ble_eq_true h;omega
theorem zC2 {X W : Nat -> Prop} {cs : Array Value} {n off s : Nat} {g : Nat -> CV} (hn : cs.size = n) (hle : off + s <= n) (hg : ∀ i u,cs[i]? = some u -> (g i).rel r X W w u) :
 (EV.agg s (λj=>g (off + j))).rel r X W w (.agg (cs.extract off (off + s))):=by
 refine ⟨_,rfl,by simp;omega,λi u hu=>?_⟩;rw [Array.getElem?_extract] at hu;split at hu
 . exact hg _ _ hu
 . cases hu
end
section
variable {P : Program} {cx : Cx} {r : QK} {H : Hp} {w : World} {T : YU} {fr : Fr} {a : Act} {nm wd : Nat}
def zBi (w : World) (b off m : Nat) : List Value:=(List.range m).map λq=>(w.cell? ⟨b,off + q,none⟩).getD undef
theorem zFS (w : World) (b off m : Nat) : (zBi w b off m).length = m:=by simp [zBi]
theorem zBR {w : World} {b off m q : Nat} {u : Value} (h : (zBi w b off m)[q]? = some u) : q < m /\ u = (w.cell? ⟨b,off + q,none⟩).getD undef:=by
 have hlt : q < m:=by have:=(List.getElem?_eq_some_iff.1 h).1;simpa [zBi] using this
 refine ⟨hlt,?_⟩;simp [zBi,hlt] at h;exact h.symm
structure Lies (r : QK) (X W : Nat -> Prop) (w : World) (v : Value) (n sz : Nat) (g : Nat -> Nat -> CV) (news : List Value) : Prop where
 shape : ∃ A cap,v = .slice A n cap /\ n <= cap /\ ∀ j u,news[j]? = some u -> ∃ ad,A = some ad /\ w.cell? (ad.add j) = some u
 len : news.length = n * sz
 cell : ∀ u ∈ news,zAa u
 rel : ∀ i,i < n -> ∀ j,j < sz -> ∀ u,news[i * sz + j]? = some u -> (g i j).rel r X W w u
theorem zA4 {X W : Nat -> Prop} {A : Option Addr} {n cap sz : Nat} {g : Nat -> Nat -> CV} (hn : n <= cap) (hsz : 0 < sz) (h : 0 < n -> ∃ b off,A = some ⟨b,off,none⟩ /\ ∀ i,i < n -> ∀ j,j < sz -> ∃ u,w.cell? ⟨b,off + (i * sz + j),none⟩ = some u /\ (g i j).rel r X W w u) :
 ∃ news,Lies r X W w (.slice A n cap) n sz g news:=by
 rcases Nat.eq_zero_or_pos n with h0 | h0
 . subst h0;exact ⟨[],⟨A,cap,rfl,hn,λj u hu=>by simp at hu⟩,by simp,λu hu=>by simp at hu,λi hi=>by omega⟩
 . obtain ⟨b,off,rfl,hc⟩:=h h0;have key : ∀ q,q < n * sz -> ∃ u,w.cell? ⟨b,off + q,none⟩ = some u /\ (g (q / sz) (q % sz)).rel r X W w u:=λq hq=>by
    have h1 : q / sz < n:=(Nat.div_lt_iff_lt_mul hsz).2 hq;obtain ⟨u,hu,hr⟩:=hc (q / sz) h1 (q % sz) (Nat.mod_lt _ hsz);refine ⟨u,?_,hr⟩;rw [<- hu];congr 2
    have:=Nat.div_add_mod q sz;rw [Nat.mul_comm] at this;omega
   refine ⟨zBi w b off (n * sz),⟨_,cap,rfl,hn,λj u hu=>⟨_,rfl,?_⟩⟩,zFS _ _ _ _,λu hu=>?_,λi hi j hj u hu=>?_⟩
   . obtain ⟨hj,rfl⟩:=zBR hu;obtain ⟨u,hu',_⟩:=key j hj;rw [zBv,hu'];rfl
   . obtain ⟨j,hj⟩:=List.getElem?_of_mem hu;obtain ⟨hj',rfl⟩:=zBR hj;obtain ⟨u,hu',hr⟩:=key j hj';rw [hu'];exact Yr hr
   . obtain ⟨hq,rfl⟩:=zBR hu;obtain ⟨u,hu',hr⟩:=hc i hi j hj;rw [hu'];exact hr
theorem zCH (st : St cx r H w) {sz : Nat} (hsz : 0 < sz) {x : FV} {v : Value} {n : Nat} {g : Nat -> Nat -> CV} {p : Option Prop} {rd : List Nat} (h : zAg H sz x = some ⟨n,g,p,rd⟩) (hp : Qh p) (hx : x.rel r cx.X (wr r H) w v) : ∃ news,Lies r cx.X (wr r H) w v n sz g news:=by
 unfold zAg at h;split at h
 . rename_i sh n' s f;cases hb : Nat.beq s sz with
   | false=>rw [hb] at h;cases h
   | true=>
     rw [hb,cond_true] at h;have:=Nat.eq_of_beq_eq_true hb;subst this;injection h with h;injection h with h1 h2 h3 h4;subst h1 h2;obtain ⟨A,cap,rfl,hn,hc⟩:=hx;refine zA4 hn hsz λh0=>?_;obtain ⟨ad,rfl,hs,_,_,_,hcell⟩:=hc h0;obtain ⟨b,o,s'⟩:=ad;simp only at hs;subst hs;exact ⟨b,o,rfl,hcell⟩
 . injection h with h;injection h with h1 h2 h3 h4;subst h1 h2;have : v = .slice none 0 0:=hx;subst this;exact zA4 (Nat.le_refl _) hsz λh0=>absurd h0 (Nat.lt_irrefl _)
 . rename_i k i n';split at h
   . rename_i et en es ev f he;cases hb : Nat.beq es sz with
     | false=>rw [hb] at h;cases h
     | true=>
       rw [hb,cond_true] at h;have:=Nat.eq_of_beq_eq_true hb;subst this;injection h with h;injection h with h1 h2 h3 h4;subst h1 h2 h3;obtain ⟨A,cap,rfl,hn,hc⟩:=hx;refine zA4 hn hsz λh0=>?_;obtain ⟨x,hx,rfl,_⟩:=hc (by omega);have hp' : i + n' <= en:=hp;obtain ⟨_,_,hxs,_⟩:=Yp st he hx;refine ⟨x.b,i * x.sz,rfl,λq hq j hj=>?_⟩;obtain ⟨u,hu,hr⟩:=YK st he hx (i:=i + q) (j:=j) (show i + q < en by omega) hj;refine ⟨u,?_,hr⟩;rw [<- hu];simp only at hxs;rw [show i * x.sz + (q * es + j) = (i + q) * x.sz + j by rw [hxs,Nat.add_mul];omega]
   . cases h
 . rename_i k i j n' s;split at h
   . rename_i et en es ev f he;cases hb : Nat.beq s sz with
     | false=>rw [hb] at h;cases h
     | true=>
       rw [hb,cond_true] at h;have:=Nat.eq_of_beq_eq_true hb;subst this;injection h with h;injection h with h1 h2 h3 h4;subst h1 h2 h3;obtain ⟨A,cap,rfl,hn,hc⟩:=hx;refine zA4 hn hsz λh0=>?_;obtain ⟨x,hx,rfl⟩:=hc h0;have hp' : i < en /\ j + n' * s <= es:=hp;refine ⟨x.b,i * x.sz + j,rfl,λq hq p hp2=>?_⟩;have hlt : q * s + p < n' * s:=by have:=Qd (sz:=s) hq;omega
       obtain ⟨u,hu,hr⟩:=YK st he hx (i:=i) (j:=j + (q * s + p)) (show i < en from hp'.1) (show j + (q * s + p) < es by omega);exact ⟨u,by rw [Nat.add_assoc];exact hu,hr⟩
   . cases h
 . cases h
theorem zDi {X W : Nat -> Prop} {v : Value} {n sz : Nat} {g : Nat -> Nat -> CV} {news : List Value} (h : Lies r X W w v n sz g news) {w' : World} (hw : w'.heap = w.heap) {m : Nat} (hm : m <= n) :
 (Builtin.firstCells sz m v).run P w' = .ok (news.take (m * sz)).toArray w':=by
 obtain ⟨A,cap,rfl,hn,hc⟩:=h.shape;have hlen : (news.take (m * sz)).length = m * sz:=by
  rw [List.length_take,h.len];exact Nat.min_eq_left (Nat.mul_le_mul_right _ hm)
 cases A with
 | none=>
   have : news = []:=by
    cases news with
    | nil=>rfl
    | cons u us=>obtain ⟨ad,h,_⟩:=hc 0 u rfl;cases h
   rw [this,run_firstCells_none];simp
 | some ad=>
   refine run_firstCells_some (P:=P) w' sz m ad n cap _ hlen λj u hu=>?_;rw [List.getElem?_take] at hu;split at hu
   . obtain ⟨ad',h1,h2⟩:=hc j u hu;injection h1 with h1;subst h1;rw [<- h2];unfold World.cell?;rw [hw]
   . cases hu
theorem zCI {X W : Nat -> Prop} {v : Value} {n sz : Nat} {g : Nat -> Nat -> CV} {news : List Value} (h : Lies r X W w v n sz g news) {w' : World} (hw : w'.heap = w.heap) :
 (Builtin.firstCells sz n v).run P w' = .ok news.toArray w':=by
 have:=zDi (P:=P) h hw (Nat.le_refl n);rwa [<- h.len,List.take_length] at this
theorem zAW {t ty e : TypeId} {i : TypeInfo} (ht : P.underlying t = some (.slice e)) (hi : P.info? e = some i) (base : Option Addr) (n cap : Nat) {X W : Nat -> Prop} {y : Value} {m : Nat} {g : Nat -> Nat -> CV} {news : List Value} (hy : Lies r X W w y m i.size g news)
 (hroom : n + m <= cap) {w' : World} (hst : ∀ ad,base = some ad -> (storeCells (ad.add (n * i.size)) news 0).run P w = .ok () w') (hno : base = none -> w' = w) :
 (Builtin.append_ #[t,t] ty #[.slice base n cap,y]).run P w = .ok (.slice base (n + m) cap) w':=by
 obtain ⟨A,c,rfl,_,_⟩:=hy.shape;have hf:=zCI (P:=P) hy (w':=w) rfl;cases base with
 | none=>
   have:=hno rfl;subst this;simp [Builtin.append_,run_underlying ht,sizeOf,typeInfo,hi,Builtin.lenOf,hroom,hf]
 | some ad=>
   have:=hst ad rfl;simp [Builtin.append_,run_underlying ht,sizeOf,typeInfo,hi,Builtin.lenOf,hroom,hf,this]
theorem zDj {t ty e : TypeId} {i : TypeInfo} {z : Value} (ht : P.underlying t = some (.slice e)) (hi : P.info? e = some i) (hz : i.zero = some z) (base : Option Addr) (n cap : Nat) {olds : List Value} (hold : ∀ w' : World,w'.heap = w.heap -> (Builtin.firstCells i.size n (.slice base n cap)).run P w' = .ok olds.toArray w')
 {X W : Nat -> Prop} {y : Value} {m : Nat} {g : Nat -> Nat -> CV} {news : List Value} (hy : Lies r X W w y m i.size g news) (hg : cap < n + m) (h63 : n + m <= 9223372036854775807) (hfit : Builtin.nextslicecap (n + m) cap * i.bytes <= 281474976710656) :
 (Builtin.append_ #[t,t] ty #[.slice base n cap,y]).run P w =
   .ok (.slice (some ⟨w.heap.size,0,none⟩) (n + m) (grownCap w (n + m) cap e)) (w.drew.alloc (.cells (olds.toArray ++ news.toArray ++ Builtin.zeroCells z.cells (grownCap w (n + m) cap e - (n + m))) e)):=by
 obtain ⟨A,c,rfl,_,_⟩:=hy.shape;have hn : ¬ (n + m <= cap):=by omega
 have h63' : ¬ (9223372036854775807 < ((n : Int) + (m : Int))):=by omega
 have h48' : ¬ (281474976710656 < Builtin.nextslicecap (n + m) cap * i.bytes):=by omega
 have hf:=zCI (P:=P) hy (w':=w.drew) rfl;have ho:=hold w.drew rfl;simp [Builtin.append_,run_underlying ht,sizeOf,typeInfo,zeroValue,hi,hz,Builtin.lenOf,hn,h63',h48',Question.forced,ho,hf,newRow,grownCap];congr 2
 apply Array.ext';simp
theorem zFT {X W : Nat -> Prop} {n m sz : Nat} {olds news rest : List Value} {f g : Nat -> Nat -> CV} (ho : olds.length = n * sz) (hn : news.length = m * sz) (hf : ∀ i,i < n -> ∀ j,j < sz -> ∀ u,olds[i * sz + j]? = some u -> (f i j).rel r X W w u) (hg : ∀ i,i < m -> ∀ j,j < sz -> ∀ u,news[i * sz + j]? = some u -> (g i j).rel r X W w u) :
 ∀ i,i < n + m -> ∀ j,j < sz -> ∀ u,(olds ++ news ++ rest)[i * sz + j]? = some u -> (Zp (Nat.blt i n) (f i j) (g (i - n) j)).rel r X W w u:=by
 intro i hi j hj u hu;rw [QS];by_cases h : i < n
 . rw [show Nat.blt i n = true from Nat.ble_eq_true_of_le h,cond_true];have:=Qd (sz:=sz) h;rw [List.append_assoc,List.getElem?_append_left (by omega)] at hu;exact hf i h j hj u hu
 . have hb : Nat.blt i n = false:=by
    cases hb : Nat.blt i n with
    | false=>rfl
    | true=>exact absurd (Nat.le_of_ble_eq_true hb) h
   rw [hb,cond_false];have h1:=Nat.mul_le_mul_right sz (Nat.le_of_not_lt h);have h2:=Qd (sz:=sz) (show i - n < m by omega);have h3 : i * sz + j - n * sz = (i - n) * sz + j:=by rw [Nat.sub_mul];omega
   rw [List.append_assoc,List.getElem?_append_right (by omega),ho,h3,List.getElem?_append_left (by omega)] at hu;exact hg (i - n) (by omega) j hj u hu
theorem zCJ (w : World) (need old : Nat) (e : TypeId) : need <= grownCap w need old e:=grownCap_ge w need old e
theorem arr_get (olds news : List Value) (z : Array Value) (q : Nat) : (olds.toArray ++ news.toArray ++ z)[q]? = (olds ++ news ++ z.toList)[q]?:=by
 have : olds.toArray ++ news.toArray ++ z = (olds ++ news ++ z.toList).toArray:=by
  apply Array.ext';simp
 rw [this];simp
theorem zEL (hT : qP P T) (st : St cx r H w) (hfr : zAq r H nm wd) (hwd : 0 < wd) {dead : Hp} (hdead : ∀ k e,zX (dead ++ H) k = some e -> zX H k = some e) {t ty e : TypeId} {ti : TI} (ht : P.underlying t = some (.slice e)) (hTe : T e = some ti) {sz : Nat} (hsz : 0 < sz) (hes : szN P e = sz) (hzl : ti.zero.length = sz)
 {base : Option Addr} {n cap : Nat} {f : Nat -> Nat -> CV} {olds : List Value} (ho : Lies r cx.X (wr r H) w (.slice base n cap) n sz f olds) {y : Value} {m : Nat} {g : Nat -> Nat -> CV} {news : List Value} (hy : Lies r cx.X (wr r H) w y m sz g news)
 (hg : cap < n + m) (hb : (n + m) * ti.bytes <= 140737488355328) (h63 : n + m <= 9223372036854775807) {F : Nat -> Nat -> CV} (hF : ∀ i j,F i j = bif Nat.blt i n then f i j else g (i - n) j) {N : Nat} (hN : N = n + m) (p : Option Prop) (rd : List Nat) :
 ∃ v w',(Builtin.append_ #[t,t] ty #[.slice base n cap,y]).run P w = .ok v w' /\ zAD cx r H w nm wd ⟨p,zL (.os nm 0 N),(nm,some ⟨e,N,sz,false,F⟩) :: dead,rd⟩ v w':=by
 subst hN;obtain ⟨i,z,hi,hszi,hz,hl,hall,hby⟩:=(hT e ti hTe).info;have hi' : i.size = sz:=by rw [<- hes];simp [szN,hi]
 subst hi';have hzs:=(Yg (r:=r) (w:=w) (X:=cx.X) (W:=wr r H) hl hall).1;have hge:=zCJ w (n + m) cap e;refine ⟨_,_,zDj ht hi hz base n cap (olds:=olds) (λw' hw=>zCI ho hw) hy hg h63 (by rw [hby];exact growslice_fits hg hb),?_⟩;refine zAs st hfr hwd hdead e (olds.toArray ++ news.toArray ++ Builtin.zeroCells z.cells (grownCap w (n + m) cap e - (n + m))) (n + m) i.size (grownCap w (n + m) cap e) false F hsz (λh=>by cases h) ?_ hge ?_ ?_ ?_ ?_ ?_ ?_ ?_
 . simp only [Array.size_append,List.size_toArray,size_zeroCells,hy.len,ho.len,hzs,hzl];rw [<- Nat.add_mul,<- Nat.add_mul];congr 1;omega
 . intro k hk j hj u hu;rw [arr_get] at hu;have:=zFT (r:=r) (X:=cx.X) (W:=wr r H) (w:=w) ho.len hy.len ho.rel hy.rel k hk j hj u hu;rw [hF];rw [QS] at this;exact this
 . rfl
 . rfl
 . rfl
 . rfl
 . rfl
 . intro r' h W w';exact ⟨_,_,rfl,hge,λ_=>⟨_,⟨h,by first | assumption | omega⟩,by simp,by simp⟩⟩
theorem zDA (hT : qP P T) (st : St cx r H w) (hfr : zAq r H nm wd) (hwd : 0 < wd) {t ty e : TypeId} {ti : TI} (ht : P.underlying t = some (.slice e)) (hTe : T e = some ti) {sz : Nat} (hsz : 0 < sz) (hes : szN P e = sz) (hzl : ti.zero.length = sz)
 {y : Value} {m : Nat} {g : Nat -> Nat -> CV} {news : List Value} (hy : Lies r cx.X (wr r H) w y m sz g news) (hb : m * ti.bytes <= 140737488355328) (h63 : m <= 9223372036854775807) (p : Option Prop) (rd : List Nat) :
 ∃ v w',(Builtin.append_ #[t,t] ty #[.slice none 0 0,y]).run P w = .ok v w' /\ zAD cx r H w nm wd ⟨p,zL (.os nm 0 m),[(nm,some ⟨e,m,sz,false,g⟩)],rd⟩ v w':=by
 rcases Nat.eq_zero_or_pos m with h0 | h0
 . obtain ⟨i,z,hi,hszi,hz,hl,hall,hby⟩:=(hT e ti hTe).info;have hi' : i.size = sz:=by rw [<- hes];simp [szN,hi]
   subst hi';subst h0;refine ⟨_,w,zAW ht hi none 0 0 hy (Nat.le_refl _) (λad h=>by cases h) (λ_=>rfl),?_⟩;have hf0:=hfr nm (Nat.le_refl _) (by omega);obtain ⟨h1,h2⟩:=st.empty hf0.1 hf0.2 [] zAS e i.size g hsz;refine ⟨r,h1,h2,λ_ _=>rfl,λk e' hk=>?_,⟨none,0,rfl,Nat.le_refl _,λh=>absurd h (Nat.lt_irrefl _)⟩⟩;by_cases h : k = nm
   . exact .inl ⟨.inl (by omega),by omega⟩
   . have : zX ([(nm,some ⟨e,0,i.size,false,g⟩)] ++ H) k = zX H k:=zZ _ _ _ h;rw [this] at hk;exact .inr ⟨e',hk⟩
 . obtain ⟨olds,ho⟩:=zA4 (r:=r) (w:=w) (X:=cx.X) (W:=wr r H) (A:=none) (n:=0) (cap:=0) (sz:=sz) (g:=g) (Nat.le_refl _) hsz (λh=>absurd h (Nat.lt_irrefl _));refine zEL hT st hfr hwd zAS ht hTe hsz hes hzl ho hy (by omega) (by rw [Nat.zero_add];exact hb) (by omega) (F:=g) (λi j=>?_) (Nat.zero_add m).symm p rd;cases hb0 : Nat.blt i 0 with
   | true=>exact absurd (Nat.le_of_ble_eq_true hb0) (by omega)
   | false=>rw [cond_false,Nat.sub_zero]
theorem zDB (hT : qP P T) (st : St cx r H w) (hfr : zAq r H nm wd) (hwd : 0 < wd) {t ty e : TypeId} {ti : TI} (ht : P.underlying t = some (.slice e)) (hTe : T e = some ti) {sz : Nat} (hsz : 0 < sz) (hes : szN P e = sz) (hzl : ti.zero.length = sz)
 {k n : Nat} {f : Nat -> Nat -> CV} (hk : zX H k = some ⟨e,n,sz,false,f⟩) {x : Value} (hx : (CV.os k 0 n).rel r cx.X (wr r H) w x)
 {y : Value} {m : Nat} {g : Nat -> Nat -> CV} {news : List Value} (hy : Lies r cx.X (wr r H) w y m sz g news) (hb : (n + m) * ti.bytes <= 140737488355328) (h63 : n + m <= 9223372036854775807) (p : Option Prop) (rd : List Nat) :
 ∃ v w',(Builtin.append_ #[t,t] ty #[x,y]).run P w = .ok v w' /\ zAD cx r H w nm wd ⟨p,zL (.os nm 0 (n + m)),[(nm,some ⟨e,n + m,sz,false,λk j=>Zp (Nat.blt k n) (f k j) (g (k - n) j)⟩),(k,none)],rd⟩ v w':=by
 obtain ⟨A,cap,rfl,hn,hc⟩:=hx;have hf0:=hfr nm (Nat.le_refl _) (by omega);by_cases hroom : n + m <= cap
 . obtain ⟨i,z,hi,hszi,hz,hl,hall,hby⟩:=(hT e ti hTe).info;have hi' : i.size = sz:=by rw [<- hes];simp [szN,hi]
   subst hi';rcases Nat.eq_zero_or_pos cap with h0 | h0
   . have hm0 : m = 0:=by omega
     have hn0 : n = 0:=by omega
     subst hm0 hn0 h0;have hnews : news = []:=List.eq_nil_of_length_eq_zero (by simpa using hy.len);subst hnews;refine ⟨_,w,zAW ht hi A 0 0 hy (Nat.le_refl _) (λad h=>rfl) (λ_=>rfl),?_⟩;obtain ⟨h1,h2⟩:=st.empty hf0.1 hf0.2 [(k,none)] Yx e i.size (λq j=>Zp (Nat.blt q 0) (f q j) (g (q - 0) j)) hsz;refine ⟨r,h1,h2,λ_ _=>rfl,λq e' hq=>?_,⟨A,0,rfl,Nat.le_refl _,λh=>absurd h (Nat.lt_irrefl _)⟩⟩;by_cases h : q = nm
     . exact .inl ⟨.inl (by omega),by omega⟩
     . have : zX (([(nm,some ⟨e,0 + 0,i.size,false,λq j=>Zp (Nat.blt q 0) (f q j) (g (q - 0) j)⟩),(k,none)] : Hp) ++ H) q = zX ([(k,none)] ++ H) q:=zZ _ _ _ h;rw [this] at hq;exact .inr ⟨e',Yx q e' hq⟩
   . obtain ⟨b,hb1,rfl,hb3⟩:=hc h0;obtain ⟨g1,g2,g3,g4,cs,g5,g6,g7⟩:=Yp st hk hb1;simp only at g1 g2 g3 g4 g5 g7;rw [Nat.zero_mul] at *;have hcap : cap = b.c:=by omega
     have hfit : n * i.size + 0 + news.length <= cs.size:=by
      rw [g6,g3,hy.len,Nat.add_zero,<- Nat.add_mul];exact Nat.mul_le_mul_right _ (by omega)
     obtain ⟨w',s1,s2,s3,s4,s5,s6,s7⟩:=Yh P b.b (n * i.size) e news 0 w cs g5 hfit hy.cell;rw [Nat.add_zero] at s7;refine ⟨_,w',zAW ht hi (some ⟨b.b,0,none⟩) n cap hy hroom (λad h=>?_) (λh=>by cases h),?_⟩
     . injection h with h;subst h;rw [zBv,Nat.zero_add];exact s1
     . have hrows : ∀ q,q < n + m -> ∀ j,j < i.size -> ∀ u,(ovl cs (n * i.size) news)[q * i.size + j]? = some u -> (Zp (Nat.blt q n) (f q j) (g (q - n) j)).rel r cx.X (wr r H) w u:=by
        intro q hq j hj u hu;rw [zBk _ _ _ (by omega)] at hu;rw [QS];by_cases h : q < n
        . rw [show Nat.blt q n = true from Nat.ble_eq_true_of_le h,cond_true];have:=Qd (sz:=i.size) h;rw [if_neg (by omega)] at hu;exact g7 q h j hj u hu
        . have hbl : Nat.blt q n = false:=by
           cases hbl : Nat.blt q n with
           | false=>rfl
           | true=>exact absurd (Nat.le_of_ble_eq_true hbl) h
          rw [hbl,cond_false];have h1:=Nat.mul_le_mul_right i.size (Nat.le_of_not_lt h);have h2:=Qd (sz:=i.size) (show q - n < m by omega);have h3 : q * i.size + j - n * i.size = (q - n) * i.size + j:=by rw [Nat.sub_mul];omega
          rw [if_pos (by rw [hy.len];omega),h3] at hu;exact hy.rel (q - n) (by omega) j hj u hu
       obtain ⟨h1,h2⟩:=st.grow hk hb1 hf0.1 hf0.2 (ovl cs (n * i.size) news) (n + m) (λq j=>Zp (Nat.blt q n) (f q j) (g (q - n) j)) (by rw [zAt];exact g6) (by omega) (λh=>by cases h) hrows w' s2 s3 s4 s5 s6 s7;refine ⟨_,h1,h2,λq hq=>if_neg (by omega),λq e' hq=>?_,?_⟩
       . by_cases h : q = nm
         . exact .inl ⟨.inl (by omega),by omega⟩
         . have : zX (([(nm,some ⟨e,n + m,i.size,false,λq j=>Zp (Nat.blt q n) (f q j) (g (q - n) j)⟩),(k,none)] : Hp) ++ H) q = zX ([(k,none)] ++ H) q:=zZ _ _ _ h;rw [this] at hq;exact .inr ⟨e',Yx q e' hq⟩
       . exact ⟨_,cap,rfl,hroom,λ_=>⟨b,⟨if_pos rfl,hb1.2⟩,by rw [Nat.zero_mul],by omega⟩⟩
 . obtain ⟨olds,ho⟩ : ∃ olds,Lies r cx.X (wr r H) w (.slice A n cap) n sz f olds:=zA4 hn hsz λh0=>by
    obtain ⟨b,hb1,rfl,hb3⟩:=hc (by omega);obtain ⟨_,_,hxs,_⟩:=Yp st hk hb1;simp only at hxs;refine ⟨b.b,0,by rw [Nat.zero_mul],λq hq j hj=>?_⟩;obtain ⟨u,hu,hr⟩:=YK st hk hb1 (i:=q) (j:=j) hq hj;exact ⟨u,by rw [Nat.zero_add,<- hxs];exact hu,hr⟩
   exact zEL hT st hfr hwd Yx ht hTe hsz hes hzl ho hy (by omega) hb h63 (λi j=>QS _ _ _) rfl p rd
theorem step_make (hT : qP P T) (st : St cx r H w) (hfr : zAq r H nm wd) (hwd : 0 < wd) {t e : TypeId} {ti : TI} (ht : P.underlying t = some (.slice e)) (hTe : T e = some ti) {sz : Nat} (hsz : 0 < sz) (hes : szN P e = sz) (hzl : ti.zero.length = sz) {kl kc : IntKind} {l c : Int}
 (h0 : 0 <= l) (hlc : l <= c) (hb : (ti.bytes : Int) * c <= 281474976710656) (h63 : c <= 9223372036854775807) (p : Option Prop) (rd : List Nat) :
 zBu P cx r H w nm wd ⟨p,zL (.os nm 0 l.toNat),[(nm,some ⟨e,l.toNat,sz,false,λ_=>nth ti.zero⟩)],rd⟩ (do pure (.value (<- Instr.makeSlice t (.int kl l) (.int kc c)))):=by
 obtain ⟨i,z,hi,hszi,hz,hl,hall,hby⟩:=(hT e ti hTe).info;have hi' : i.size = sz:=by rw [<- hes];simp [szN,hi]
 subst hi';obtain ⟨hzs,hzr⟩:=Yg (r:=r) (w:=w) (X:=cx.X) (W:=wr r H) hl hall;have hrun:=run_make (P:=P) w t e i z ht hi hz kl kc l c h0 hlc (by rw [hby];exact hb) h63;refine ⟨.slice (some ⟨w.heap.size,0,none⟩) l.toNat c.toNat,w.alloc (.cells (madeCells z.cells (c.toNat * i.size)) e),.inl (by simp only [Sem.run_bind,hrun,Result.andThen_ok,Sem.run_pure]),?_⟩;refine zAs st hfr hwd zAS e (madeCells z.cells (c.toNat * i.size)) l.toNat i.size c.toNat false (λ_=>nth ti.zero) hsz (λh=>by cases h) ?_ (by omega) ?_ ?_ ?_ ?_ ?_ ?_ ?_
 . rw [size_madeCells]
 . intro q hq j hj u hu;have hlt : q * i.size + j < c.toNat * i.size:=zEx hq hj (by omega);simp only [madeCells,Array.getElem?_map,Array.getElem?_range,hlt,if_true,Option.map_some,Option.some.injEq] at hu;have hm : (q * i.size + j) % z.cells.size = j:=by rw [hzs,hzl,Nat.mul_comm,Nat.mul_add_mod,Nat.mod_eq_of_lt hj]
   rw [hm] at hu;have hj' : j < z.cells.size:=by rw [hzs,hzl];exact hj
   rw [getElem!_pos z.cells j hj'] at hu;exact hzr j u (by rw [<- hu];exact Array.getElem?_eq_getElem hj')
 . rfl
 . rfl
 . rfl
 . rfl
 . rfl
 . intro r' h W w';exact ⟨_,_,rfl,by omega,λ_=>⟨_,⟨h,by first | assumption | omega⟩,by simp,by simp⟩⟩
theorem parts_ok {X W : Nat -> Prop} {sz N : Nat} (hsz : 0 < sz) : ∀ (ps : List (Nat × FV)) (qs : List (Nat × Value)) (f g : Nat -> Nat -> CV) (cs : Array Value),cs.size = N * sz -> (∀ i,i < N -> ∀ j,j < sz -> ∀ u,cs[i * sz + j]? = some u -> (f i j).rel r X W w u) ->
 ps.length = qs.length -> (∀ (i : Nat) p q,ps[i]? = some p -> qs[i]? = some q -> p.1 = q.1 /\ p.2.rel r X W w q.2) -> zDq sz N f ps = some g ->
 ∃ cs',Instr.fill (λi=>some (i * sz,sz)) cs qs = some cs' /\ cs'.size = N * sz /\ ∀ i,i < N -> ∀ j,j < sz -> ∀ u,cs'[i * sz + j]? = some u -> (g i j).rel r X W w u:=by
 intro ps;induction ps with
 | nil=>
   intro qs f g cs hN hf hl hr h;have : qs = []:=List.eq_nil_of_length_eq_zero hl.symm;subst this;injection h with h;subst h;exact ⟨cs,rfl,hN,hf⟩
 | cons p ps ih=>
   intro qs f g cs hN hf hl hr h;match qs,hl with
   | q :: qs,hl=>
     obtain ⟨i,x⟩:=p;obtain ⟨j,v⟩:=q;obtain ⟨hij,hrel⟩:=hr 0 (i,x) (j,v) rfl rfl;simp only at hij hrel;subst hij;cases x with
     | top=>cases h
     | tup=>cases h
     | e x=>
       simp only [zDq] at h;split at h
       . rename_i n gg hcs;obtain ⟨h1,h2,h3⟩:=zAu hrel hcs;cases hb : (Nat.beq n sz && Nat.blt i N) with
         | false=>rw [hb] at h;cases h
         | true=>
           rw [hb,cond_true] at h;simp only [Bool.and_eq_true] at hb;have e1 : n = sz:=Nat.eq_of_beq_eq_true hb.1;have e2 : i < N:=Nat.le_of_ble_eq_true hb.2;have hlen : v.cells.toList.length = sz:=by simp;omega
           have hrow:=Qd (sz:=sz) e2;have hfold : (v.cells.zipIdx.foldl (λcs (x : Value × Nat)=>cs.setIfInBounds (i * sz + x.2) x.1) cs) = ovl cs (i * sz) v.cells.toList:=by
            rw [<- Array.foldl_toList,Array.toList_zipIdx];have:=zEN (i * sz) v.cells.toList 0 cs;rw [Nat.add_zero] at this;exact this
           obtain ⟨cs',h4,h5,h6⟩:=ih qs (λk j=>Zp (Nat.beq k i) (gg j) (f k j)) g (ovl cs (i * sz) v.cells.toList) (by rw [zAt];exact hN) (λk hk j hj u hu=>by
            rw [zBk _ _ _ (by rw [hlen,hN];omega),hlen] at hu;show (Zp (Nat.beq k i) (gg j) (f k j)).rel r X W w u;rw [QS];by_cases hki : k = i
            . subst hki;rw [show Nat.beq k k = true by simp,cond_true];rw [if_pos (by omega),show k * sz + j - k * sz = j by omega] at hu;exact h2 j u (by simpa using hu)
            . have hbk : Nat.beq k i = false:=by
               cases hbk : Nat.beq k i with
               | false=>rfl
               | true=>exact absurd (Nat.eq_of_beq_eq_true hbk) hki
              rw [hbk,cond_false];have hout : ¬ (i * sz <= k * sz + j /\ k * sz + j < i * sz + sz):=λhh=>by
               rcases Nat.lt_trichotomy k i with h | h | h
               . have:=Qd (sz:=sz) h;omega
               . exact hki h
               . have:=Qd (sz:=sz) h;omega
              rw [if_neg hout] at hu;exact hf k hk j hj u hu) (by simpa using hl) (λk p q hp hq=>hr (k + 1) p q hp hq) h
           refine ⟨cs',?_,h5,h6⟩;rw [Instr.fill];simp only;rw [if_neg (by simp;exact ⟨by omega,by omega⟩),hfold];exact h4
       . cases h
theorem step_lit (hT : qP P T) (st : St cx r H w) (hfr : zAq r H nm wd) (hwd : 0 < wd) {t e : TypeId} {ti : TI} (ht : P.underlying t = some (.slice e)) (hTe : T e = some ti) {sz : Nat} (hsz : 0 < sz) (hes : szN P e = sz) (hzl : ti.zero.length = sz) {len : Nat} (hle : len * sz <= 16777216)
 {parts : Array (Nat × Operand)} {f : Nat -> Nat -> CV} (hf : ∀ x,(ev fr x).rel r cx.X (wr r H) w (a.eval x)) (hp : zDq sz len (λ_=>nth ti.zero) (parts.toList.map λp=>(p.1,ev fr p.2)) = some f) :
 zBu P cx r H w nm wd ⟨none,zL (.os nm 0 len),[(nm,some ⟨e,len,sz,false,f⟩)],[]⟩ (do pure (.value (<- Instr.buildSlice t len (parts.map λ(i,x)=>(i,a.eval x))))):=by
 obtain ⟨i,z,hi,hszi,hz,hl,hall,hby⟩:=(hT e ti hTe).info;have hi' : i.size = sz:=by rw [<- hes];simp [szN,hi]
 subst hi';obtain ⟨hzs,hzr⟩:=Yg (r:=r) (w:=w) (X:=cx.X) (W:=wr r H) hl hall;obtain ⟨h3,h4⟩:=zCg hf parts;obtain ⟨cs,h5,h6,h7⟩:=parts_ok (r:=r) (w:=w) (X:=cx.X) (W:=wr r H) (N:=len) hsz _ _ _ _ (madeCells z.cells (len * i.size)) (size_madeCells _ _) (λq hq j hj u hu=>by
  have hlt : q * i.size + j < len * i.size:=zEx hq hj (Nat.le_refl _);simp only [madeCells,Array.getElem?_map,Array.getElem?_range,hlt,if_true,Option.map_some,Option.some.injEq] at hu;have hm : (q * i.size + j) % z.cells.size = j:=by rw [hzs,hzl,Nat.mul_comm,Nat.mul_add_mod,Nat.mod_eq_of_lt hj]
  rw [hm] at hu;have hj' : j < z.cells.size:=by rw [hzs,hzl];exact hj
  rw [getElem!_pos z.cells j hj'] at hu;exact hzr j u (by rw [<- hu];exact Array.getElem?_eq_getElem hj')) h3 h4 hp
 have hrun : (Instr.buildSlice t len (parts.map λ(i,x)=>(i,a.eval x))).run P w = .ok (.slice (some ⟨w.heap.size,0,none⟩) len len) (w.alloc (.cells cs e)):=by
  have h24 : ¬ (16777216 < len * i.size):=by omega
  by_cases h0 : len * i.size = 0
  . have hm : madeCells z.cells (len * i.size) = #[]:=by simp [madeCells,h0]
    rw [hm] at h5;have h5'' : Instr.fill (λi_1=>some (i_1 * i.size,i.size)) #[] (List.map (λx=>(x.fst,a.eval x.snd)) parts.toList) = some cs:=by simpa using h5
    simp [Instr.buildSlice,run_underlying ht,sizeOf,typeInfo,hi,h24,h0,newRow,Array.range_zero',h5'']
  . have h5' : Instr.fill (λi_1=>some (i_1 * i.size,i.size)) (Array.map (λx=>z.cells[x % z.cells.size]!) (Array.range (len * i.size))) (parts.map λ(i,x)=>(i,a.eval x)).toList = some cs:=h5;simp only [Instr.buildSlice,Sem.run_bind,run_underlying ht,Result.andThen_ok,qg hi,zBS hi hz,h24,h0,if_false,Sem.run_pure];simp only [h5'];simp [newRow,h24]
 refine ⟨.slice (some ⟨w.heap.size,0,none⟩) len len,w.alloc (.cells cs e),.inl (by simp only [Sem.run_bind,hrun,Result.andThen_ok,Sem.run_pure]),?_⟩;refine zAs st hfr hwd zAS e cs len i.size len false f hsz (λh=>by cases h) h6 (Nat.le_refl _) h7 ?_ ?_ ?_ ?_ ?_ ?_
 . rfl
 . rfl
 . rfl
 . rfl
 . rfl
 . intro r' h W w';exact ⟨_,_,rfl,Nat.le_refl _,λ_=>⟨_,⟨h,by first | assumption | omega⟩,by simp,by simp⟩⟩
end
section
variable {P : Program} {cx : Cx} {r : QK} {H : Hp} {w : World} {T : YU} {fr : Fr} {a : Act} {nm wd : Nat}
theorem zEK (st : St cx r H w) {k : Nat} {e : Ent} (hk : zX H k = some e) {f : Nat -> Nat -> CV} (hf : ∀ i,i < e.n -> ∀ j,j < e.sz -> f i j = e.f i j) {sr : SR} {v : Value} (he : sr.eff = [(k,some ⟨e.t,e.n,e.sz,e.v,f⟩)]) (hval : ∀ W w',sr.val.rel r cx.X W w' v) : zAD cx r H w nm wd sr v w:=by
 have hl : ∀ q,q ≠ k -> zX ((k,some ⟨e.t,e.n,e.sz,e.v,f⟩) :: H) q = zX H q:=λq hq=>zZ _ _ _ hq;have hl0 : zX ((k,some ⟨e.t,e.n,e.sz,e.v,f⟩) :: H) k = some ⟨e.t,e.n,e.sz,e.v,f⟩:=zn _ _ _ _;have live : ∀ q e',zX ((k,some ⟨e.t,e.n,e.sz,e.v,f⟩) :: H) q = some e' -> ∃ e1,zX H q = some e1:=λq e' h=>by
  by_cases hq : q = k
  . subst hq;exact ⟨e,hk⟩
  . rw [hl q hq] at h;exact ⟨e',h⟩
 have:=st.step (r':=r) (H':=(k,some ⟨e.t,e.n,e.sz,e.v,f⟩) :: H) (w':=w) (λ_ _ h=>h) rfl rfl rfl (Nat.le_refl _) (λ_ _ _=>rfl) (λb hb hw=>by
  obtain ⟨q,e',y,h1,h2,h3⟩:=hw;obtain ⟨e1,h1⟩:=live q e' h1;exact ⟨q,e1,y,h1,h2,h3⟩) (λq y hq=>.inl ⟨q,hq⟩) (λn m e1 e2 y z h1 h2 hy hz hyz=>by
  obtain ⟨e1,h1⟩:=live n e1 h1;obtain ⟨e2,h2⟩:=live m e2 h2;exact st.inj n m e1 e2 y z h1 h2 hy hz hyz) (λq e' hq=>by
  by_cases h : q = k
  . subst h;rw [hl0] at hq;injection hq with hq;subst hq;exact (st.blk q e hk).map rfl rfl rfl rfl rfl (λ_ _=>rfl) λi hi j hj u hu=>by show (f i j).rel _ _ _ _ _;rw [hf i hi j hj];exact hu
  . rw [hl q h] at hq;exact st.blk q e' hq)
 obtain ⟨h1,h2⟩:=this;unfold zAD;rw [he];refine ⟨r,h1,h2,λ_ _=>rfl,λn e' hn=>?_,hval _ _⟩;obtain ⟨e1,h⟩:=live n e' hn;exact .inr ⟨e1,h⟩
theorem ovE_in {f g : Nat -> Nat -> CV} {i n k j : Nat} (h : i <= k /\ k < i + n) : ovE f i n g k j = g (k - i) j:=by
 unfold ovE;rw [QS,show (Nat.ble i k && Nat.blt k (i + n)) = true from by simp only [Bool.and_eq_true];exact ⟨Nat.ble_eq_true_of_le h.1,Nat.ble_eq_true_of_le h.2⟩];rfl
theorem zEu {f g : Nat -> Nat -> CV} {i n k j : Nat} (h : ¬ (i <= k /\ k < i + n)) : ovE f i n g k j = f k j:=by
 unfold ovE;have : (Nat.ble i k && Nat.blt k (i + n)) = false:=by
  cases hh : (Nat.ble i k && Nat.blt k (i + n)) with
  | false=>rfl
  | true=>
    simp only [Bool.and_eq_true] at hh;exact absurd ⟨Nat.le_of_ble_eq_true hh.1,Nat.le_of_ble_eq_true hh.2⟩ h
 rw [QS,this];rfl
theorem rows_runs (st : St cx r H w) {k : Nat} {x : Bi} {e : Ent} (hk : zX H k = some e) (hx : At r k x) {i m : Nat} {vs : List Value} {g : Nat -> Nat -> CV} (hb : i + m <= e.n) (hn : vs.length = m * e.sz) (hcell : ∀ v ∈ vs,zAa v)
 (hg : ∀ q,q < m -> ∀ j,j < e.sz -> ∀ u,vs[q * e.sz + j]? = some u -> (g q j).rel r cx.X (wr r H) w u) {sr : SR} {v : Value} (he : sr.eff = [(k,some ⟨e.t,e.n,e.sz,e.v,ovE e.f i m g⟩)]) (hval : ∀ W w',sr.val.rel r cx.X W w' v) :
 ∃ w',(storeCells ⟨x.b,i * x.sz,none⟩ vs 0).run P w = .ok () w' /\ zAD cx r H w nm wd sr v w':=by
 obtain ⟨h1,h2,h3,h4,cs,h5,h6,h7⟩:=Yp st hk hx;have hfit : i * x.sz + 0 + vs.length <= cs.size:=by
  rw [h6,hn,h3,Nat.add_zero,<- Nat.add_mul];exact Nat.mul_le_mul_right _ (by omega)
 obtain ⟨w',g1,g2,g3,g4,g5,g6,g7⟩:=Yh P x.b (i * x.sz) e.t vs 0 w cs h5 hfit hcell;rw [Nat.add_zero] at g7;refine ⟨w',g1,zDl st hk hx (by rw [zAt];exact h6) (λq hq j hj u hu=>?_) g2 g3 g4 g5 g6 g7 he hval⟩;rw [zBk _ _ _ (by omega),h3] at hu;by_cases hin : i <= q /\ q < i + m
 . rw [ovE_in hin];have e1:=Nat.mul_le_mul_right e.sz hin.1;have e2:=Qd (sz:=e.sz) (show q - i < m by omega);have e3 : q * e.sz + j - i * e.sz = (q - i) * e.sz + j:=by rw [Nat.sub_mul];omega
   rw [if_pos (by rw [hn];omega),e3] at hu;exact hg (q - i) (by omega) j hj u hu
 . rw [zEu hin];have hout : ¬ (i * e.sz <= q * e.sz + j /\ q * e.sz + j < i * e.sz + vs.length):=λhh=>by
    rw [hn,<- Nat.add_mul] at hh;apply hin;constructor
    . rcases Nat.lt_or_ge q i with h | h
      . have:=Qd (sz:=e.sz) h;omega
      . exact h
    . rcases Nat.lt_or_ge q (i + m) with h | h
      . exact h
      . have:=Nat.mul_le_mul_right e.sz h;omega
   rw [if_neg hout] at hu;exact h7 q hq j hj u hu
theorem zFR {X W : Nat -> Prop} {v : Value} {n sz : Nat} {g : Nat -> Nat -> CV} {news : List Value} (h : Lies r X W w v n sz g news) {m : Nat} (hm : m <= n) :
 (news.take (m * sz)).length = m * sz /\ (∀ u ∈ news.take (m * sz),zAa u) /\ ∀ q,q < m -> ∀ j,j < sz -> ∀ u,(news.take (m * sz))[q * sz + j]? = some u -> (g q j).rel r X W w u:=by
 refine ⟨?_,λu hu=>h.cell u (List.mem_of_mem_take hu),λq hq j hj u hu=>?_⟩
 . rw [List.length_take,h.len];exact Nat.min_eq_left (Nat.mul_le_mul_right _ hm)
 . rw [List.getElem?_take] at hu;split at hu
   . exact h.rel q (by omega) j hj u hu
   . cases hu
theorem zCF {t : TypeId} {ts : Array TypeId} {ty e : TypeId} {i : TypeInfo} (hts : ts[0]? = some t) (ht : P.underlying t = some (.slice e)) (hi : P.info? e = some i) (base : Option Addr) (n cap : Nat) {X W : Nat -> Prop} {y : Value} {m : Nat} {g : Nat -> Nat -> CV} {news : List Value} (hy : Lies r X W w y m i.size g news)
 {w' : World} (hst : ∀ ad,base = some ad -> (storeCells ad (news.take (Nat.min m n * i.size)) 0).run P w = .ok () w') (hno : base = none -> w' = w) :
 (Builtin.copy_ ts ty #[.slice base n cap,y]).run P w = .ok (.int .i64 (Nat.min m n : Nat)) w':=by
 obtain ⟨A,c,rfl,_,_⟩:=hy.shape;have hf:=zDi (P:=P) hy (w':=w) rfl (m:=Nat.min m n) (Nat.min_le_left _ _);cases base with
 | none=>
   have:=hno rfl;subst this;simp [Builtin.copy_,hts,run_underlying ht,sizeOf,typeInfo,hi,Builtin.lenOf,hf,goInt]
 | some ad=>
   have:=hst ad rfl;simp [Builtin.copy_,hts,run_underlying ht,sizeOf,typeInfo,hi,Builtin.lenOf,hf,goInt,this]
theorem zEv {t : TypeId} {ts : Array TypeId} {ty e : TypeId} {i : TypeInfo} (hts : ts[0]? = some t) (ht : P.underlying t = some (.slice e)) (hi : P.info? e = some i) (st : St cx r H w) {k b n : Nat} {et : Ent} (hk : zX H k = some et) (hsz : et.sz = i.size) {x : Value} (hx : (CV.os k b n).rel r cx.X (wr r H) w x) (hbn : b + n <= et.n)
 {y : Value} {m : Nat} {g : Nat -> Nat -> CV} {news : List Value} (hy : Lies r cx.X (wr r H) w y m i.size g news) (p : Option Prop) (rd : List Nat) :
 ∃ v w',(Builtin.copy_ ts ty #[x,y]).run P w = .ok v w' /\ zAD cx r H w nm wd ⟨p,zL (.int .i64 (Nat.min m n : Nat)),[(k,some ⟨et.t,et.n,et.sz,et.v,ovE et.f b (Nat.min m n) g⟩)],rd⟩ v w':=by
 obtain ⟨A,cap,rfl,hn,hc⟩:=hx;obtain ⟨t1,t2,t3⟩:=zFR hy (m:=Nat.min m n) (Nat.min_le_left _ _);rcases Nat.eq_zero_or_pos cap with h0 | h0
 . have hn0 : n = 0:=by omega
   subst hn0;have hm0 : Nat.min m 0 = 0:=Nat.min_eq_right (Nat.zero_le _);refine ⟨_,w,zCF hts ht hi A 0 cap hy (λad _=>?_) (λ_=>rfl),zEK st hk (λq hq j hj=>zEu (by rw [hm0];omega)) rfl (λ_ _=>rfl)⟩;rw [hm0,Nat.zero_mul,List.take_zero];rfl
 . obtain ⟨bi,hb1,rfl,hb3⟩:=hc h0;have hmn : Nat.min m n <= n:=Nat.min_le_right _ _;obtain ⟨w',s1,s2⟩:=rows_runs (P:=P) (nm:=nm) (wd:=wd) st hk hb1 (i:=b) (m:=Nat.min m n) (vs:=news.take (Nat.min m n * i.size)) (g:=g) (by omega) (by rw [hsz];exact t1) t2 (by rw [hsz];exact t3)
    (sr:=⟨p,zL (.int .i64 (Nat.min m n : Nat)),[(k,some ⟨et.t,et.n,et.sz,et.v,ovE et.f b (Nat.min m n) g⟩)],rd⟩) (v:=.int .i64 (Nat.min m n : Nat)) rfl (λ_ _=>rfl)
   exact ⟨_,w',zCF hts ht hi _ n cap hy (λad h=>by injection h with h;subst h;exact s1) (λh=>by cases h),s2⟩
theorem zEw {t : TypeId} {ts : Array TypeId} {ty e : TypeId} {i : TypeInfo} (hts : ts[0]? = some t) (ht : P.underlying t = some (.slice e)) (hi : P.info? e = some i) (h0s : 0 < i.size) (st : St cx r H w) {k b j n s : Nat} {et : Ent} (hk : zX H k = some et) (hsz : s = i.size) {x : Value} (hx : (CV.oa k b j n s).rel r cx.X (wr r H) w x) (hb : b < et.n) (hbn : j + n * s <= et.sz)
 {y : Value} {m : Nat} {g : Nat -> Nat -> CV} {news : List Value} (hy : Lies r cx.X (wr r H) w y m i.size g news) (p : Option Prop) (rd : List Nat) :
 ∃ v w',(Builtin.copy_ ts ty #[x,y]).run P w = .ok v w' /\ zAD cx r H w nm wd ⟨p,zL (.int .i64 (Nat.min m n : Nat)),[(k,some ⟨et.t,et.n,et.sz,et.v,zBW et.v et.f b (ovs (et.f b) j (Nat.min m n * s) λq=>g (q / s) (q % s))⟩)],rd⟩ v w':=by
 obtain ⟨A,cap,rfl,hn,hc⟩:=hx;obtain ⟨t1,t2,t3⟩:=zFR hy (m:=Nat.min m n) (Nat.min_le_left _ _);subst hsz;rcases Nat.eq_zero_or_pos n with h0 | h0
 . subst h0;have hm0 : Nat.min m 0 = 0:=Nat.min_eq_right (Nat.zero_le _);have hv:=(st.blk k et hk).2.1;refine ⟨_,w,zCF hts ht hi A 0 cap hy (λad _=>?_) (λ_=>rfl),zEK st hk (λq hq j' hj=>?_) rfl (λ_ _=>rfl)⟩
   . rw [hm0,Nat.zero_mul,List.take_zero];rfl
   . rw [updE_at hv hb hq,zE2];split
     . subst q;rw [ovr_out (by rw [hm0];omega)]
     . rfl
 . obtain ⟨bi,hb1,rfl⟩:=hc h0;have hmn : Nat.min m n <= n:=Nat.min_le_right _ _;have hle:=Nat.mul_le_mul_right i.size hmn;obtain ⟨w',s1,s2⟩:=zDm (P:=P) (nm:=nm) (wd:=wd) st hk hb1 (a:=b) (b:=j) (n:=Nat.min m n * i.size) (vs:=news.take (Nat.min m n * i.size)) (g:=λq=>g (q / i.size) (q % i.size)) (F:=ovs (et.f b) j (Nat.min m n * i.size) λq=>g (q / i.size) (q % i.size)) (λq _=>congrFun (zE2 _ _ _ _) q) hb (by omega) t1 t2 (λq u hu=>by
    have hq : q < Nat.min m n * i.size:=by have:=(List.getElem?_eq_some_iff.1 hu).1;omega
    refine t3 (q / i.size) ((Nat.div_lt_iff_lt_mul h0s).2 hq) (q % i.size) (Nat.mod_lt _ h0s) u ?_;rw [show q / i.size * i.size + q % i.size = q by rw [Nat.mul_comm];exact Nat.div_add_mod q i.size];exact hu)
    (sr:=⟨p,zL (.int .i64 (Nat.min m n : Nat)),[(k,some ⟨et.t,et.n,et.sz,et.v,zBW et.v et.f b (ovs (et.f b) j (Nat.min m n * i.size) λq=>g (q / i.size) (q % i.size))⟩)],rd⟩) (v:=.int .i64 (Nat.min m n : Nat)) rfl (λ_ _=>rfl)
   exact ⟨_,w',zCF hts ht hi _ n cap hy (λad h=>by injection h with h;subst h;exact s1) (λh=>by cases h),s2⟩
theorem zCG (hf : ∀ x,(ev fr x).rel r cx.X (wr r H) w (a.eval x)) {lo hi : Option Operand} {n : Nat} {p : Option Prop} {l h : Nat} (hb : bnds (lo.map (ev fr)) (hi.map (ev fr)) n = some (p,l,h)) (hp : Qh p) :
 l <= h /\ h <= n /\ ∀ (isS : Bool) (cap : Nat),n <= cap -> (Instr.sliceBounds isS n cap (lo.map a.eval) (hi.map a.eval) none).run P w = .ok (l,h,cap) w:=by
 unfold bnds at hb;split at hb
 . rename_i h1 h2;injection hb with hb;injection hb with e1 e2;injection e2 with e2 e3;subst e1 e2 e3;have hlo : lo = none:=by cases lo with | none=>rfl | some y=>cases h1
   have hhi : hi = none:=by cases hi with | none=>rfl | some y=>cases h2
   subst hlo hhi;exact ⟨Nat.zero_le _,Nat.le_refl _,λisS cap hc=>by simp [Instr.sliceBounds]⟩
 . rename_i k q h1 h2;injection hb with hb;injection hb with e1 e2;injection e2 with e2 e3;subst e1 e2 e3;have hhi : hi = none:=by cases hi with | none=>rfl | some y=>cases h2
   subst hhi;obtain ⟨y,rfl⟩ : ∃ y,lo = some y:=by cases lo with | none=>cases h1 | some y=>exact ⟨y,rfl⟩
   have hy:=hf y;simp only [Option.map_some,Option.some.injEq] at h1;rw [h1] at hy;have hyv : a.eval y = .int _ q:=hy;have hp' : 0 <= q /\ q <= (n : Int):=hp;exact ⟨by omega,Nat.le_refl _,λisS cap hc=>by simp [Instr.sliceBounds,Instr.sliceBound,hyv,asIntOf,hp']⟩
 . rename_i k q h1 h2;injection hb with hb;injection hb with e1 e2;injection e2 with e2 e3;subst e1 e2 e3;have hlo : lo = none:=by cases lo with | none=>rfl | some y=>cases h1
   subst hlo;obtain ⟨y,rfl⟩ : ∃ y,hi = some y:=by cases hi with | none=>cases h2 | some y=>exact ⟨y,rfl⟩
   have hy:=hf y;simp only [Option.map_some,Option.some.injEq] at h2;rw [h2] at hy;have hyv : a.eval y = .int _ q:=hy;have hp' : 0 <= q /\ q <= (n : Int):=hp;exact ⟨Nat.zero_le _,by omega,λisS cap hc=>by simp [Instr.sliceBounds,Instr.sliceBound,hyv,asIntOf,hp',show q <= (cap : Int) by omega]⟩
 . rename_i k q k' q' h1 h2;injection hb with hb;injection hb with e1 e2;injection e2 with e2 e3;subst e1 e2 e3;obtain ⟨y,rfl⟩ : ∃ y,lo = some y:=by cases lo with | none=>cases h1 | some y=>exact ⟨y,rfl⟩
   obtain ⟨y2,rfl⟩ : ∃ y,hi = some y:=by cases hi with | none=>cases h2 | some y=>exact ⟨y,rfl⟩
   have hy:=hf y;have hy2:=hf y2;simp only [Option.map_some,Option.some.injEq] at h1 h2;rw [h1] at hy;rw [h2] at hy2;have hyv : a.eval y = .int _ q:=hy;have hyv2 : a.eval y2 = .int _ q':=hy2;have hp' : 0 <= q /\ q <= q' /\ q' <= (n : Int):=hp;exact ⟨by omega,by omega,λisS cap hc=>by simp [Instr.sliceBounds,Instr.sliceBound,hyv,hyv2,asIntOf,show 0 <= q' by omega,show q' <= (cap : Int) by omega,hp'.1,hp'.2.1,show ¬ max q' 0 < q by omega]⟩
 . cases hb
theorem slice_ok (hT : qP P T) (st : St cx r H w) (hf : ∀ x,(ev fr x).rel r cx.X (wr r H) w (a.eval x)) {t : TypeId} {x : Operand} {lo hi : Option Operand} {sr : SR} (h : zCi T H t (ev fr x) (lo.map (ev fr)) (hi.map (ev fr)) = some sr) (hp : Qh sr.pre) :
 ∃ v,(Instr.sliceAt t (a.eval x) (lo.map a.eval) (hi.map a.eval) none).run P w = .ok v w /\ sr.eff = [] /\ sr.val.rel r cx.X (wr r H) w v:=by
 have hx:=hf x;unfold zCi at h;split at h
 . rename_i e es s0 z0 eq0 by0 sh n sz f ht hxe;rw [hxe] at hx;split at h
   . rename_i p l q hb;cases hb0 : Nat.beq sz es with
     | false=>rw [hb0] at h;cases h
     | true=>
       rw [hb0,cond_true] at h;have e1 : sz = es:=Nat.eq_of_beq_eq_true hb0;injection h with h;subst h;obtain ⟨hlq,hqn,hbb⟩:=zCG (P:=P) hf hb hp;obtain ⟨ad0,cap,hv,hnc,hc⟩:=hx;obtain ⟨d,hd,htd⟩:=(hT _ _ ht).under;obtain ⟨rfl,hes,hinf⟩:=QA htd;obtain ⟨je,hje⟩:=Option.isSome_iff_exists.1 hinf;have hjes : je.size = es:=by rw [<- hes];simp [szN,hje]
       refine ⟨.slice (if cap = l then ad0 else ad0.map (·.add (l * je.size))) (q - l) (cap - l),?_,rfl,_,_,rfl,by omega,λh0=>?_⟩
       . rw [hv];simp only [Instr.sliceAt,Sem.run_bind,run_underlying hd,Result.andThen_ok,Instr.slice,hbb true cap hnc,qg hje,Sem.run_pure]
       . obtain ⟨ad,rfl,hsp,ho,hX,hlt,hcell⟩:=hc (by omega);rw [if_neg (by omega)];refine ⟨⟨ad.block,ad.off + l * je.size,none⟩,by simp [addS hsp],rfl,ho,hX,hlt,λi hi j hj=>?_⟩;obtain ⟨u,hu,hru⟩:=hcell (l + i) (by omega) j hj;refine ⟨u,?_,hru⟩;rw [<- hu];have : ad.off + l * je.size + (i * sz + j) = ad.off + ((l + i) * sz + j):=by rw [hjes,<- e1,Nat.add_mul];omega
         simp only [this]
   . cases h
 . rename_i e es s0 z0 eq0 by0 k i n ht hxe;rw [hxe] at hx;split at h
   . rename_i p l q hb;split at h
     . rename_i et en esz ev0 ef he;cases hb0 : Nat.beq esz es with
       | false=>rw [hb0] at h;cases h
       | true=>
         rw [hb0,cond_true] at h;have e1 : esz = es:=Nat.eq_of_beq_eq_true hb0;injection h with h;subst h;obtain ⟨hlq,hqn,hbb⟩:=zCG (P:=P) hf hb hp;obtain ⟨ad0,cap,hv,hnc,hc⟩:=hx;obtain ⟨d,hd,htd⟩:=(hT _ _ ht).under;obtain ⟨rfl,hes,hinf⟩:=QA htd;obtain ⟨je,hje⟩:=Option.isSome_iff_exists.1 hinf;have hjes : je.size = es:=by rw [<- hes];simp [szN,hje]
         refine ⟨.slice (if cap = l then ad0 else ad0.map (·.add (l * je.size))) (q - l) (cap - l),?_,rfl,_,_,rfl,by omega,λh0=>?_⟩
         . rw [hv];simp only [Instr.sliceAt,Sem.run_bind,run_underlying hd,Result.andThen_ok,Instr.slice,hbb true cap hnc,qg hje,Sem.run_pure]
         . obtain ⟨x,hx,rfl,hxc⟩:=hc (by omega);have e9 : i + l + (cap - l) = x.c:=by clear hc;omega
           obtain ⟨_,_,hxs,_⟩:=Yp st he hx;simp only at hxs;refine ⟨x,hx,?_,e9⟩;rw [if_neg (by omega)];simp only [Option.map_some,zBv,Option.some.injEq,Addr.mk.injEq,true_and,and_true];rw [hxs,hjes,e1,Nat.add_mul]
     . cases h
   . cases h
 . rename_i e es s0 z0 eq0 by0 k i j n s ht hxe;rw [hxe] at hx;split at h
   . rename_i p l q hb;cases hb0 : Nat.beq s es with
     | false=>rw [hb0] at h;cases h
     | true=>
       rw [hb0,cond_true] at h;have e1 : s = es:=Nat.eq_of_beq_eq_true hb0;injection h with h;subst h;obtain ⟨hlq,hqn,hbb⟩:=zCG (P:=P) hf hb hp;obtain ⟨ad0,cap,hv,hnc,hc⟩:=hx;obtain ⟨d,hd,htd⟩:=(hT _ _ ht).under;obtain ⟨rfl,hes,hinf⟩:=QA htd;obtain ⟨je,hje⟩:=Option.isSome_iff_exists.1 hinf;have hjes : je.size = es:=by rw [<- hes];simp [szN,hje]
       refine ⟨.slice (if cap = l then ad0 else ad0.map (·.add (l * je.size))) (q - l) (cap - l),?_,rfl,_,_,rfl,by omega,λh0=>?_⟩
       . rw [hv];simp only [Instr.sliceAt,Sem.run_bind,run_underlying hd,Result.andThen_ok,Instr.slice,hbb true cap hnc,qg hje,Sem.run_pure]
       . obtain ⟨x,hx,rfl⟩:=hc (by omega);refine ⟨x,hx,?_⟩;rw [if_neg (by omega)];simp only [Option.map_some,zBv,Option.some.injEq,Addr.mk.injEq,true_and,and_true];rw [hjes,e1];omega
   . cases h
 . rename_i n el es ea s1 z1 eq1 by1 k i j sym ht hxe;rw [hxe] at hx;split at h
   . rename_i p l q hb;cases hb0 : Nat.blt 0 es with
     | false=>rw [hb0] at h;cases h
     | true=>
       rw [hb0,cond_true] at h;have e0:=QY hb0;injection h with h;subst h;obtain ⟨hlq,hqn,hbb⟩:=zCG (P:=P) hf hb hp;obtain ⟨x,hx,hv⟩:=hx;obtain ⟨d2,hd2,htd2⟩:=(hT _ _ ht).under;obtain ⟨rfl,hes,_⟩:=zBV htd2;obtain ⟨je,hje,hjes⟩:=QZ hes e0;refine ⟨.slice (some (if n = l then ⟨x.b,i * x.sz + j,none⟩ else (⟨x.b,i * x.sz + j,none⟩ : Addr).add (l * je.size))) (q - l) (n - l),?_,rfl,_,_,rfl,by omega,λh0=>?_⟩
       . rw [hv];simp only [Instr.sliceAt,Sem.run_bind,run_underlying hd2,Result.andThen_ok,Instr.sureAddr,hbb false n (Nat.le_refl _),qg hje,Sem.run_pure]
       . refine ⟨x,hx,?_⟩;rw [if_neg (by omega),zBv,hjes,Nat.add_assoc]
   . cases h
 . rename_i n el es ea s1 z1 eq1 by1 sh m g ht hxe;rw [hxe] at hx;split at h
   . rename_i p l q hb;cases hb0 : Nat.blt 0 es with
     | false=>rw [hb0] at h;cases h
     | true=>
       rw [hb0,cond_true] at h;have e0:=QY hb0;injection h with h;subst h;obtain ⟨hp1,hp2⟩:=YV.1 hp;have e1 : n * es <= m:=hp2;obtain ⟨hlq,hqn,hbb⟩:=zCG (P:=P) hf hb hp1;obtain ⟨b,off,hv,ho,hX,hlt,hc⟩:=zDK hx;obtain ⟨d2,hd2,htd2⟩:=(hT _ _ ht).under;obtain ⟨rfl,hes,_⟩:=zBV htd2;obtain ⟨je,hje,hjes⟩:=QZ hes e0;refine ⟨.slice (some (if n = l then ⟨b,off,none⟩ else (⟨b,off,none⟩ : Addr).add (l * je.size))) (q - l) (n - l),?_,rfl,_,_,rfl,by omega,λh0=>?_⟩
       . rw [hv];simp only [Instr.sliceAt,Sem.run_bind,run_underlying hd2,Result.andThen_ok,Instr.sureAddr,hbb false n (Nat.le_refl _),qg hje,Sem.run_pure]
       . refine ⟨⟨b,off + l * es,none⟩,?_,rfl,ho,hX,hlt,λi hi j hj=>?_⟩
         . rw [if_neg (by omega),zBv,hjes]
         . have hlt2 : (l + i) * es + j < m:=by
            have:=Qd (sz:=es) (show l + i < n by omega);omega
           obtain ⟨u,hu,hr⟩:=hc ((l + i) * es + j) hlt2;refine ⟨u,?_,hr⟩;rw [<- hu];have : off + l * es + (i * es + j) = off + ((l + i) * es + j):=by rw [Nat.add_mul];omega
           simp only [this]
   . cases h
 . cases h
end
section
variable {P : Program} {cx : Cx} {r : QK} {H : Hp} {w : World} {T : YU} {fr : Fr} {a : Act} {nm wd : Nat}
theorem zFN (p : Nat -> Bool) : ∀ (n i : Nat),i <= qN p n i /\ qN p n i <= i + n:=by
 intro n;induction n with
 | zero=>intro i;exact ⟨Nat.le_refl _,Nat.le_refl _⟩
 | succ n ih=>
   intro i;show i <= (bif p i then i else qN p n (i + 1)) /\ (bif p i then i else qN p n (i + 1)) <= i + (n + 1);cases p i with
   | true=>exact ⟨Nat.le_refl _,by show i <= i + (n + 1);omega⟩
   | false=>have:=ih (i + 1);exact ⟨by show i <= qN p n (i + 1);omega,by show qN p n (i + 1) <= _;omega⟩
theorem key_find {k : TypeId} {kind : IntKind} (hk : P.underlying k = some (.int kind)) (w : World) (g : Nat -> CV) (x : Value) {X W : Nat -> Prop} (f : Nat -> Nat -> CV) (hx : (g 0).rel r X W w x) :
 ∀ (es : List MapEntry) (i : Nat),(∀ (j : Nat) m,es[j]? = some m -> (f (i + j) 0).rel r X W w m.key) -> (∀ j,j < es.length -> Zw g (f (i + j)) [false] 0 = true) -> (∃ q,g 0 = .int kind q) ->
   ∃ o,Instr.findNow (.int kind) x es i = some o /\ (qN (λi=>ZF g (f i) 1 0) es.length i = i + es.length /\ o = none \/ ∃ j m,es[j]? = some m /\ qN (λi=>ZF g (f i) 1 0) es.length i = i + j /\ j < es.length /\ o = some (i + j,m.val) /\ m.key = x):=by
 intro es;induction es with
 | nil=>intro i _ _ _;exact ⟨none,rfl,.inl ⟨rfl,rfl⟩⟩
 | cons e es ih=>
   intro i hes hok hg;obtain ⟨q,hq⟩:=hg;have hx' : x = .int kind q:=by rw [hq] at hx;exact hx
   have h0:=hes 0 e rfl;have ok0:=hok 0 (by simp);rw [Nat.add_zero] at h0 ok0;have hok0 : zAY false (g 0) (f i 0) = true:=by
    have : (zAY false (g 0) (f i 0) && Zw g (f i) [] 1) = true:=ok0;rw [Bool.and_eq_true] at this;exact this.1
   obtain ⟨kk,a,b,e1,e2⟩:=zAX hok0;rw [hq] at e1;injection e1 with e1 e1';subst e1 e1';have hkey : e.key = .int kind b:=by rw [e2] at h0;exact h0
   have hsame : Instr.sameNow (.int kind) x e.key = some (q == b):=by
    rw [hx',hkey];simp [Instr.sameNow]
   have hp : ZF g (f i) 1 0 = (q == b):=by
    show (zA5 (g 0) (f i 0) && true) = _;rw [hq,e2,Bool.and_true];rfl
   show ∃ o,(match Instr.sameNow (.int kind) x e.key with
    | some true=>some (some (i,e.val))
    | some false=>Instr.findNow (.int kind) x es (i + 1)
    | none=>none) = some o /\ _
   rw [hsame];cases hqb : (q == b) with
   | true=>
     refine ⟨some (i,e.val),rfl,.inr ⟨0,e,rfl,?_,by simp,by simp,?_⟩⟩
     . show (bif ZF g (f i) 1 0 then i else _) = _;rw [hp,hqb];rfl
     . rw [hx',hkey,(beq_iff_eq.1 hqb)]
   | false=>
     obtain ⟨o,h1,h2⟩:=ih (i + 1) (λj m hm=>by have:=hes (j + 1) m hm;rwa [show i + (j + 1) = i + 1 + j by omega] at this) (λj hj=>by have:=hok (j + 1) (by simp;omega);rwa [show i + (j + 1) = i + 1 + j by omega] at this) ⟨q,hq⟩;refine ⟨o,h1,?_⟩;have hfi : qN (λi=>ZF g (f i) 1 0) (e :: es).length i = qN (λi=>ZF g (f i) 1 0) es.length (i + 1):=by
      show (bif ZF g (f i) 1 0 then i else _) = _;rw [hp,hqb];rfl
     rw [hfi];rcases h2 with ⟨h2,h3⟩ | ⟨j,m,h3,h4,h5,h6,h7⟩
     . exact .inl ⟨by rw [h2];simp;omega,h3⟩
     . exact .inr ⟨j + 1,m,h3,by rw [h4];omega,by simp;omega,by rw [h6,show i + (j + 1) = i + 1 + j by omega],h7⟩
theorem key_ask {k : TypeId} {l : List Bool} (heq : eqT P 6 k = some l) (hagg : (P.underlying k).map qe = some true) (w : World) (g : Nat -> CV) (xs : Array Value) (hxs : xs.size = l.length) {X W : Nat -> Prop} (f : Nat -> Nat -> CV) (hx : ∀ i u,xs[i]? = some u -> (g i).rel r X W w u) :
 ∀ (es : List MapEntry) (i : Nat),(∀ (j : Nat) m,es[j]? = some m -> ∃ ys,m.key = .agg ys /\ ys.size = l.length /\ ∀ i' u,ys[i']? = some u -> (f (i + j) i').rel r X W w u) -> (∀ j,j < es.length -> Zw g (f (i + j)) l 0 = true) ->
   ∃ o,(Instr.findAsking k (.agg xs) es i).run P w = .ok o w /\ (qN (λi=>ZF g (f i) l.length 0) es.length i = i + es.length /\ o = none \/ ∃ j m,es[j]? = some m /\ qN (λi=>ZF g (f i) l.length 0) es.length i = i + j /\ j < es.length /\ o = some (i + j,m.val) /\ ZF g (f (i + j)) l.length 0 = true):=by
 intro es;induction es with
 | nil=>intro i _ _;exact ⟨none,rfl,.inl ⟨rfl,rfl⟩⟩
 | cons e es ih=>
   intro i hes hok;obtain ⟨ys,hk,hys,hyr⟩:=hes 0 e rfl;have ok0:=hok 0 (by simp);rw [Nat.add_zero] at ok0 hyr;have hrun : (Op.equal k (.agg xs) e.key).run P w = .ok (ZF g (f i) l.length 0) w:=by
    rw [hk];exact zER w heq hagg hxs hys hx hyr ok0
   cases hqb : ZF g (f i) l.length 0 with
   | true=>
     rw [hqb] at hrun;refine ⟨some (i,e.val),by simp [Instr.findAsking,hrun],.inr ⟨0,e,rfl,?_,by simp,by simp,by rw [Nat.add_zero];exact hqb⟩⟩;show (bif ZF g (f i) l.length 0 then i else _) = _;rw [hqb];rfl
   | false=>
     rw [hqb] at hrun;obtain ⟨o,h1,h2⟩:=ih (i + 1) (λj m hm=>by have:=hes (j + 1) m hm;rwa [show i + (j + 1) = i + 1 + j by omega] at this) (λj hj=>by have:=hok (j + 1) (by simp;omega);rwa [show i + (j + 1) = i + 1 + j by omega] at this);refine ⟨o,by simp [Instr.findAsking,hrun,h1],?_⟩;have hfi : qN (λi=>ZF g (f i) l.length 0) (e :: es).length i = qN (λi=>ZF g (f i) l.length 0) es.length (i + 1):=by
      show (bif ZF g (f i) l.length 0 then i else _) = _;rw [hqb];rfl
     rw [hfi];rcases h2 with ⟨h2,h3⟩ | ⟨j,m,h3,h4,h5,h6,h7⟩
     . exact .inl ⟨by rw [h2];simp;omega,h3⟩
     . exact .inr ⟨j + 1,m,h3,by rw [h4];omega,by simp;omega,by rw [h6,show i + (j + 1) = i + 1 + j by omega],by rw [show i + (j + 1) = i + 1 + j by omega];exact h7⟩
theorem YI {α : Type} {c : Bool} {a b : α} (h : (bif c then some a else none) = some b) : c = true /\ a = b:=by
 cases c with
 | true=>exact ⟨rfl,by injection h⟩
 | false=>cases h
theorem zDg {X W X' W' : Nat -> Prop} {f g : Nat -> CV} : ∀ (l : List Bool) (off : Nat),Zw f g l off = true -> ZF f g l.length off = true -> ∀ i,off <= i -> i < off + l.length -> ∀ u v,(f i).rel r X W w u -> (g i).rel r X' W' w v -> u = v /\ ((∃ k n,u = .int k n) \/ ∃ b,u = .bool b):=by
 intro l;induction l with
 | nil=>intro off _ _ i h1 h2;simp at h2;omega
 | cons b l ih=>
   intro off ho he i h1 h2 u v hu hv;have ho' : (zAY b (f off) (g off) && Zw f g l (off + 1)) = true:=ho;have he' : (zA5 (f off) (g off) && ZF f g l.length (off + 1)) = true:=he;rw [Bool.and_eq_true] at ho' he';by_cases hi : i = off
   . subst hi;cases b with
     | false=>
       obtain ⟨k,x,y,e1,e2⟩:=zAX ho'.1;rw [e1] at hu;rw [e2] at hv;have h3:=he'.1;rw [e1,e2] at h3;have h3 : x = y:=beq_iff_eq.1 h3;have hu : u = .int k x:=hu;have hv : v = .int k y:=hv;exact ⟨by rw [hu,hv,h3],.inl ⟨k,x,hu⟩⟩
     | true=>
       obtain ⟨x,y,e1,e2⟩:=zBU ho'.1;rw [e1] at hu;rw [e2] at hv;have h3:=he'.1;rw [e1,e2] at h3;have h3 : x = y:=beq_iff_eq.1 h3;have hu : u = .bool x:=hu;have hv : v = .bool y:=hv;exact ⟨by rw [hu,hv,h3],.inr ⟨x,hu⟩⟩
   . exact ih (off + 1) ho'.2 he'.2 i (by omega) (by simp at h2;omega) u v hu hv
theorem zEH {v : Value} (h : (∃ k n,v = .int k n) \/ ∃ b,v = .bool b) (n : Nat) : Instr.sameBits n v v = true:=by
 rcases h with ⟨k,m,rfl⟩ | ⟨b,rfl⟩<;>simp [Instr.sameBits]
theorem same_agg {xs : Array Value} (h : ∀ (i : Nat) (u : Value),xs[i]? = some u -> (∃ k n,u = Value.int k n) \/ ∃ b,u = Value.bool b) : Instr.sameBits 10000 (.agg xs) (.agg xs) = true:=by
 show Instr.sameBits (9999 + 1) (.agg xs) (.agg xs) = true;simp only [Instr.sameBits,beq_self_eq_true,Bool.true_and,List.all_eq_true];intro p hp;obtain ⟨i,hi,rfl⟩:=List.mem_iff_getElem.1 hp;rw [List.getElem_zip];simp only [Array.getElem_toList];refine zEH (h i _ (Array.getElem?_eq_getElem (by simp at hi;omega))) _
theorem stays {v : Value} (h : Instr.sameBits 10000 v v = true) : (Instr.keyThatStays v v).run P w = .ok v w:=by
 unfold Instr.keyThatStays;rw [if_pos h];rfl
theorem check_arr {k e : TypeId} {n : Nat} {kd : IntKind} (hk : P.underlying k = some (.array n e)) (he : P.underlying e = some (.int kd)) (hs : szN P e = 1) {xs : Array Value} (hx : xs.size = n) (b : Bool) : (Instr.checkKey b 10000 k (.agg xs)).run P w = .ok () w:=by
 obtain ⟨i,hi,hsz⟩:=QZ hs (by decide);show (Instr.checkKey b (9999 + 1) k (.agg xs)).run P w = .ok () w;rw [Instr.checkKey];simp only [Sem.run_bind,run_underlying hk,Result.andThen_ok];simp only [Std.Legacy.Range.forIn_eq_forIn_range',Std.Legacy.Range.size,Nat.sub_zero,Nat.add_one_sub_one,Nat.div_one];have each : ∀ j ∈ List.range' 0 n,j < n:=λj hj=>by
  have:=List.mem_range'.1 hj;omega
 generalize List.range' 0 n = is at each;induction is with
 | nil=>simp
 | cons j is ih=>
   have hj:=each j (by simp);have hp : (part e xs (j * i.size)).run P w = .ok xs[j] w:=by
    rw [hsz,Nat.mul_one];exact YS he rfl (Array.getElem?_eq_getElem (by omega))
   have hc : ∀ v : Value,(Instr.checkKey b 9999 e v).run P w = .ok () w:=λv=>by
    show (Instr.checkKey b (9998 + 1) e v).run P w = .ok () w;rw [Instr.checkKey];simp only [Sem.run_bind,run_underlying he,Result.andThen_ok];cases v<;>rfl
   simp only [List.forIn_cons,Sem.run_bind,qg hi,Result.andThen_ok,hp,hc,Sem.run_pure];exact ih λy hy=>each y (by simp [hy])
theorem key_at (hT : qP P T) {k : TypeId} {ka : Option Bool} {x : FV} {kn : Nat} {l : List Bool} {g : Nat -> CV} {v : Value} {X W : Nat -> Prop} (h : keyOk T k ka x = some (kn,l,g)) (hka : (P.underlying k).map qe = ka) (hx : x.rel r X W w v) :
 l.length = kn /\ 0 < kn /\ (∀ b,(Instr.checkKey b 10000 k v).run P w = .ok () w) /\
 ((ka = some false /\ kn = 1 /\ l = [false] /\ (g 0).rel r X W w v /\ ∃ kind q,P.underlying k = some (.int kind) /\ g 0 = .int kind q /\ v = .int kind q) \/
  (ka = some true /\ ∃ xs,v = .agg xs /\ xs.size = kn /\ eqT P 6 k = some l /\ (∃ d,P.underlying k = some d /\ qe d = true /\ ∀ kind,d ≠ .int kind) /\ ∀ i u,xs[i]? = some u -> (g i).rel r X W w u)):=by
 unfold keyOk at h;split at h
 . rename_i q a;split at h
   . rename_i q' _ _ _ _ hTk;obtain ⟨hq,h⟩:=YI h;injection h with h1 h2;injection h2 with h2 h3;subst h1 h2 h3;obtain ⟨d,hd,htd⟩:=(hT k _ hTk).under;have:=zE1 htd;subst this;have hq : q = q':=by simpa [YR] using hq
     subst hq;have hv : v = .int q a:=hx;subst hv;refine ⟨rfl,by decide,λb=>?_,.inl ⟨rfl,rfl,rfl,rfl,q,a,hd,rfl,rfl⟩⟩;show (Instr.checkKey b (9999 + 1) k _).run P w = .ok () w;rw [Instr.checkKey];simp only [Sem.run_bind,run_underlying hd,Result.andThen_ok];rfl
   . cases h
 . rename_i n g0;split at h
   . rename_i m e _ _ l0 _ hTk;split at h
     . rename_i kd _ _ _ _ hTe;obtain ⟨hq,h⟩:=YI h;injection h with h1 h2;injection h2 with h2 h3;subst h1 h2 h3;simp only [Bool.and_eq_true] at hq;have q1:=zCK hq.1.1;have q2:=Nat.eq_of_beq_eq_true hq.1.2;have q3:=Nat.eq_of_beq_eq_true hq.2;obtain ⟨d,hd,htd⟩:=(hT k _ hTk).under;obtain ⟨rfl,hs,hea⟩:=zBV htd;obtain ⟨d',hd',htd'⟩:=(hT e _ hTe).under;have:=zE1 htd';subst this;obtain ⟨xs,rfl,hxn,hxc⟩:=hx;have hck:=(hT k _ hTk).2.2;have hne : l0.isEmpty = false:=by cases l0 with | nil=>simp at q1 | cons a l=>rfl
       simp only [hne,Bool.false_or,Bool.and_eq_true,beq_iff_eq,Bool.not_eq_true'] at hck;refine ⟨q2.symm,by omega,λb=>check_arr hd hd' hs (by omega) b,.inr ⟨rfl,xs,rfl,hxn,hck.1.1,⟨_,hd,rfl,λkind h=>by cases h⟩,hxc⟩⟩
     . cases h
   . cases h
 . cases h
theorem map_find {k : TypeId} {kn : Nat} {l : List Bool} {g : Nat -> CV} {v : Value} {X W : Nat -> Prop} {ka : Option Bool} (hln : l.length = kn)
 (hkey : (ka = some false /\ kn = 1 /\ l = [false] /\ (g 0).rel r X W w v /\ ∃ kind q,P.underlying k = some (.int kind) /\ g 0 = .int kind q /\ v = .int kind q) \/
  (ka = some true /\ ∃ xs,v = .agg xs /\ xs.size = kn /\ eqT P 6 k = some l /\ (∃ d,P.underlying k = some d /\ qe d = true /\ ∀ kind,d ≠ .int kind) /\ ∀ i u,xs[i]? = some u -> (g i).rel r X W w u))
 {f : Nat -> Nat -> CV} {es : Array MapEntry} {n : Nat} (hn : es.size = n) (hes : ∀ (i : Nat) m,es[i]? = some m -> (zAb (ka.getD false) kn 0 (f i)).rel r X W w m.key) (hok : ∀ i,i < n -> Zw g (f i) l 0 = true) :
 ∃ o,(Instr.findKey k v es.toList).run P w = .ok o w /\ (qN (λi=>ZF g (f i) kn 0) n 0 = n /\ o = none \/ ∃ m,es[qN (λi=>ZF g (f i) kn 0) n 0]? = some m /\ qN (λi=>ZF g (f i) kn 0) n 0 < n /\ o = some (qN (λi=>ZF g (f i) kn 0) n 0,m.val) /\ m.key = v /\ Instr.sameBits 10000 v v = true):=by
 have hlen : es.toList.length = n:=by simpa using hn
 rcases hkey with ⟨hka,h1,h2,h3,kind,q,h4,h5,h6⟩ | ⟨hka,xs,h1,h2,h3,⟨d,hd,hda,hdi⟩,h5⟩
 . subst h1 h2 hka;obtain ⟨o,g1,g2⟩:=key_find (r:=r) h4 w g v f h3 es.toList 0 (λj m hm=>by
    have:=hes j m (by simpa using hm);rw [Nat.zero_add];exact this) (λj hj=>by rw [Nat.zero_add];exact hok j (by omega)) ⟨q,h5⟩
   rw [hlen] at g2;refine ⟨o,by simp [Instr.findKey,run_underlying h4,g1],?_⟩;rcases g2 with ⟨g2,g3⟩ | ⟨j,m,g3,g4,g5,g6,g7⟩
   . exact .inl ⟨by rw [Nat.zero_add] at g2;exact g2,g3⟩
   . rw [Nat.zero_add] at g4 g6;rw [g4];exact .inr ⟨m,by simpa using g3,by omega,g6,g7,by rw [h6];exact zEH (.inl ⟨_,_,rfl⟩) _⟩
 . subst h1 hka;have hall : ∀ (j : Nat) m,es.toList[j]? = some m -> ∃ ys,m.key = .agg ys /\ ys.size = l.length /\ ∀ i' u,ys[i']? = some u -> (f (0 + j) i').rel r X W w u:=λj m hm=>by
    obtain ⟨ys,e1,e2,e3⟩:=hes j m (by simpa using hm);rw [Nat.zero_add];refine ⟨ys,e1,by omega,λi' u hu=>?_⟩;have:=e3 i' u hu;simp only [Nat.zero_add] at this;exact this
   obtain ⟨o,g1,g2⟩:=key_ask (r:=r) h3 (by rw [hd];simp [hda]) w g xs (by omega) f h5 es.toList 0 hall (λj hj=>by rw [Nat.zero_add];exact hok j (by omega));rw [hlen,hln] at g2;refine ⟨o,?_,?_⟩
   . unfold Instr.findKey;simp only [Sem.run_bind,run_underlying hd,Result.andThen_ok];cases hle : es.toList with
     | nil=>
       rw [hle] at g1;exact g1
     | cons e0 es0=>
       rw [hle] at g1;have : Instr.sameNow d (.agg xs) e0.key = none:=by
        cases d<;>first | rfl | cases hda
       simp only [Instr.findNow,this];exact g1
   rcases g2 with ⟨g2,g3⟩ | ⟨j,m,g3,g4,g5,g6,g7⟩
   . exact .inl ⟨by rw [Nat.zero_add] at g2;exact g2,g3⟩
   . rw [Nat.zero_add] at g4 g6 g7;rw [g4];obtain ⟨ys,e1,e2,e3⟩:=hall j m g3;have hcell:=λi (hi : i < kn) (u w' : Value) (hu : xs[i]? = some u) (hw : ys[i]? = some w')=>zDg (r:=r) (w:=w) (X:=X) (W:=W) (X':=X) (W':=W) l 0 (hok j (by omega)) (by rw [hln];exact g7) i (Nat.zero_le _) (by omega) u w' (h5 i u hu) (by have:=e3 i w' hw;simp only [Nat.zero_add] at this;exact this);have hxy : xs = ys:=by
      apply Array.ext
      . omega
      . intro i hi1 hi2;exact (hcell i (by omega) _ _ (Array.getElem?_eq_getElem hi1) (Array.getElem?_eq_getElem hi2)).1
     refine .inr ⟨m,by simpa using g3,by omega,g6,by rw [e1,hxy],same_agg λi u hu=>?_⟩;have hi : i < xs.size:=(Array.getElem?_eq_some_iff.1 hu).1;exact (hcell i (by omega) _ _ hu (Array.getElem?_eq_getElem (by omega))).2
theorem zFO (p : Nat -> Bool) : ∀ (n s : Nat),qN p n s < s + n -> p (qN p n s) = true:=by
 intro n;induction n with
 | zero=>intro s h;exact absurd h (Nat.lt_irrefl _)
 | succ n ih=>
   intro s h;have e : qN p (n + 1) s = (bif p s then s else qN p n (s + 1)):=rfl;rw [e] at h ⊢;cases hp : p s with
   | true=>exact hp
   | false=>rw [hp] at h;exact ih (s + 1) (by have : qN p n (s + 1) < s + (n + 1):=h;omega)
theorem zEI (p : Nat -> Bool) : ∀ (n s i : Nat),s <= i -> i < s + n -> p i = true -> qN p n s < s + n:=by
 intro n;induction n with
 | zero=>intro s i h1 h2;omega
 | succ n ih=>
   intro s i h1 h2 hi;have e : qN p (n + 1) s = (bif p s then s else qN p n (s + 1)):=rfl;rw [e];cases hp : p s with
   | true=>show s < _;omega
   | false=>
     have hne : i ≠ s:=λh=>by rw [h,hp] at hi;cases hi
     have:=ih (s + 1) i (by omega) (by omega) hi;show qN p n (s + 1) < _;omega
theorem zDh (p : Nat -> Bool) (n : Nat) (h : ∀ i,i < n -> p i = false) : qN p n 0 = n:=by
 have h1:=zFN p n 0;rcases Nat.lt_or_ge (qN p n 0) n with h2 | h2
 . have:=zFO p n 0 (by omega);rw [h _ h2] at this;cases this
 . omega
theorem cells_eq {X W X' W' : Nat -> Prop} {f g : Nat -> CV} {xs : Array Value} (hf : ∀ (i : Nat) u,xs[i]? = some u -> (f i).rel r X W w u) (hg : ∀ (i : Nat) u,xs[i]? = some u -> (g i).rel r X' W' w u) : ∀ (l : List Bool) (off : Nat),Zw f g l off = true -> off + l.length <= xs.size -> ZF f g l.length off = true:=by
 intro l;induction l with
 | nil=>intro off _ _;rfl
 | cons b l ih=>
   intro off ho hle;have ho' : (zAY b (f off) (g off) && Zw f g l (off + 1)) = true:=ho;rw [Bool.and_eq_true] at ho';show (zA5 (f off) (g off) && ZF f g l.length (off + 1)) = true;rw [ih (off + 1) ho'.2 (by simp at hle;omega),Bool.and_true];have hlt : off < xs.size:=by simp at hle;omega
   have h1:=hf off _ (Array.getElem?_eq_getElem hlt);have h2:=hg off _ (Array.getElem?_eq_getElem hlt);cases b with
   | false=>
     obtain ⟨k,x,y,e1,e2⟩:=zAX ho'.1;rw [e1] at h1;rw [e2] at h2;have h1 : xs[off] = .int k x:=h1;have h2 : xs[off] = .int k y:=h2;rw [h1] at h2;injection h2 with _ h2;rw [e1,e2,h2];exact beq_self_eq_true y
   | true=>
     obtain ⟨x,y,e1,e2⟩:=zBU ho'.1;rw [e1] at h1;rw [e2] at h2;have h1 : xs[off] = .bool x:=h1;have h2 : xs[off] = .bool y:=h2;rw [h1] at h2;injection h2 with h2;rw [e1,e2,h2];exact beq_self_eq_true y
theorem key_iff {k : TypeId} {kn : Nat} {l : List Bool} {g : Nat -> CV} {v : Value} {X W : Nat -> Prop} {ka : Option Bool} (hln : l.length = kn)
 (hkey : (ka = some false /\ kn = 1 /\ l = [false] /\ (g 0).rel r X W w v /\ ∃ kind q,P.underlying k = some (.int kind) /\ g 0 = .int kind q /\ v = .int kind q) \/
  (ka = some true /\ ∃ xs,v = .agg xs /\ xs.size = kn /\ eqT P 6 k = some l /\ (∃ d,P.underlying k = some d /\ qe d = true /\ ∀ kind,d ≠ .int kind) /\ ∀ i u,xs[i]? = some u -> (g i).rel r X W w u))
 {f : Nat -> CV} {m : MapEntry} (hm : (zAb (ka.getD false) kn 0 f).rel r X W w m.key) (hok : Zw g f l 0 = true) : ZF g f kn 0 = true ↔ m.key = v:=by
 rcases hkey with ⟨hka,h1,h2,h3,kind,q,h4,h5,h6⟩ | ⟨hka,xs,h1,h2,h3,_,h5⟩
 . subst h1 h2 hka;have hok0 : zAY false (g 0) (f 0) = true:=by
    have : (zAY false (g 0) (f 0) && Zw g f [] 1) = true:=hok;rw [Bool.and_eq_true] at this;exact this.1
   obtain ⟨kk,a,b,e1,e2⟩:=zAX hok0;rw [h5] at e1;injection e1 with e1 e1';subst e1 e1';have hm : (f 0).rel r X W w m.key:=hm;rw [e2] at hm;have hm : m.key = .int kind b:=hm;have e : ZF g f 1 0 = (q == b):=by
    show (zA5 (g 0) (f 0) && true) = _;rw [h5,e2,Bool.and_true];rfl
   rw [e,hm,h6,beq_iff_eq];constructor
   . intro h;rw [h]
   . intro h;injection h with _ h;exact h.symm
 . subst h1 hka;obtain ⟨ys,e1,e2,e3⟩:=hm;have e3 : ∀ (i : Nat) u,ys[i]? = some u -> (f i).rel r X W w u:=λi u hu=>by
    have:=e3 i u hu;simp only [Nat.zero_add] at this;exact this
   constructor
   . intro h;have hxy : xs = ys:=by
      apply Array.ext
      . omega
      . intro i hi1 hi2;exact (zDg (r:=r) (w:=w) l 0 hok (by rw [hln];exact h) i (Nat.zero_le _) (by omega) _ _ (h5 i _ (Array.getElem?_eq_getElem hi1)) (e3 i _ (Array.getElem?_eq_getElem hi2))).1
     rw [e1,hxy]
   . intro h;rw [e1] at h;injection h with h;subst h;have:=cells_eq (r:=r) (w:=w) h5 e3 l 0 hok (by omega);rw [hln] at this;exact this
theorem zEJ {k : TypeId} {kn : Nat} {l : List Bool} {g : Nat -> CV} {v : Value} {X W : Nat -> Prop} {ka : Option Bool} (hln : l.length = kn)
 (hkey : (ka = some false /\ kn = 1 /\ l = [false] /\ (g 0).rel r X W w v /\ ∃ kind q,P.underlying k = some (.int kind) /\ g 0 = .int kind q /\ v = .int kind q) \/
  (ka = some true /\ ∃ xs,v = .agg xs /\ xs.size = kn /\ eqT P 6 k = some l /\ (∃ d,P.underlying k = some d /\ qe d = true /\ ∀ kind,d ≠ .int kind) /\ ∀ i u,xs[i]? = some u -> (g i).rel r X W w u))
 {f : Nat -> Nat -> CV} {es : Array MapEntry} {n : Nat} (hn : es.size = n) {π ρ : Nat -> Nat} (p1 : ∀ i,i < n -> π i < n /\ ρ (π i) = i) (p2 : ∀ k,k < n -> ρ k < n /\ π (ρ k) = k) (hdis : ∀ (i j : Nat) m m',es[i]? = some m -> es[j]? = some m' -> m.key = m'.key -> i = j)
 (hes : ∀ (i : Nat) m,es[i]? = some m -> (zAb (ka.getD false) kn 0 (f (π i))).rel r X W w m.key) (hok : ∀ i,i < n -> Zw g (f i) l 0 = true) :
 ∃ o,(Instr.findKey k v es.toList).run P w = .ok o w /\ ((qN (λi=>ZF g (f i) kn 0) n 0 = n /\ o = none /\ ∀ (i : Nat) m,es[i]? = some m -> m.key ≠ v) \/
   ∃ (j : Nat) (m : MapEntry),es[j]? = some m /\ π j = qN (λi=>ZF g (f i) kn 0) n 0 /\ qN (λi=>ZF g (f i) kn 0) n 0 < n /\ o = some (j,m.val) /\ m.key = v /\ Instr.sameBits 10000 v v = true):=by
 have hlt : ∀ (i : Nat) m,es[i]? = some m -> i < n:=λi m hm=>by rw [<- hn];exact (Array.getElem?_eq_some_iff.1 hm).1
 have hiff : ∀ (i : Nat) m,es[i]? = some m -> (ZF g (f (π i)) kn 0 = true ↔ m.key = v):=λi m hm=>key_iff (r:=r) (w:=w) hln hkey (hes i m hm) (hok _ (p1 i (hlt i m hm)).1);obtain ⟨o,o1,o2⟩:=map_find (r:=r) (w:=w) hln hkey (f:=λi=>f (π i)) hn hes (λi hi=>hok _ (p1 i hi).1);refine ⟨o,o1,?_⟩;rcases o2 with ⟨h1,h2⟩ | ⟨m,h1,h2,h3,h4,h5⟩
 . have hno : ∀ i,i < n -> ZF g (f (π i)) kn 0 = false:=λi hi=>by
    cases hb : ZF g (f (π i)) kn 0 with
    | false=>rfl
    | true=>
      have:=zEI (λi=>ZF g (f (π i)) kn 0) n 0 i (Nat.zero_le _) (by omega) hb;omega
   refine .inl ⟨zDh _ _ λk hk=>?_,h2,λi m hm h=>?_⟩
   . have:=hno (ρ k) (p2 k hk).1;rw [(p2 k hk).2] at this;exact this
   . have:=(hiff i m hm).2 h;rw [hno i (hlt i m hm)] at this;cases this
 . obtain ⟨j,hj⟩ : ∃ j,qN (λi=>ZF g (f (π i)) kn 0) n 0 = j:=⟨_,rfl⟩;rw [hj] at h1 h2 h3;have ht:=(hiff j m h1).2 h4;have hf:=zEI (λi=>ZF g (f i) kn 0) n 0 (π j) (Nat.zero_le _) (by have:=(p1 j h2).1;omega) ht;have hfa:=zFO (λi=>ZF g (f i) kn 0) n 0 hf;obtain ⟨fi,hfi⟩ : ∃ fi,qN (λi=>ZF g (f i) kn 0) n 0 = fi:=⟨_,rfl⟩;rw [hfi] at hf hfa ⊢;have hfn : fi < n:=by omega
   obtain ⟨q1,q2⟩:=p2 fi hfn;have hm2 : es[ρ fi]? = some (es[ρ fi]'(by omega)):=Array.getElem?_eq_getElem (by omega);have hk2:=(hiff (ρ fi) _ hm2).1 (by rw [q2];exact hfa);have:=hdis _ _ _ _ hm2 h1 (hk2.trans h4.symm);exact .inr ⟨j,m,h1,by rw [<- this,q2],hfn,h3,h4,h5⟩
theorem zCf {ks : Nat} {ka va : Bool} : mkS (Za ks ka va) = ks /\ mkA (Za ks ka va) = ka /\ mvA (Za ks ka va) = va:=by
 have h : ∀ a b : Nat,a < 2 -> b < 2 -> mkS (4 * ks + 2 * a + b) = ks /\ (4 * ks + 2 * a + b) / 2 % 2 = a /\ (4 * ks + 2 * a + b) % 2 = b:=λa b ha hb=>by
  unfold mkS;refine ⟨?_,?_,?_⟩<;>omega
 cases ka<;>cases va
 . obtain ⟨h1,h2,h3⟩:=h 0 0 (by decide) (by decide);exact ⟨h1,by unfold mkA;show Nat.beq ((4 * ks + 0 + 0) / 2 % 2) 1 = false;rw [show (4 * ks + 0 + 0) / 2 % 2 = 0 from h2];rfl,by unfold mvA;show Nat.beq ((4 * ks + 0 + 0) % 2) 1 = false;rw [show (4 * ks + 0 + 0) % 2 = 0 from h3];rfl⟩
 . obtain ⟨h1,h2,h3⟩:=h 0 1 (by decide) (by decide);exact ⟨h1,by unfold mkA;show Nat.beq ((4 * ks + 0 + 1) / 2 % 2) 1 = false;rw [show (4 * ks + 0 + 1) / 2 % 2 = 0 from h2];rfl,by unfold mvA;show Nat.beq ((4 * ks + 0 + 1) % 2) 1 = true;rw [show (4 * ks + 0 + 1) % 2 = 1 from h3];rfl⟩
 . obtain ⟨h1,h2,h3⟩:=h 1 0 (by decide) (by decide);exact ⟨h1,by unfold mkA;show Nat.beq ((4 * ks + 2 + 0) / 2 % 2) 1 = true;rw [show (4 * ks + 2 + 0) / 2 % 2 = 1 from h2];rfl,by unfold mvA;show Nat.beq ((4 * ks + 2 + 0) % 2) 1 = false;rw [show (4 * ks + 2 + 0) % 2 = 0 from h3];rfl⟩
 . obtain ⟨h1,h2,h3⟩:=h 1 1 (by decide) (by decide);exact ⟨h1,by unfold mkA;show Nat.beq ((4 * ks + 2 + 1) / 2 % 2) 1 = true;rw [show (4 * ks + 2 + 1) / 2 % 2 = 1 from h2];rfl,by unfold mvA;show Nat.beq ((4 * ks + 2 + 1) % 2) 1 = true;rw [show (4 * ks + 2 + 1) % 2 = 1 from h3];rfl⟩
theorem zEs (hT : qP P T) (st : St cx r H w) (hfr : zAq r H nm wd) (hwd : 0 < wd) {t : TypeId} {sr : SR} (hs : zDr T t nm = some sr) :
 zBu P cx r H w nm wd sr (do pure (.value (<- Instr.makeMap t none))):=by
 unfold zDr at hs;split at hs
 . rename_i kt et ks vs ka va _ _ _ _ hTt;obtain ⟨hb,hs⟩:=YI hs;subst hs;simp only [Bool.and_eq_true,Bool.or_eq_true] at hb;obtain ⟨⟨⟨b1,b2⟩,b3⟩,b4⟩:=hb;have c1:=zCK b1;have c2:=zCK b2;obtain ⟨e1,e2,e3⟩:=zCf (ks:=ks) (ka:=ka) (va:=va);have hfit : zDL ⟨Za ks ka va,0,ks + vs,false,λ_ _=>.top⟩:=by
    refine ⟨rfl,λh=>?_,?_,λh=>?_⟩
    . show mkS (Za ks ka va) = 1;have h : mkA (Za ks ka va) = false:=h;rw [e2] at h;rw [e1];rcases b3 with b3 | b3
      . rw [h] at b3;cases b3
      . exact Nat.eq_of_beq_eq_true b3
    . show mkS (Za ks ka va) < ks + vs;rw [e1];omega
    . show ks + vs = mkS (Za ks ka va) + 1;have h : mvA (Za ks ka va) = false:=h;rw [e3] at h;rw [e1];rcases b4 with b4 | b4
      . rw [h] at b4;cases b4
      . rw [Nat.eq_of_beq_eq_true b4]
   have h0:=hfr nm (Nat.le_refl _) (by omega);obtain ⟨g1,g2⟩:=st.newMap h0.1 h0.2 (Za ks ka va) (ks + vs) (λ_ _=>.top) hfit (w1:=w.alloc (.map #[] 0)) rfl rfl rfl rfl;refine ⟨.map (some w.heap.size),w.alloc (.map #[] 0),.inl (by simp [Instr.makeMap]),?_⟩;refine ⟨_,g1,g2,λk hk=>if_neg (by omega),λk e hk=>?_,⟨_,if_pos rfl,rfl,rfl⟩⟩;by_cases h : k = nm
   . exact .inl ⟨.inl (by omega),by omega⟩
   . have : zX ([(nm,some (⟨Za ks ka va,0,ks + vs,false,λ_ _=>.top⟩ : Ent))] ++ H) k = zX H k:=zZ _ _ _ h;rw [this] at hk;exact .inr ⟨e,hk⟩
 . cases hs
theorem map_at (st : St cx r H w) {k : Nat} {x : Bi} {e : Ent} (hk : zX H k = some e) (hx : r k = some x) (hz : x.sz = 0) : zDL e /\ ∃ es clk,w.heap[x.b]? = some (.map es clk) /\ MapIn r cx.X (wr r H) w e.t e.n e.sz e.f es:=by
 obtain ⟨h1,h2,h3⟩:=st.blk k e hk;rcases h3 with ⟨h3,_⟩ | ⟨y,cs,g1,g2,_⟩ | ⟨hfit,y,es,clk,g1,g2,g3,g4⟩
 . rw [hx] at h3;cases h3
 . rw [hx] at g1;injection g1 with g1;subst g1;omega
 . rw [hx] at g1;injection g1 with g1;subst g1;exact ⟨hfit,es,clk,g3,g4⟩
theorem zFP {c : Bool} {x : EV} {K : EV -> Option SR} {sr : SR} (h : (bif c then x.see K else none) = some sr) : c = true /\ K x = some sr:=by
 cases c with
 | true=>exact ⟨rfl,by rw [cond_true,EV.see_eq] at h;exact h⟩
 | false=>cases h
theorem zGA {z : Value} (h : zCO z = true) : ∃ cs,z = .agg cs:=by
 cases z<;>first | (cases h;done) | exact ⟨_,rfl⟩
theorem zFQ {z : Value} (h : zCO z = false) : z.cells = #[z]:=by
 cases z<;>first | (cases h;done) | rfl
theorem zEt (hT : qP P T) (st : St cx r H w) {t : TypeId} {x k : FV} {ok : Bool} {sr : SR} {vx vk : Value} (hs : zCj T H t x k ok = some sr) (hp : Qh sr.pre) (hx : x.rel r cx.X (wr r H) w vx) (hk : k.rel r cx.X (wr r H) w vk) :
 zBu P cx r H w nm wd sr (do pure (.value (<- Instr.lookup t vx vk ok))):=by
 unfold zCj at hs;split at hs
 . rename_i kt et ks vs ka va _ _ _ _ q hTt;split at hs
   . rename_i et' n sz v f kn l g ed z0 z eq0 by0 hH hkey hTe;obtain ⟨hb,hs1⟩:=zFP hs;clear hs;have hs:=Option.some.inj hs1;clear hs1;simp only [Bool.and_eq_true] at hb;obtain ⟨⟨⟨⟨b0,b1⟩,b2⟩,b3⟩,b4⟩:=hb;have b0 : aggTD ed = va:=by simpa using b0
     have b1:=Nat.eq_of_beq_eq_true b1;have b2:=Nat.eq_of_beq_eq_true b2;have b3:=Nat.eq_of_beq_eq_true b3;have b4:=Nat.eq_of_beq_eq_true b4;subst b1 b2 b3 hs;obtain ⟨d,hd,htd⟩:=(hT t _ hTt).under;obtain ⟨rfl,m1,m2,m3,m4⟩:=td_map htd;obtain ⟨i,z',hi,hsz,hz,hzl,hzc,_,hza⟩:=(hT et _ hTe).info';obtain ⟨y,hy,hy0,rfl⟩:=hx;obtain ⟨hfit,es,clk,g1,g2,hdis,π,ρ,p1,p2,g3⟩:=map_at st hH hy hy0;dsimp only at g2 p1 p2;obtain ⟨hln,hkn,hck,hkk⟩:=key_at (w:=w) hT hkey m3 hk;obtain ⟨c1,c2,c3⟩:=zCf (ks:=kn) (ka:=ka.getD false) (va:=va);have hel : ∀ (i : Nat) m,es[i]? = some m -> (zAb (ka.getD false) kn 0 (f (π i))).rel r cx.X (wr r H) w m.key /\ (zAb va vs kn (f (π i))).rel r cx.X (wr r H) w m.val:=λi m hm=>by
      obtain ⟨a1,a2⟩:=g3 i m hm;refine ⟨?_,?_⟩
      . have a1 : (zAb (mkA (Za kn (ka.getD false) va)) (mkS (Za kn (ka.getD false) va)) 0 (f (π i))).rel r cx.X (wr r H) w m.key:=a1;rw [c1,c2] at a1;exact a1
      . have a2 : (zAb (mvA (Za kn (ka.getD false) va)) (kn + vs - mkS (Za kn (ka.getD false) va)) (mkS (Za kn (ka.getD false) va)) (f (π i))).rel r cx.X (wr r H) w m.val:=a2;rw [c1,c3,Nat.add_sub_cancel_left] at a2;exact a2
     obtain ⟨o,o1,o2⟩:=zEJ (w:=w) hln hkk (n:=n) g2 p1 p2 hdis (λi m hm=>(hel i m hm).1) hp;obtain ⟨fi,hfi⟩ : ∃ fi,qN (λi=>ZF g (f i) kn 0) n 0 = fi:=⟨_,rfl⟩;rw [hfi] at o2 ⊢;rcases o2 with ⟨h1,rfl,_⟩ | ⟨j0,m,h1,h0,h2,rfl,h4,_⟩
     . have hc : Nat.blt fi n = false:=by
        cases hb : Nat.blt fi n with
        | false=>rfl
        | true=>have:=Nat.le_of_ble_eq_true hb;omega
       rw [hc];have hr : (Instr.lookup t (.map (some y.b)) vk ok).run P w = .ok (if ok = true then .tuple #[z',.bool false] else z') w:=by
        simp only [Instr.lookup,Sem.run_bind,run_underlying hd,Result.andThen_ok,MapKept.run_getObj_map g1,hck,o1,Sem.run_pure,zBS hi hz]
       refine ⟨if ok = true then .tuple #[z',.bool false] else z',w,.inl (by rw [Sem.run_bind,hr,Result.andThen_ok];rfl),YJ st rfl ?_⟩;obtain ⟨q1,q2⟩:=Yg (r:=r) (w:=w) (X:=cx.X) (W:=wr r H) hzl hzc;have hv : (pickV va vs kn false (f fi) (nth z)).rel r cx.X (wr r H) w z':=by
        unfold pickV;cases hva : va with
        | true=>
          obtain ⟨cs,rfl⟩:=zGA (hza.trans (b0.trans hva));refine ⟨cs,rfl,q1.trans b4,λj u hu=>?_⟩;show (Zp false _ _).rel _ _ _ _ _;rw [zA7];exact q2 j u hu
        | false=>
          have hpl:=zFQ (hza.trans (b0.trans hva));show (Zp false _ _).rel _ _ _ _ _;rw [zA7];exact q2 0 z' (by rw [hpl];rfl)
       cases ok with
       | true=>
         refine ⟨#[z',.bool false],rfl,rfl,λi x u hx hu=>?_⟩;rcases i with _ | _ | i
         . simp at hx hu;subst hx hu;exact hv
         . simp at hx hu;subst hx hu;exact rfl
         . simp at hx
       | false=>exact hv
     . have hc : Nat.blt fi n = true:=Nat.ble_eq_true_of_le h2;rw [hc];have hr : (Instr.lookup t (.map (some y.b)) vk ok).run P w = .ok (if ok = true then .tuple #[m.val,.bool true] else m.val) w:=by
        simp only [Instr.lookup,Sem.run_bind,run_underlying hd,Result.andThen_ok,MapKept.run_getObj_map g1,hck,o1,Sem.run_pure]
       refine ⟨if ok = true then .tuple #[m.val,.bool true] else m.val,w,.inl (by rw [Sem.run_bind,hr,Result.andThen_ok];rfl),YJ st rfl ?_⟩;have hv : (pickV va vs kn true (f fi) (nth z)).rel r cx.X (wr r H) w m.val:=by
        have a2:=(hel j0 m h1).2;rw [h0] at a2;unfold pickV;unfold zAb at a2;cases hva : va with
        | true=>
          rw [hva] at a2;obtain ⟨cs,e1,e2,e3⟩:=a2;refine ⟨cs,e1,e2,λj u hu=>?_⟩;show (Zp true _ _).rel _ _ _ _ _;rw [zBm];exact e3 j u hu
        | false=>
          rw [hva] at a2;show (Zp true _ _).rel _ _ _ _ _;rw [zBm];exact a2
       cases ok with
       | true=>
         refine ⟨#[m.val,.bool true],rfl,rfl,λi x u hx hu=>?_⟩;rcases i with _ | _ | i
         . simp at hx hu;subst hx hu;exact hv
         . simp at hx hu;subst hx hu;exact rfl
         . simp at hx
       | false=>exact hv
   . cases hs
 . cases hs
theorem zCE (hT : qP P T) (st : St cx r H w) {t : TypeId} {x k v : FV} {sr : SR} {vx vk vv : Value} (hs : zAZ T H t x k v = some sr) (hp : Qh sr.pre) (hx : x.rel r cx.X (wr r H) w vx) (hk : k.rel r cx.X (wr r H) w vk) (hv : v.rel r cx.X (wr r H) w vv) :
 zBu P cx r H w nm wd sr (do Instr.mapUpdate t vx vk vv;pure .skip):=by
 unfold zAZ at hs;split at hs
 . rename_i kt et ks vs ka va _ _ _ _ q ve hTt;split at hs
   . rename_i et' n sz b f kn l g vn vg hH hkey hcv;obtain ⟨hb,hs⟩:=YI hs;simp only [Bool.and_eq_true] at hb;obtain ⟨⟨⟨⟨b1,b2⟩,b3⟩,b4⟩,b5⟩:=hb;have b1:=Nat.eq_of_beq_eq_true b1;have b2:=Nat.eq_of_beq_eq_true b2;have b3:=Nat.eq_of_beq_eq_true b3;have b4:=Nat.eq_of_beq_eq_true b4;have b5 : isAggV ve = va:=by simpa using b5
     subst b1 b2 b3 b4 hs;obtain ⟨d,hd,htd⟩:=(hT t _ hTt).under;obtain ⟨rfl,m1,m2,m3,m4⟩:=td_map htd;obtain ⟨y,hy,hy0,rfl⟩:=hx;obtain ⟨hfit,es,clk,g1,g2,hdis,π,ρ,p1,p2,g3⟩:=map_at st hH hy hy0;dsimp only at g2 p1 p2;obtain ⟨hln,hkn,hck,hkk⟩:=key_at (w:=w) hT hkey m3 hk;obtain ⟨c1,c2,c3⟩:=zCf (ks:=kn) (ka:=ka.getD false) (va:=va);have hel : ∀ (i : Nat) m,es[i]? = some m -> (zAb (ka.getD false) kn 0 (f (π i))).rel r cx.X (wr r H) w m.key:=λi m hm=>by
      have a1 : (zAb (mkA (Za kn (ka.getD false) va)) (mkS (Za kn (ka.getD false) va)) 0 (f (π i))).rel r cx.X (wr r H) w m.key:=(g3 i m hm).1;rw [c1,c2] at a1;exact a1
     obtain ⟨o,o1,o2⟩:=zEJ (w:=w) hln hkk (n:=n) g2 p1 p2 hdis hel hp;have hge:=zFN (λi=>ZF g (f i) kn 0) n 0;obtain ⟨fi,hfi⟩ : ∃ fi,qN (λi=>ZF g (f i) kn 0) n 0 = fi:=⟨_,rfl⟩;rw [hfi] at o2 hge ⊢;obtain ⟨v1,v2,v3⟩:=zAu hv hcv;have hnew : ∀ i,i = fi -> (keyV (Za kn (ka.getD false) va) (kn + vn) (λj=>Zp (Nat.beq i fi) (bif Nat.blt j kn then g j else vg (j - kn)) (f i j))).rel r cx.X (wr r H) w vk /\
      (elemV (Za kn (ka.getD false) va) (kn + vn) (λj=>Zp (Nat.beq i fi) (bif Nat.blt j kn then g j else vg (j - kn)) (f i j))).rel r cx.X (wr r H) w vv:=λi hi=>by
      subst hi;unfold keyV elemV;rw [c1,c2,c3,Nat.add_sub_cancel_left];have hsel : ∀ j,Zp (Nat.beq i i) (bif Nat.blt j kn then g j else vg (j - kn)) (f i j) = (bif Nat.blt j kn then g j else vg (j - kn)):=λj=>by rw [show Nat.beq i i = true by simp,zBm]
      have hin : ∀ j,j < kn -> (bif Nat.blt j kn then g j else vg (j - kn)) = g j:=λj hj=>by rw [show Nat.blt j kn = true from Nat.ble_eq_true_of_le hj];rfl
      have hout : ∀ j,(bif Nat.blt (kn + j) kn then g (kn + j) else vg (kn + j - kn)) = vg j:=λj=>by
       rw [show Nat.blt (kn + j) kn = false from by
        cases hb : Nat.blt (kn + j) kn with
        | false=>rfl
        | true=>have:=Nat.le_of_ble_eq_true hb;omega,Nat.add_sub_cancel_left]
       rfl
      refine ⟨?_,?_⟩
      . rcases hkk with ⟨k1,k2,_,k3,_⟩ | ⟨k1,xs,k2,k3,_,_,k4⟩
        . rw [k1];show (Zp _ _ _).rel _ _ _ _ _;rw [hsel,hin 0 hkn];exact k3
        . rw [k1,k2];refine ⟨xs,rfl,k3,λj u hu=>?_⟩;have hj : j < kn:=by rw [<- k3];exact (Array.getElem?_eq_some_iff.1 hu).1
          show (Zp _ _ _).rel _ _ _ _ _;rw [hsel,Nat.zero_add,hin j hj];exact k4 j u hu
      . unfold zAb;cases hva : va with
        | true=>
          rw [hva] at b5;cases ve with
          | c y=>cases b5
          | agg m h=>
            obtain ⟨cs,rfl,e2,e3⟩:=hv;simp only [cellsOf,Option.some.injEq,Prod.mk.injEq] at hcv;obtain ⟨rfl,rfl⟩:=hcv;refine ⟨cs,rfl,e2,λj u hu=>?_⟩;show (Zp _ _ _).rel _ _ _ _ _;rw [hsel,hout];exact e3 j u hu
        | false=>
          rw [hva] at b5;cases ve with
          | agg m h=>cases b5
          | c y0=>
            have hv' : y0.rel r cx.X (wr r H) w vv:=hv;show (Zp _ _ _).rel _ _ _ _ _;rw [hsel];have:=hout 0;rw [Nat.add_zero] at this;rw [this];have hcell:=Yr hv';have hvc : vv.cells = #[vv]:=by cases vv<;>first | rfl | exact hcell.elim
            exact v2 0 vv (by rw [hvc];rfl)
     have hold : ∀ (i : Nat) (m : MapEntry),i ≠ fi -> (keyV (Za kn (ka.getD false) va) (kn + vn) (f i)).rel r cx.X (wr r H) w m.key /\ (elemV (Za kn (ka.getD false) va) (kn + vn) (f i)).rel r cx.X (wr r H) w m.val ->
      (keyV (Za kn (ka.getD false) va) (kn + vn) (λj=>Zp (Nat.beq i fi) (bif Nat.blt j kn then g j else vg (j - kn)) (f i j))).rel r cx.X (wr r H) w m.key /\
      (elemV (Za kn (ka.getD false) va) (kn + vn) (λj=>Zp (Nat.beq i fi) (bif Nat.blt j kn then g j else vg (j - kn)) (f i j))).rel r cx.X (wr r H) w m.val:=λi m hi hm=>by
      have hb : Nat.beq i fi = false:=by
       cases hb : Nat.beq i fi with
       | false=>rfl
       | true=>exact absurd (Nat.eq_of_beq_eq_true hb) hi
      have : (λj=>Zp (Nat.beq i fi) (bif Nat.blt j kn then g j else vg (j - kn)) (f i j)) = f i:=by
       funext j
       rw [hb,zA7]
      rw [this];exact hm
     have fin : ∀ (es' : Array MapEntry) (clk' n' : Nat),(Instr.mapUpdate t (.map (some y.b)) vk vv).run P w = .ok () { w with heap:=w.heap.setIfInBounds y.b (.map es' clk') } ->
      MapIn r cx.X (wr r H) w (Za kn (ka.getD false) va) n' (kn + vn) (λi j=>Zp (Nat.beq i fi) (bif Nat.blt j kn then g j else vg (j - kn)) (f i j)) es' ->
      (bif Nat.blt fi n then n else fi + 1) = n' ->
      zBu P cx r H w nm wd ⟨some (∀ i,i < n -> Zw g (f i) l 0 = true),.top,[(q,some ⟨Za kn (ka.getD false) va,bif Nat.blt fi n then n else fi + 1,kn + vn,b,λi j=>Zp (Nat.beq i fi) (bif Nat.blt j kn then g j else vg (j - kn)) (f i j)⟩)],[q]⟩ (do Instr.mapUpdate t (.map (some y.b)) vk vv;pure .skip):=by
      intro es' clk' n' hr hes' hnn;obtain ⟨s1,s2⟩:=MapKept.heap_set (o':=.map es' clk') g1;obtain ⟨p1,p2⟩:=st.mapPut hH hy hy0 es' clk' n' (λi j=>Zp (Nat.beq i fi) (bif Nat.blt j kn then g j else vg (j - kn)) (f i j)) hes' { w with heap:=w.heap.setIfInBounds y.b (.map es' clk') } rfl rfl rfl (by simp) s2 s1;rw [hnn];refine ⟨undef,{ w with heap:=w.heap.setIfInBounds y.b (.map es' clk') },.inr ⟨by rw [Sem.run_bind,hr,Result.andThen_ok];rfl,rfl⟩,?_⟩;refine ⟨r,p1,p2,λ_ _=>rfl,λj e' hj=>?_,trivial⟩;by_cases h : j = q
      . subst h;exact .inr ⟨_,hH⟩
      . have : zX ([(q,some (⟨Za kn (ka.getD false) va,n',kn + vn,b,λi j=>Zp (Nat.beq i fi) (bif Nat.blt j kn then g j else vg (j - kn)) (f i j)⟩ : Ent))] ++ H) j = zX H j:=zZ _ _ _ h;rw [this] at hj;exact .inr ⟨e',hj⟩
     have pre : ∀ (s : Sem Unit) w',(match o with
      | some (i,_)=>do
        let key <- Instr.keyThatStays (((es[i]?).map MapEntry.key).getD vk) vk
        setObj y.b (.map (es.modify i λ(e : MapEntry)=>{ e with key:=key,val:=vv }) clk)
      | none=>setObj y.b (.map (es.push { key:=vk,val:=vv,born:=clk }) (clk + 1))).run P w = .ok () w' -> (Instr.mapUpdate t (.map (some y.b)) vk vv).run P w = .ok () w':=λs w' h=>by
      simp only [Instr.mapUpdate,Sem.run_bind,run_underlying hd,Result.andThen_ok,MapKept.run_getObj_map g1,hck,o1];exact h
     rcases o2 with ⟨h1,rfl,hno⟩ | ⟨j0,m,h1,h0,h2,rfl,h4,h5⟩
     . have hc : Nat.blt fi n = false:=by
        cases hb : Nat.blt fi n with
        | false=>rfl
        | true=>have:=Nat.le_of_ble_eq_true hb;omega
       have hpush : ∀ (i : Nat) m,(es.push ⟨vk,vv,clk⟩)[i]? = some m -> (i = n /\ m = ⟨vk,vv,clk⟩) \/ (i < n /\ es[i]? = some m):=λi m hm=>by
        rw [Array.getElem?_push] at hm;split at hm
        . rename_i hi;injection hm with hm;exact .inl ⟨by omega,hm.symm⟩
        . have hlt:=(Array.getElem?_eq_some_iff.1 hm).1;exact .inr ⟨by omega,hm⟩
       have hpi : ∀ (σ : Nat -> Nat) i,i < n -> (if i = n then n else σ i) = σ i:=fun σ i hi=>if_neg (by omega);refine fin (es.push ⟨vk,vv,clk⟩) (clk + 1) (n + 1) (pre (pure ()) _ (MapKept.run_setObj_map _ g1)) ⟨by simpa using g2,λi j m m' hm hm' hk=>?_,λi=>if i = n then n else π i,λi=>if i = n then n else ρ i,λi hi=>?_,λi hi=>?_,λi m hm=>?_⟩ (by rw [hc,h1];rfl)
       . rcases hpush i m hm with ⟨e1,e2⟩ | ⟨e1,e2⟩
         . rcases hpush j m' hm' with ⟨d1,d2⟩ | ⟨d1,d2⟩
           . omega
           . subst e2;exact absurd hk.symm (hno j m' d2)
         . rcases hpush j m' hm' with ⟨d1,d2⟩ | ⟨d1,d2⟩
           . subst d2;exact absurd hk (hno i m e2)
           . exact hdis i j m m' e2 d2 hk
       . by_cases hin : i = n
         . subst hin;simp
         . obtain ⟨a1,a2⟩:=p1 i (by omega);show (if i = n then n else π i) < n + 1 /\ (if (if i = n then n else π i) = n then n else ρ (if i = n then n else π i)) = i;rw [hpi π i (by omega),hpi ρ _ a1];exact ⟨by omega,a2⟩
       . by_cases hin : i = n
         . subst hin;simp
         . obtain ⟨a1,a2⟩:=p2 i (by omega);show (if i = n then n else ρ i) < n + 1 /\ (if (if i = n then n else ρ i) = n then n else π (if i = n then n else ρ i)) = i;rw [hpi ρ i (by omega),hpi π _ a1];exact ⟨by omega,a2⟩
       . rcases hpush i m hm with ⟨e1,e2⟩ | ⟨e1,e2⟩
         . subst e2;exact hnew _ (by dsimp only;rw [if_pos e1,h1])
         . have hlt:=(p1 i e1).1;have:=hold (π i) m (by omega) (g3 i m e2);dsimp only;rw [hpi π i e1];exact this
     . have hc : Nat.blt fi n = true:=Nat.ble_eq_true_of_le h2;have hs : (Instr.keyThatStays (((es[j0]?).map (·.key)).getD vk) vk).run P w = .ok vk w:=by
        rw [h1];show (Instr.keyThatStays m.key vk).run P w = _;rw [h4];exact stays h5
       have hmod : ∀ (i : Nat) m',(es.modify j0 λe=>{ e with key:=vk,val:=vv })[i]? = some m' -> (i = j0 /\ m' = { m with key:=vk,val:=vv }) \/ (i ≠ j0 /\ es[i]? = some m'):=λi m' hm=>by
        rw [Array.getElem?_modify] at hm;split at hm
        . rename_i hi;subst hi;rw [h1] at hm;simp only [Option.map_some,Option.some.injEq] at hm;exact .inl ⟨rfl,hm.symm⟩
        . rename_i hi;exact .inr ⟨λh=>hi h.symm,hm⟩
       refine fin (es.modify j0 λe=>{ e with key:=vk,val:=vv }) clk n (pre (pure ()) _ ?_) ⟨by simpa using g2,λi j x x' hx hx' hk=>?_,π,ρ,p1,p2,λi m' hm=>?_⟩ (by rw [hc];rfl)
       . simp only [Sem.run_bind,hs,Result.andThen_ok];exact MapKept.run_setObj_map _ g1
       . rcases hmod i x hx with ⟨e1,e2⟩ | ⟨e1,e2⟩
         . rcases hmod j x' hx' with ⟨d1,d2⟩ | ⟨d1,d2⟩
           . omega
           . subst e2;exact absurd (hdis j j0 x' m d2 h1 (by rw [h4];exact hk.symm)) d1
         . rcases hmod j x' hx' with ⟨d1,d2⟩ | ⟨d1,d2⟩
           . subst d2;exact absurd (hdis i j0 x m e2 h1 (by rw [h4];exact hk)) e1
           . exact hdis i j x x' e2 d2 hk
       . rcases hmod i m' hm with ⟨e1,e2⟩ | ⟨e1,e2⟩
         . subst e1 e2;exact hnew _ h0
         . have hlt : i < n:=by rw [<- g2];exact (Array.getElem?_eq_some_iff.1 e2).1
           have hlj : j0 < n:=by rw [<- g2];exact (Array.getElem?_eq_some_iff.1 h1).1
           refine hold (π i) m' (λh=>e1 ?_) (g3 i m' e2);rw [<- (p1 i hlt).2,h,<- h0,(p1 j0 hlj).2]
   . cases hs
 . cases hs
end
structure LiesC (r : QK) (X W : Nat -> Prop) (w : World) (n sz : Nat) (g : Nat -> Nat -> CV) (news : List Value) : Prop where
 len : news.length = n * sz
 cell : ∀ u ∈ news,zAa u
 rel : ∀ i,i < n -> ∀ j,j < sz -> ∀ u,news[i * sz + j]? = some u -> (g i j).rel r X W w u
section
variable {P : Program} {cx : Cx} {r : QK} {H : Hp} {w : World} {T : YU} {fr : Fr} {a : Act} {nm wd : Nat}
theorem grow_gen (hT : qP P T) (st : St cx r H w) (hfr : zAq r H nm wd) (hwd : 0 < wd) {dead : Hp} (hdead : ∀ k e,zX (dead ++ H) k = some e -> zX H k = some e) {e : TypeId} {ti : TI} {S : Sem Value} (hTe : T e = some ti) {sz : Nat} (hsz : 0 < sz) (hes : szN P e = sz) (hzl : ti.zero.length = sz)
 {x : Value} {base : Option Addr} {n cap : Nat} (hxb : Value.slice base n cap = x) {f : Nat -> Nat -> CV} {olds : List Value} (ho : Lies r cx.X (wr r H) w (.slice base n cap) n sz f olds) {m : Nat} {g : Nat -> Nat -> CV} {news : List Value} (hy : LiesC r cx.X (wr r H) w m sz g news)
 (hrun : ∀ (i : TypeInfo) (z : Value),P.info? e = some i -> i.zero = some z -> i.size = sz -> i.bytes = ti.bytes -> ∀ (base : Option Addr) (cap : Nat) (olds : List Value),Value.slice base n cap = x -> (∀ w' : World,w'.heap = w.heap -> (Builtin.firstCells i.size n (.slice base n cap)).run P w' = .ok olds.toArray w') -> cap < n + m -> Builtin.nextslicecap (n + m) cap * i.bytes <= 281474976710656 -> S.run P w = .ok (.slice (some ⟨w.heap.size,0,none⟩) (n + m) (grownCap w (n + m) cap e)) (w.drew.alloc (.cells (olds.toArray ++ news.toArray ++ Builtin.zeroCells z.cells (grownCap w (n + m) cap e - (n + m))) e)))
 (hg : cap < n + m) (hb : (n + m) * ti.bytes <= 140737488355328) (h63 : n + m <= 9223372036854775807) {F : Nat -> Nat -> CV} (hF : ∀ i j,F i j = bif Nat.blt i n then f i j else g (i - n) j) {N : Nat} (hN : N = n + m) (p : Option Prop) (rd : List Nat) :
 ∃ v w',S.run P w = .ok v w' /\ zAD cx r H w nm wd ⟨p,zL (.os nm 0 N),(nm,some ⟨e,N,sz,false,F⟩) :: dead,rd⟩ v w':=by
 subst hN;obtain ⟨i,z,hi,hszi,hz,hl,hall,hby⟩:=(hT e ti hTe).info;have hi' : i.size = sz:=by rw [<- hes];simp [szN,hi]
 subst hi';have hzs:=(Yg (r:=r) (w:=w) (X:=cx.X) (W:=wr r H) hl hall).1;have hge:=zCJ w (n + m) cap e;refine ⟨_,_,hrun i z hi hz rfl hby base cap olds hxb (λw' hw=>zCI ho hw) hg (by rw [hby];exact growslice_fits hg hb),?_⟩;refine zAs st hfr hwd hdead e (olds.toArray ++ news.toArray ++ Builtin.zeroCells z.cells (grownCap w (n + m) cap e - (n + m))) (n + m) i.size (grownCap w (n + m) cap e) false F hsz (λh=>by cases h) ?_ hge ?_ ?_ ?_ ?_ ?_ ?_ ?_
 . simp only [Array.size_append,List.size_toArray,size_zeroCells,hy.len,ho.len,hzs,hzl];rw [<- Nat.add_mul,<- Nat.add_mul];congr 1;omega
 . intro k hk j hj u hu;rw [arr_get] at hu;have:=zFT (r:=r) (X:=cx.X) (W:=wr r H) (w:=w) ho.len hy.len ho.rel hy.rel k hk j hj u hu;rw [hF];rw [QS] at this;exact this
 . rfl
 . rfl
 . rfl
 . rfl
 . rfl
 . intro r' h W w';exact ⟨_,_,rfl,hge,λ_=>⟨_,⟨h,by first | assumption | omega⟩,by simp,by simp⟩⟩
theorem own_gen (hT : qP P T) (st : St cx r H w) (hfr : zAq r H nm wd) (hwd : 0 < wd) {e : TypeId} {ti : TI} {S : Sem Value} (hTe : T e = some ti) {sz : Nat} (hsz : 0 < sz) (hes : szN P e = sz) (hzl : ti.zero.length = sz)
 {k n : Nat} {f : Nat -> Nat -> CV} (hk : zX H k = some ⟨e,n,sz,false,f⟩) {x : Value} (hx : (CV.os k 0 n).rel r cx.X (wr r H) w x)
 {m : Nat} {g : Nat -> Nat -> CV} {news : List Value} (hy : LiesC r cx.X (wr r H) w m sz g news)
 (hFit : ∀ (i : TypeInfo) (z : Value),P.info? e = some i -> i.zero = some z -> i.size = sz -> i.bytes = ti.bytes -> ∀ (base : Option Addr) (cap : Nat) (w' : World),Value.slice base n cap = x -> n + m <= cap -> (∀ ad,base = some ad -> (storeCells (ad.add (n * i.size)) news 0).run P w = .ok () w') -> (base = none -> w' = w) -> S.run P w = .ok (.slice base (n + m) cap) w')
 (hrun : ∀ (i : TypeInfo) (z : Value),P.info? e = some i -> i.zero = some z -> i.size = sz -> i.bytes = ti.bytes -> ∀ (base : Option Addr) (cap : Nat) (olds : List Value),Value.slice base n cap = x -> (∀ w' : World,w'.heap = w.heap -> (Builtin.firstCells i.size n (.slice base n cap)).run P w' = .ok olds.toArray w') -> cap < n + m -> Builtin.nextslicecap (n + m) cap * i.bytes <= 281474976710656 -> S.run P w = .ok (.slice (some ⟨w.heap.size,0,none⟩) (n + m) (grownCap w (n + m) cap e)) (w.drew.alloc (.cells (olds.toArray ++ news.toArray ++ Builtin.zeroCells z.cells (grownCap w (n + m) cap e - (n + m))) e))) (hb : (n + m) * ti.bytes <= 140737488355328) (h63 : n + m <= 9223372036854775807) (p : Option Prop) (rd : List Nat) :
 ∃ v w',S.run P w = .ok v w' /\ zAD cx r H w nm wd ⟨p,zL (.os nm 0 (n + m)),[(nm,some ⟨e,n + m,sz,false,λk j=>Zp (Nat.blt k n) (f k j) (g (k - n) j)⟩),(k,none)],rd⟩ v w':=by
 obtain ⟨A,cap,rfl,hn,hc⟩:=hx;have hf0:=hfr nm (Nat.le_refl _) (by omega);by_cases hroom : n + m <= cap
 . obtain ⟨i,z,hi,hszi,hz,hl,hall,hby⟩:=(hT e ti hTe).info;have hi' : i.size = sz:=by rw [<- hes];simp [szN,hi]
   subst hi';rcases Nat.eq_zero_or_pos cap with h0 | h0
   . have hm0 : m = 0:=by omega
     have hn0 : n = 0:=by omega
     subst hm0 hn0 h0;have hnews : news = []:=List.eq_nil_of_length_eq_zero (by simpa using hy.len);subst hnews;refine ⟨_,w,hFit i z hi hz rfl hby A 0 w rfl (Nat.le_refl _) (λad h=>rfl) (λ_=>rfl),?_⟩;obtain ⟨h1,h2⟩:=st.empty hf0.1 hf0.2 [(k,none)] Yx e i.size (λq j=>Zp (Nat.blt q 0) (f q j) (g (q - 0) j)) hsz;refine ⟨r,h1,h2,λ_ _=>rfl,λq e' hq=>?_,⟨A,0,rfl,Nat.le_refl _,λh=>absurd h (Nat.lt_irrefl _)⟩⟩;by_cases h : q = nm
     . exact .inl ⟨.inl (by omega),by omega⟩
     . have : zX (([(nm,some ⟨e,0 + 0,i.size,false,λq j=>Zp (Nat.blt q 0) (f q j) (g (q - 0) j)⟩),(k,none)] : Hp) ++ H) q = zX ([(k,none)] ++ H) q:=zZ _ _ _ h;rw [this] at hq;exact .inr ⟨e',Yx q e' hq⟩
   . obtain ⟨b,hb1,rfl,hb3⟩:=hc h0;obtain ⟨g1,g2,g3,g4,cs,g5,g6,g7⟩:=Yp st hk hb1;simp only at g1 g2 g3 g4 g5 g7;rw [Nat.zero_mul] at *;have hcap : cap = b.c:=by omega
     have hfit : n * i.size + 0 + news.length <= cs.size:=by
      rw [g6,g3,hy.len,Nat.add_zero,<- Nat.add_mul];exact Nat.mul_le_mul_right _ (by omega)
     obtain ⟨w',s1,s2,s3,s4,s5,s6,s7⟩:=Yh P b.b (n * i.size) e news 0 w cs g5 hfit hy.cell;rw [Nat.add_zero] at s7;refine ⟨_,w',hFit i z hi hz rfl hby (some ⟨b.b,0,none⟩) cap w' rfl hroom (λad h=>?_) (λh=>by cases h),?_⟩
     . injection h with h;subst h;rw [zBv,Nat.zero_add];exact s1
     . have hrows : ∀ q,q < n + m -> ∀ j,j < i.size -> ∀ u,(ovl cs (n * i.size) news)[q * i.size + j]? = some u -> (Zp (Nat.blt q n) (f q j) (g (q - n) j)).rel r cx.X (wr r H) w u:=by
        intro q hq j hj u hu;rw [zBk _ _ _ (by omega)] at hu;rw [QS];by_cases h : q < n
        . rw [show Nat.blt q n = true from Nat.ble_eq_true_of_le h,cond_true];have:=Qd (sz:=i.size) h;rw [if_neg (by omega)] at hu;exact g7 q h j hj u hu
        . have hbl : Nat.blt q n = false:=by
           cases hbl : Nat.blt q n with
           | false=>rfl
           | true=>exact absurd (Nat.le_of_ble_eq_true hbl) h
          rw [hbl,cond_false];have h1:=Nat.mul_le_mul_right i.size (Nat.le_of_not_lt h);have h2:=Qd (sz:=i.size) (show q - n < m by omega);have h3 : q * i.size + j - n * i.size = (q - n) * i.size + j:=by rw [Nat.sub_mul];omega
          rw [if_pos (by rw [hy.len];omega),h3] at hu;exact hy.rel (q - n) (by omega) j hj u hu
       obtain ⟨h1,h2⟩:=st.grow hk hb1 hf0.1 hf0.2 (ovl cs (n * i.size) news) (n + m) (λq j=>Zp (Nat.blt q n) (f q j) (g (q - n) j)) (by rw [zAt];exact g6) (by omega) (λh=>by cases h) hrows w' s2 s3 s4 s5 s6 s7;refine ⟨_,h1,h2,λq hq=>if_neg (by omega),λq e' hq=>?_,?_⟩
       . by_cases h : q = nm
         . exact .inl ⟨.inl (by omega),by omega⟩
         . have : zX (([(nm,some ⟨e,n + m,i.size,false,λq j=>Zp (Nat.blt q n) (f q j) (g (q - n) j)⟩),(k,none)] : Hp) ++ H) q = zX ([(k,none)] ++ H) q:=zZ _ _ _ h;rw [this] at hq;exact .inr ⟨e',Yx q e' hq⟩
       . exact ⟨_,cap,rfl,hroom,λ_=>⟨b,⟨if_pos rfl,hb1.2⟩,by rw [Nat.zero_mul],by omega⟩⟩
 . obtain ⟨olds,ho⟩ : ∃ olds,Lies r cx.X (wr r H) w (.slice A n cap) n sz f olds:=zA4 hn hsz λh0=>by
    obtain ⟨b,hb1,rfl,hb3⟩:=hc (by omega);obtain ⟨_,_,hxs,_⟩:=Yp st hk hb1;simp only at hxs;refine ⟨b.b,0,by rw [Nat.zero_mul],λq hq j hj=>?_⟩;obtain ⟨u,hu,hr⟩:=YK st hk hb1 (i:=q) (j:=j) hq hj;exact ⟨u,by rw [Nat.zero_add,<- hxs];exact hu,hr⟩
   exact grow_gen hT st hfr hwd Yx hTe hsz hes hzl rfl ho hy hrun (by omega) hb h63 (λi j=>QS _ _ _) rfl p rd
theorem zero_lies {ti : TI} {z : Value} {sz m : Nat} {X W : Nat -> Prop} (hl : z.cells.toList.map zCN = ti.zero) (hall : z.cells.toList.all zAf = true) (hzl : ti.zero.length = sz) (hsz : 0 < sz) : LiesC r X W w m sz (λ_=>nth ti.zero) (Builtin.zeroCells z.cells m).toList:=by
 obtain ⟨hzs,hzr⟩:=Yg (r:=r) (w:=w) (X:=X) (W:=W) hl hall;have zX : ∀ q,q < m * sz -> (Builtin.zeroCells z.cells m).toList[q]? = z.cells[q % sz]?:=λq hq=>by
  have e : z.cells.size = sz:=by rw [hzs,hzl]
  have h1 : q % sz < z.cells.size:=by rw [e];exact Nat.mod_lt _ hsz
  have h2 : q < m * z.cells.size:=by rw [e];exact hq
  simp only [Builtin.zeroCells,Array.getElem?_toList,Array.getElem?_map,Array.getElem?_range,h2,if_true,Option.map_some,e];rw [if_pos hq,Option.map_some,getElem!_pos z.cells (q % sz) h1,Array.getElem?_eq_getElem h1]
 have hlen : (Builtin.zeroCells z.cells m).toList.length = m * sz:=by
  simp [Builtin.zeroCells,hzs,hzl]
 refine ⟨hlen,λu hu=>?_,λi hi j hj u hu=>?_⟩
 . obtain ⟨q,hq⟩:=List.getElem?_of_mem hu;have hql : q < m * sz:=by
    have:=(List.getElem?_eq_some_iff.1 hq).1;rw [hlen] at this;exact this
   rw [zX q hql] at hq;have hmem : u ∈ z.cells.toList:=List.mem_of_getElem? (by rw [Array.getElem?_toList];exact hq);exact zES (List.all_eq_true.1 hall u hmem)
 . have hlt : i * sz + j < m * sz:=by
    have:=Nat.mul_le_mul_right sz (show i + 1 <= m by omega);rw [Nat.add_mul,Nat.one_mul] at this;omega
   rw [zX _ hlt,Nat.mul_comm,Nat.mul_add_mod,Nat.mod_eq_of_lt hj] at hu;exact hzr j u hu
theorem zE4 {t tq ty e : TypeId} {i : TypeInfo} {z : Value} {kk kq : IntKind} {q : Int} (ht : P.underlying t = some (.slice e)) (htq : P.underlying tq = some (.int kk)) (hi : P.info? e = some i) (hz : i.zero = some z) (base : Option Addr) (n cap : Nat) (h0 : 0 <= q) (hw : IntKind.i64.wrap q = q) (h48 : q * i.bytes <= 281474976710656) (hsz : 0 < i.size)
 (hroom : n + q.toNat <= cap) {w' : World} (hst : ∀ ad,base = some ad -> (storeCells (ad.add (n * i.size)) (Builtin.zeroCells z.cells q.toNat).toList 0).run P w = .ok () w') (hno : base = none -> w' = w) :
 (Builtin.append_ #[t,tq] ty #[.slice base n cap,.int kq q]).run P w = .ok (.slice base (n + q.toNat) cap) w':=by
 have h1 : ¬ q < 0:=by omega
 have h2 : ¬ (281474976710656 < q * i.bytes):=by omega
 have hz0 : q.toNat * i.size = 0 -> (#[] : Array Value) = Builtin.zeroCells z.cells q.toNat:=λh=>by
  have : q.toNat = 0:=by
   rcases Nat.mul_eq_zero.1 h with h | h
   . exact h
   . omega
  rw [this];simp [Builtin.zeroCells]
 by_cases hc : q.toNat * i.size = 0
 . have hz1:=hz0 hc;cases base with
   | none=>
     have:=hno rfl;subst this;simp [Builtin.append_,run_underlying ht,run_underlying htq,sizeOf,typeInfo,zeroValue,hi,hz,asInt,asIntOf,hw,h1,h2,hroom,hc]
   | some ad=>
     have:=hst ad rfl;rw [<- hz1] at this;simp [Builtin.append_,run_underlying ht,run_underlying htq,sizeOf,typeInfo,zeroValue,hi,hz,asInt,asIntOf,hw,h1,h2,hroom,hc];have this2 : (storeCells (ad.add (n * i.size)) ([] : List Value) 0).run P w = .ok () w':=by simpa using this
     rw [this2];rfl
 . cases base with
   | none=>
     have:=hno rfl;subst this;simp [Builtin.append_,run_underlying ht,run_underlying htq,sizeOf,typeInfo,zeroValue,hi,hz,asInt,asIntOf,hw,h1,h2,hroom,hc]
   | some ad=>
     have:=hst ad rfl;simp [Builtin.append_,run_underlying ht,run_underlying htq,sizeOf,typeInfo,zeroValue,hi,hz,asInt,asIntOf,hw,h1,h2,hroom,hc,this]
theorem zE5 {t tq ty e : TypeId} {i : TypeInfo} {z : Value} {kk kq : IntKind} {q : Int} (ht : P.underlying t = some (.slice e)) (htq : P.underlying tq = some (.int kk)) (hi : P.info? e = some i) (hz : i.zero = some z) (base : Option Addr) (n cap : Nat) (h0 : 0 <= q) (hw : IntKind.i64.wrap q = q) (h48 : q * i.bytes <= 281474976710656) (hsz : 0 < i.size)
 {olds : List Value} (hold : ∀ w' : World,w'.heap = w.heap -> (Builtin.firstCells i.size n (.slice base n cap)).run P w' = .ok olds.toArray w') (hg : cap < n + q.toNat) (h63 : n + q.toNat <= 9223372036854775807) (hfit : Builtin.nextslicecap (n + q.toNat) cap * i.bytes <= 281474976710656) :
 (Builtin.append_ #[t,tq] ty #[.slice base n cap,.int kq q]).run P w =
   .ok (.slice (some ⟨w.heap.size,0,none⟩) (n + q.toNat) (grownCap w (n + q.toNat) cap e)) (w.drew.alloc (.cells (olds.toArray ++ (Builtin.zeroCells z.cells q.toNat).toList.toArray ++ Builtin.zeroCells z.cells (grownCap w (n + q.toNat) cap e - (n + q.toNat))) e)):=by
 have h1 : ¬ q < 0:=by omega
 have h2 : ¬ (281474976710656 < q * i.bytes):=by omega
 have hn : ¬ (n + q.toNat <= cap):=by omega
 have h63' : ¬ (9223372036854775807 < ((n : Int) + (q.toNat : Int))):=by omega
 have h63'' : ¬ (9223372036854775807 < ((n : Int) + max q 0)):=by omega
 have h48' : ¬ (281474976710656 < Builtin.nextslicecap (n + q.toNat) cap * i.bytes):=by omega
 have ho:=hold w.drew rfl;by_cases hc : q.toNat * i.size = 0
 . have hq0 : q.toNat = 0:=by
    rcases Nat.mul_eq_zero.1 hc with h | h
    . exact h
    . omega
   have hz1 : (Builtin.zeroCells z.cells q.toNat) = #[]:=by rw [hq0];simp [Builtin.zeroCells]
   simp [Builtin.append_,run_underlying ht,run_underlying htq,sizeOf,typeInfo,zeroValue,hi,hz,asInt,asIntOf,hw,h1,h2,hn,h63',h63'',h48',Question.forced,ho,newRow,grownCap,hc,hz1]
 . simp [Builtin.append_,run_underlying ht,run_underlying htq,sizeOf,typeInfo,zeroValue,hi,hz,asInt,asIntOf,hw,h1,h2,hn,h63',h63'',h48',Question.forced,ho,newRow,grownCap,hc]
theorem zCm (hT : qP P T) (st : St cx r H w) (hfr : zAq r H nm wd) (hwd : 0 < wd) {t tq ty e : TypeId} {ti : TI} {kk kq : IntKind} {q : Int} (ht : P.underlying t = some (.slice e)) (htq : P.underlying tq = some (.int kk)) (hTe : T e = some ti) {sz : Nat} (hsz : 0 < sz) (hes : szN P e = sz) (hzl : ti.zero.length = sz)
 {k n : Nat} {f : Nat -> Nat -> CV} (hk : zX H k = some ⟨e,n,sz,false,f⟩) {x : Value} (hx : (CV.os k 0 n).rel r cx.X (wr r H) w x) (h0 : 0 <= q) (hw : IntKind.i64.wrap q = q) (hb : (n + q.toNat) * ti.bytes <= 140737488355328) (h63 : n + q.toNat <= 9223372036854775807) (p : Option Prop) (rd : List Nat) :
 ∃ v w',(Builtin.append_ #[t,tq] ty #[x,.int kq q]).run P w = .ok v w' /\ zAD cx r H w nm wd ⟨p,zL (.os nm 0 (n + q.toNat)),[(nm,some ⟨e,n + q.toNat,sz,false,λk j=>Zp (Nat.blt k n) (f k j) (nth ti.zero j)⟩),(k,none)],rd⟩ v w':=by
 obtain ⟨i,z,hi,hszi,hz,hl,hall,hby⟩:=(hT e ti hTe).info;have same : ∀ (i' : TypeInfo) (z' : Value),P.info? e = some i' -> i'.zero = some z' -> i' = i /\ z' = z:=λi' z' h1 h2=>by
  rw [hi] at h1;injection h1 with h1;subst h1;rw [hz] at h2;injection h2 with h2;exact ⟨rfl,h2.symm⟩
 have h48 : q * i.bytes <= 281474976710656:=by
  have h1 : q.toNat * ti.bytes <= (n + q.toNat) * ti.bytes:=Nat.mul_le_mul_right _ (by omega);have h2 : q * (i.bytes : Int) = ((q.toNat * ti.bytes : Nat) : Int):=by
   rw [hby,Int.natCast_mul,Int.toNat_of_nonneg h0]
  omega
 exact own_gen hT st hfr hwd hTe hsz hes hzl hk hx (zero_lies (m:=q.toNat) hl hall hzl hsz)
  (λi' z' h1 h2 h3 h4 base cap w' hxe hroom hst hno=>by
    obtain ⟨rfl,rfl⟩:=same i' z' h1 h2;subst hxe;exact zE4 ht htq h1 h2 base n cap h0 hw h48 (by omega) hroom hst hno)
  (λi' z' h1 h2 h3 h4 base cap olds hxe hold hg hfit=>by
    obtain ⟨rfl,rfl⟩:=same i' z' h1 h2;subst hxe;exact zE5 ht htq h1 h2 base n cap h0 hw h48 (by omega) hold hg h63 hfit)
  hb h63 p rd
theorem appZ_ok (hT : qP P T) (st : St cx r H w) (hfr : zAq r H nm wd) (hwd : 0 < wd) {t t' type : TypeId} {x y : FV} {vx vy : Value} {sr : SR} (h : appZ T t t' x y H nm = some sr) (hp : Qh sr.pre) (hx : x.rel r cx.X (wr r H) w vx) (hy : y.rel r cx.X (wr r H) w vy) :
 ∃ v w',(Builtin.append_ #[t,t'] type #[vx,vy]).run P w = .ok v w' /\ zAD cx r H w nm wd sr v w':=by
 unfold appZ at h;split at h
 . rename_i e es s0 z0 eq0 by0 kk s9 z9 eq9 by9 hTt hTt';obtain ⟨d,hd,htd⟩:=(hT t _ hTt).under;obtain ⟨rfl,hes,hinf⟩:=QA htd;obtain ⟨d2,hd2,htd2⟩:=(hT t' _ hTt').under;have:=zE1 htd2;subst this;split at h
   . rename_i d1 s1 z eq1 bytes k i n kq q hTe;split at h
     . rename_i et en esz f he;cases hbc : (Nat.beq i 0 && Nat.beq esz es && Nat.beq et e && Nat.beq z.length es && Nat.blt 0 es) with
       | false=>rw [hbc] at h;cases h
       | true=>
         rw [hbc,cond_true] at h;simp only [Bool.and_eq_true] at hbc;have c1 : i = 0:=Nat.eq_of_beq_eq_true hbc.1.1.1.1;have c2 : esz = es:=Nat.eq_of_beq_eq_true hbc.1.1.1.2;have c3 : et = e:=Nat.eq_of_beq_eq_true hbc.1.1.2;have c4 : z.length = es:=Nat.eq_of_beq_eq_true hbc.1.2;have c5 : 0 < es:=Nat.le_of_ble_eq_true hbc.2;subst c1 c2 c3;injection h with h;subst h;have hp3 : n = en /\ 0 <= q /\ IntKind.i64.wrap q = q /\ (n + q.toNat) * bytes <= 140737488355328 /\ n + q.toNat <= 9223372036854775807:=hp;obtain ⟨rfl,p1,p2,p3,p4⟩:=hp3;have : vy = .int kq q:=hy;subst this;exact zCm hT st hfr hwd hd hd2 hTe c5 hes c4 he hx p1 p2 p3 p4 _ _
     . cases h
   . cases h
 . cases h
end
section
variable {P : Program} {cx : Cx} {r : QK} {H : Hp} {w : World} {T : YU} {fr : Fr} {a : Act} {nm wd : Nat}
theorem ZE {o : Oper} {sr : SR} {K : Act -> World -> Prop} {Q : Exit -> Act -> World -> Prop} (h : zBu P cx r H w nm wd sr (execOp a.eval o))
 (hK : ∀ v w',zAD cx r H w nm wd sr v w' -> K (a.put o.dst v) w') : o.wp P a w K Q:=by
 obtain ⟨v,w',hv,hl⟩:=h;unfold Oper.wp;rcases hv with hv | ⟨hv,rfl⟩
 . rw [hv];exact hK v w' hl
 . rw [hv];exact hK undef w' hl
theorem zCC {x : FV} {sr : SR} (h : (x.see λv=>some (⟨none,v,[],[]⟩ : SR)) = some sr) : sr = ⟨none,x,[],[]⟩:=by
 rw [FV.see_eq] at h;injection h with h;exact h.symm
theorem zBQ {vals : Array Value} {x y : FV} {X W : Nat -> Prop} (hl : zAe r X W w [x,y] vals) : ∃ v u,vals = #[v,u] /\ x.rel r X W w v /\ y.rel r X W w u:=by
 obtain ⟨l⟩:=vals;match l,hl.1 with
 | [v,u],_=>exact ⟨v,u,rfl,hl.2 0 _ _ rfl rfl,hl.2 1 _ _ rfl rfl⟩
theorem one_val {vals : Array Value} {x : FV} {X W : Nat -> Prop} (hl : zAe r X W w [x] vals) : ∃ v,vals = #[v] /\ x.rel r X W w v:=by
 obtain ⟨l⟩:=vals;match l,hl.1 with
 | [v],_=>exact ⟨v,rfl,hl.2 0 _ _ rfl rfl⟩
theorem zCD {s : Sem Value} {sr : SR} (h : ∃ v w',s.run P w = .ok v w' /\ zAD cx r H w nm wd sr v w') : zBu P cx r H w nm wd sr (do pure (.value (<- s))):=by
 obtain ⟨v,w',h1,h2⟩:=h;exact ⟨v,w',.inl (by simp [h1]),h2⟩
theorem callB_ok (hT : qP P T) (st : St cx r H w) (hfr : zAq r H nm wd) (hwd : 0 < wd) {b : Builtin} {ts : Array TypeId} {args : List FV} {vals : Array Value} {sr : SR} {type : TypeId} {cs : Array Bool} (h : zET T b ts args H nm = some sr) (hp : Qh sr.pre) (hl : zAe r cx.X (wr r H) w args vals) :
 zBu P cx r H w nm wd sr (builtin b ts type cs vals):=by
 unfold zET at h;split at h
 ·
  rename_i x;split at h
  . rename_i t ht;split at h
    . rename_i hTt;obtain ⟨d,hd,htd⟩:=(hT t _ hTt).under;obtain ⟨rfl,_,_⟩:=QA htd;obtain ⟨v,rfl,hv⟩:=one_val hl;split at h
      . rename_i n _ _;injection h with h;subst h;obtain ⟨ad,cap,rfl,_⟩:=hv;exact Zl st (v:=.int .i64 n) (by simp [Builtin.len_,ht,run_underlying hd,goInt]) rfl rfl
      . rename_i n;injection h with h;subst h;obtain ⟨ad,cap,rfl,_⟩:=hv;exact Zl st (v:=.int .i64 n) (by simp [Builtin.len_,ht,run_underlying hd,goInt]) rfl rfl
      . rename_i n _;injection h with h;subst h;obtain ⟨ad,cap,rfl,_⟩:=hv;exact Zl st (v:=.int .i64 n) (by simp [Builtin.len_,ht,run_underlying hd,goInt]) rfl rfl
      . injection h with h;subst h;have : v = .slice none 0 0:=hv;subst this;exact Zl st (v:=.int .i64 0) (by simp [Builtin.len_,ht,run_underlying hd,goInt]) rfl rfl
      . cases h
    . cases h
  . cases h
 . rename_i k x k' y;injection h with h;subst h;obtain ⟨v,u,rfl,e1,e2⟩:=zBQ hl;have e1 : v = .int k x:=e1;have e2 : u = .int k' y:=e2;subst e1 e2;exact Zl st (v:=.int k (if y < x then y else x)) (by simp [Builtin.min_,Builtin.min2]) rfl rfl
 . rename_i k x k' y;injection h with h;subst h;obtain ⟨v,u,rfl,e1,e2⟩:=zBQ hl;have e1 : v = .int k x:=e1;have e2 : u = .int k' y:=e2;subst e1 e2;exact Zl st (v:=.int k (if x < y then y else x)) (by simp [Builtin.max_,Builtin.max2]) rfl rfl
 ·
  rename_i x y;split at h
  . rename_i t t' hts;cases hbt : Nat.beq t t' with
    | false=>
      rw [hbt,cond_false] at h;have hts' : ts = #[t,t']:=Array.ext' (by simpa using hts);subst hts';obtain ⟨vx,vy,rfl,hx,hy⟩:=zBQ hl;exact zCD (s:=Builtin.append_ #[t,t'] type #[vx,vy]) (appZ_ok hT st hfr hwd h hp hx hy)
    | true=>
      rw [hbt,cond_true] at h;have:=Nat.eq_of_beq_eq_true hbt;subst this;have hts' : ts = #[t,t]:=Array.ext' (by simpa using hts);subst hts';obtain ⟨vx,vy,rfl,hx,hy⟩:=zBQ hl;split at h
      . rename_i e es s0 z0 eq0 by0 hTt;obtain ⟨d,hd,htd⟩:=(hT t _ hTt).under;obtain ⟨rfl,hes,hinf⟩:=QA htd;split at h
        . rename_i d1 s1 z eq1 bytes m g p rd hTe hsrc;cases hb0 : Nat.blt 0 es with
          | false=>rw [hb0] at hsrc;cases hsrc
          | true=>
            rw [hb0,cond_true] at hsrc;have e0:=QY hb0;cases hbz : Nat.beq z.length es with
            | false=>rw [hbz] at h;cases h
            | true=>
              rw [hbz,cond_true] at h;have ez : z.length = es:=Nat.eq_of_beq_eq_true hbz;split at h
              . injection h with h;subst h;obtain ⟨hp1,hp2⟩:=YV.1 hp;obtain ⟨news,hlies⟩:=zCH st (by omega) hsrc hp1 hy;have : vx = .slice none 0 0:=hx;subst this;have hp3 : m * bytes <= 140737488355328 /\ m <= 9223372036854775807:=hp2;exact zCD (s:=Builtin.append_ #[t,t] type #[.slice none 0 0,vy]) (zDA hT st hfr hwd hd hTe (by omega) hes ez hlies hp3.1 hp3.2 _ _)
              . rename_i k i n;split at h
                . rename_i et en esz f he;cases hbc : (Nat.beq i 0 && Nat.beq esz es && Nat.beq et e) with
                  | false=>rw [hbc] at h;cases h
                  | true=>
                    rw [hbc,cond_true] at h;simp only [Bool.and_eq_true] at hbc;have c1 : i = 0:=Nat.eq_of_beq_eq_true hbc.1.1;have c2 : esz = es:=Nat.eq_of_beq_eq_true hbc.1.2;have c3 : et = e:=Nat.eq_of_beq_eq_true hbc.2;subst c1 c2 c3;injection h with h;subst h;obtain ⟨hp1,hp2⟩:=YV.1 hp;obtain ⟨news,hlies⟩:=zCH st (by omega) hsrc hp1 hy;have hp3 : n = en /\ (n + m) * bytes <= 140737488355328 /\ n + m <= 9223372036854775807:=hp2;obtain ⟨rfl,hp4,hp5⟩:=hp3;exact zCD (s:=Builtin.append_ #[t,t] type #[vx,vy]) (zDB hT st hfr hwd hd hTe (by omega) hes ez he hx hlies hp4 hp5 _ _)
                . cases h
              . cases h
        . cases h
      . cases h
  . cases h
 ·
  rename_i x y;split at h
  . rename_i t ht;obtain ⟨vx,vy,rfl,hx,hy⟩:=zBQ hl;split at h
    . rename_i e es s0 z0 eq0 by0 hTt;obtain ⟨d,hd,htd⟩:=(hT t _ hTt).under;obtain ⟨rfl,hes,hinf⟩:=QA htd;split at h
      . rename_i m g p rd hsrc;cases hb0 : Nat.blt 0 es with
        | false=>rw [hb0] at hsrc;cases hsrc
        | true=>
          rw [hb0,cond_true] at hsrc;have e0:=QY hb0;obtain ⟨je,hje,hjes⟩:=QZ hes e0;split at h
          . rename_i k i n;split at h
            . rename_i et en esz f he;cases hbc : Nat.beq esz es with
              | false=>rw [hbc] at h;cases h
              | true=>
                rw [hbc,cond_true] at h;have c2 : esz = es:=Nat.eq_of_beq_eq_true hbc;injection h with h;subst h;obtain ⟨hp1,hp2⟩:=YV.1 hp;obtain ⟨news,hlies⟩:=zCH st (by omega) hsrc hp1 hy;exact zCD (s:=Builtin.copy_ ts type #[vx,vy]) (zEv ht hd hje st he (c2.trans hjes.symm) hx hp2 (by rw [hjes];exact hlies) _ _)
            . cases h
          . rename_i k i j n s;split at h
            . rename_i et en esz v f he;cases hbc : Nat.beq s es with
              | false=>rw [hbc] at h;cases h
              | true=>
                rw [hbc,cond_true] at h;have c2 : s = es:=Nat.eq_of_beq_eq_true hbc;injection h with h;subst h;obtain ⟨hp1,hp2⟩:=YV.1 hp;obtain ⟨news,hlies⟩:=zCH st (by omega) hsrc hp1 hy;have hp3 : i < en /\ j + n * s <= esz:=hp2;exact zCD (s:=Builtin.copy_ ts type #[vx,vy]) (zEw ht hd hje (by omega) st he (c2.trans hjes.symm) hx hp3.1 hp3.2 (by rw [hjes];exact hlies) _ _)
            . cases h
          . cases h
      . cases h
    . cases h
  . cases h
 . cases h
theorem fn_vals {n m : Nat} {c : Nat -> CV} {args : List FV} {vals fs cs : Array Value} {X W : Nat -> Prop} (hl : zAe r X W w args vals) (h1 : fs.size = n) (h2 : cs.size = m) (h3 : ∀ k u,fs[k]? = some u -> (c k).rel r X W w u) (h4 : ∀ k u,cs[k]? = some u -> (c (n + k)).rel r X W w u) :
 zAe r X W w (zE3 n m c args) (fs ++ vals ++ cs):=by
 have hlen : ((List.range n).map (λk=>zL (c k)) ++ args).length = n + args.length:=by simp
 refine ⟨by simp [zE3,h1,h2,hl.1],λi x u hx hu=>?_⟩;unfold zE3 at hx;rcases Nat.lt_or_ge i n with hi | hi
 . rw [List.append_assoc,List.getElem?_append_left (by simpa using hi)] at hx;rw [Array.append_assoc,Array.getElem?_append_left (by omega)] at hu;simp only [List.getElem?_map,List.getElem?_range,hi,if_true,Option.map_some,Option.some.injEq] at hx;subst hx;exact h3 i u hu
 . rcases Nat.lt_or_ge i (n + args.length) with hj | hj
   . rw [List.getElem?_append_left (by rw [hlen];exact hj),List.getElem?_append_right (by simpa using hi)] at hx;have e1 : (fs ++ vals).size = n + args.length:=by simp [h1,hl.1]
     rw [Array.getElem?_append_left (by omega),Array.getElem?_append_right (by omega),h1] at hu;simp only [List.length_map,List.length_range] at hx;exact hl.2 (i - n) x u hx hu
   . rw [List.getElem?_append_right (by rw [hlen];exact hj),hlen] at hx;have e1 : (fs ++ vals).size = n + args.length:=by simp [h1,hl.1]
     rw [Array.getElem?_append_right (by omega),e1] at hu;have hk : i - (n + args.length) < m:=by have:=(Array.getElem?_eq_some_iff.1 hu).1;omega
     simp only [List.getElem?_map,List.getElem?_range,hk,if_true,Option.map_some,Option.some.injEq] at hx;subst hx;exact h4 _ u hu
theorem zDe {X W : Nat -> Prop} : ∀ (xs : List Operand) (l : List CV),(xs.map (ev fr)).mapM (fun | .e (.c x)=>some x | _=>none : FV -> Option CV) = some l -> (∀ x,(ev fr x).rel r X W w (a.eval x)) -> l.length = xs.length /\ ∀ (k : Nat) u,(xs.map a.eval)[k]? = some u -> (nth l k).rel r X W w u:=by
 intro xs;induction xs with
 | nil=>
   intro l h _;simp only [List.map_nil,List.mapM_nil,Option.pure_def,Option.some.injEq] at h;subst h;exact ⟨rfl,λk u hu=>by simp at hu⟩
 | cons x xs ih=>
   intro l h hf;simp only [List.map_cons,List.mapM_cons,Option.bind_eq_bind,Option.bind_eq_some_iff,Option.pure_def,Option.some.injEq] at h;obtain ⟨y,hy,l',hl',rfl⟩:=h;obtain ⟨h1,h2⟩:=ih l' hl' hf;refine ⟨by simp [h1],λk u hu=>?_⟩;cases k with
   | zero=>
     simp only [List.map_cons,List.getElem?_cons_zero,Option.some.injEq] at hu;subst hu;have hx:=hf x;split at hy
     . rename_i z hz;injection hy with hy;subst hy;rw [hz] at hx;exact hx
     . cases hy
   | succ k=>
     simp only [List.map_cons,List.getElem?_cons_succ] at hu;exact h2 k u hu
theorem step_ok (hT : qP P T) {o : Oper} {sr : SR} (hs : qW T o.op fr H nm = some sr) (hp : Qh sr.pre) (st : St cx r H w) (hf : YW cx r H w fr a.tmps) (hfr : zAq r H nm wd) (hwd : 0 < wd)
 {K : Act -> World -> Prop} {Q : Exit -> Act -> World -> Prop} (hK : ∀ v w',zAD cx r H w nm wd sr v w' -> K (a.put o.dst v) w') : o.wp P a w K Q:=by
 obtain ⟨dst,op,type,pos,after,guard⟩:=o;have E : ∀ x,(ev fr x).rel r cx.X (wr r H) w (a.eval x):=ev_ok st hf;cases op<;>simp only [qW,reduceCtorEq] at hs;case move x=>
  have:=zCC hs;subst this;exact (λh=>ZE h hK) (Zl st (s:=pure (a.eval x)) rfl rfl (E x))
 case assign x=>
  have:=zCC hs;subst this;exact (λh=>ZE h hK) (Zl st (s:=pure (a.eval x)) rfl rfl (E x))
 case pick c x y=>
  have hc:=E c;split at hs
  . rename_i hcv;rw [hcv] at hc;have hc' : a.eval c = .bool true:=hc;have:=zCC hs;subst this;refine (λh=>ZE h hK) ⟨a.eval x,w,.inl ?_,YJ st rfl (E x)⟩;simp [execOp,hc',asBool]
  . rename_i hcv;rw [hcv] at hc;have hc' : a.eval c = .bool false:=hc;have:=zCC hs;subst this;refine (λh=>ZE h hK) ⟨a.eval y,w,.inl ?_,YJ st rfl (E y)⟩;simp [execOp,hc',asBool]
  . cases hs
 case alloc t=>
  split at hs
  . rename_i d0 s0 z0 eq0 by0 ht;cases hb : Nat.blt 0 z0.length with
    | false=>rw [hb] at hs;cases hs
    | true=>
      rw [hb,cond_true] at hs;injection hs with hs;subst hs;exact (λh=>ZE h hK) (zDC hT st hfr hwd ht (Nat.le_of_ble_eq_true hb))
  . cases hs
 case box t x=>
  split at hs
  . rename_i y hy;split at hs
    . rename_i n f hc;cases hb : Nat.blt 0 n with
      | false=>rw [hb] at hs;cases hs
      | true=>
        rw [hb,cond_true] at hs;injection hs with hs;subst hs;exact (λh=>ZE h hK) (zD2 st hfr hwd (fv_e (E x) hy) hc (Nat.le_of_ble_eq_true hb))
    . cases hs
  . cases hs
 case buildSlice t len parts=>
  split at hs
  . rename_i e es s0 z0 eq0 by0 hTt;obtain ⟨d,hd,htd⟩:=(hT t _ hTt).under;obtain ⟨rfl,hes,hinf⟩:=QA htd;split at hs
    . rename_i d1 s1 z eq1 by1 hTe;cases hb : (Nat.blt 0 es && Nat.beq z.length es && Nat.ble (len * es) 16777216) with
      | false=>rw [hb] at hs;cases hs
      | true=>
        rw [hb,cond_true] at hs;simp only [Bool.and_eq_true] at hb;have e0:=QY hb.1.1;have ez : z.length = es:=Nat.eq_of_beq_eq_true hb.1.2;have el:=Nat.le_of_ble_eq_true hb.2;split at hs
        . rename_i f hparts;injection hs with hs;subst hs;exact (λh=>ZE h hK) (step_lit hT st hfr hwd hd hTe (by omega) hes ez el E hparts)
        . cases hs
    . cases hs
  . cases hs
 case makeSlice t l c=>
  have hl:=E l;have hc:=E c;split at hs
  . rename_i e es s0 z0 eq0 by0 kl vl kc vc hTt hle hce;rw [hle] at hl;rw [hce] at hc;have hl' : a.eval l = .int kl vl:=hl;have hc' : a.eval c = .int kc vc:=hc;obtain ⟨d,hd,htd⟩:=(hT t _ hTt).under;obtain ⟨rfl,hes,hinf⟩:=QA htd;split at hs
    . rename_i d1 s1 z eq1 by1 hTe;cases hb : (Nat.blt 0 es && Nat.beq z.length es) with
      | false=>rw [hb] at hs;cases hs
      | true=>
        rw [hb,cond_true] at hs;simp only [Bool.and_eq_true] at hb;have e0:=QY hb.1;have ez : z.length = es:=Nat.eq_of_beq_eq_true hb.2;injection hs with hs;subst hs;have hp' : 0 <= vl /\ vl <= vc /\ (by1 : Int) * vc <= 281474976710656 /\ vc <= 9223372036854775807:=hp;refine ZE (o:=⟨dst,.makeSlice t l c,type,pos,after,guard⟩) ?_ hK;have h1:=step_make (P:=P) (nm:=nm) (wd:=wd) hT st hfr hwd hd hTe (by omega) hes ez (kl:=kl) (kc:=kc) hp'.1 hp'.2.1 hp'.2.2.1 hp'.2.2.2 (some (0 <= vl /\ vl <= vc /\ (by1 : Int) * vc <= 281474976710656 /\ vc <= 9223372036854775807)) [];rw [<- hl',<- hc'] at h1;exact h1
    . cases hs
  . cases hs
 case makeFunc fn first captured=>
  cases fn with
  | func f=>
    simp only at hs;split at hs
    . rename_i l l' h1 h2;injection hs with hs;subst hs;obtain ⟨a1,a2⟩:=zDe (a:=a) (r:=r) (w:=w) (X:=cx.X) (W:=wr r H) first.toList l h1 E
      obtain ⟨b1,b2⟩:=zDe (a:=a) (r:=r) (w:=w) (X:=cx.X) (W:=wr r H) captured.toList l' h2 E;refine (λh=>ZE h hK) (Zl st (s:=Instr.makeFunc (.func f) (first.map a.eval) (captured.map a.eval)) (v:=.func (.func f) (first.map a.eval) (captured.map a.eval)) rfl rfl ?_);refine ⟨_,_,rfl,by simp [a1],by simp [b1],λk u hu=>?_,λk u hu=>?_⟩
      . have hlt : k < l.length:=by have:=(Array.getElem?_eq_some_iff.1 hu).1;simp at this;rw [a1];simpa using this
        have e1 : nth (l ++ l') k = nth l k:=by unfold nth;rw [List.getElem?_append_left hlt]
        rw [e1];exact a2 k u (by simpa using hu)
      . have e1 : nth (l ++ l') (l.length + k) = nth l' k:=by unfold nth;rw [List.getElem?_append_right (by omega)];congr 2;omega
        rw [e1];exact b2 k u (by simpa using hu)
    . cases hs
  | method n=>cases hs
  | methodOf t n=>cases hs
  | via t p f b=>cases hs
  | yield l=>cases hs
 case build t parts=>
  split at hs
  . rename_i fs sz z eq0 by0 ht;cases hall : fs.all (λx=>x.2.2.isSome) with
    | false=>rw [hall] at hs;cases hs
    | true=>
      rw [hall,cond_true] at hs;split at hs
      . rename_i f hfill;injection hs with hs;subst hs;exact (λh=>ZE h hK) (zDD hT st ht hall E hfill)
      . cases hs
  . rename_i n e es b sz z eq0 by0 ht;cases hb : Nat.blt 0 es with
    | false=>rw [hb] at hs;cases hs
    | true=>
      have hb':=QY hb;rw [hb,cond_true] at hs;split at hs
      . rename_i f hfill;injection hs with hs;subst hs;exact (λh=>ZE h hK) (zCh hT st ht E (by simp only [hb];exact hfill) hb')
      . cases hs
  . cases hs
 case load t x=>
  have hx:=E x;split at hs
  . rename_i ti k i j sym ht hxe;rw [hxe] at hx;obtain ⟨b,hb,hv⟩:=hx;split at hs
    . rename_i et en es v ef he;refine ZE (o:=⟨dst,.load t x,type,pos,after,guard⟩) ?_ hK;have h1:=zBT (nm:=nm) (wd:=wd) hT st (b:=b.b) (off:=i * b.sz + j) ht hs hp (λhq q hq2=>by
       have hi : i + 1 <= en:=zCP hq;obtain ⟨u,hu,hr⟩:=YK st he hb (i:=i) (j:=j + q) (show i < en by omega) (show j + q < es by omega);exact ⟨u,by rw [Nat.add_assoc];exact hu,hr⟩)
      rw [<- hv] at h1;exact h1
    . cases hs
  . rename_i ti sh m g ht hxe;rw [hxe] at hx;obtain ⟨b,off,hv,ho,hX,hlt,hc⟩:=zDK hx;refine ZE (o:=⟨dst,.load t x,type,pos,after,guard⟩) ?_ hK;have h1:=zBT (nm:=nm) (wd:=wd) hT st (b:=b) (off:=off) ht hs hp (λ_=>hc);rw [<- hv] at h1;exact h1
  . cases hs
 case store t x y=>
  have hx:=E x;split at hs
  . rename_i d0 tsz z0 eq0 by0 k i j sym z ht hxe hye;rw [hxe] at hx;split at hs
    . rename_i et en es v ef n g he hc;cases hb0 : Nat.beq n tsz with
      | false=>rw [hb0] at hs;cases hs
      | true=>
        rw [hb0,cond_true] at hs;have e1 : n = tsz:=Nat.eq_of_beq_eq_true hb0;injection hs with hs;subst hs;obtain ⟨p1,p2⟩:=YV.1 hp;have q1 : i + 1 <= en:=zCP p1;exact (λh=>ZE h hK) (zDE hT st ht hx he (fv_e (E y) hye) hc e1 (show i < en by omega) (zCP p2) _)
    . cases hs
  . cases hs
 case nilCheck x=>
  have hx:=E x;split at hs
  . rename_i k i j s hxe;rw [hxe] at hx;injection hs with hs;subst hs;have hx':=hx;obtain ⟨b,hb,hv⟩:=hx;exact (λh=>ZE h hK) ⟨a.eval x,w,.inl (by simp [execOp,hv]),YJ st rfl hx'⟩
  . rename_i sh m g hxe;rw [hxe] at hx;injection hs with hs;subst hs;have hx':=hx;obtain ⟨ad,hv,_⟩:=hx;exact (λh=>ZE h hK) ⟨a.eval x,w,.inl (by simp [execOp,hv]),YJ st rfl hx'⟩
  . rename_i f n m c hxe;rw [hxe] at hx;injection hs with hs;subst hs;have hx':=hx;obtain ⟨fs,cs,hv,_⟩:=hx;exact (λh=>ZE h hK) ⟨a.eval x,w,.inl (by simp [execOp,hv]),YJ st rfl hx'⟩
  . cases hs
 case binOp op t x y ty=>
  split at hs
  . rename_i p v hb;rw [CV.see_eq] at hs;injection hs with hs;subst hs;obtain ⟨z,h1,h2⟩:=bin_ok (P:=P) hT hb hp (E x) (E y) x y;exact (λh=>ZE h hK) (Zl st h1 rfl h2)
  . cases hs
 case unOp op t x=>
  have hx:=E x;split at hs
  . rename_i b hxe;rw [hxe] at hx;have hv : a.eval x = .bool b:=hx;injection hs with hs;subst hs;exact (λh=>ZE h hK) (Zl st (s:=Op.unary .not (a.eval x)) (v:=.bool (!b)) (by rw [hv];rfl) rfl rfl)
  . rename_i k n hxe;rw [hxe] at hx;have hv : a.eval x = .int k n:=hx;injection hs with hs;subst hs;exact (λh=>ZE h hK) (Zl st (s:=Op.unary .neg (a.eval x)) (v:=.int k (k.wrap (0 - n))) (by rw [hv];rfl) rfl rfl)
  . rename_i k n hxe;rw [hxe] at hx;have hv : a.eval x = .int k n:=hx;injection hs with hs;subst hs;exact (λh=>ZE h hK) (Zl st (s:=Op.unary .xor (a.eval x)) (v:=.int k (bits .xor k (if k.signed then -1 else k.max) n)) (by rw [hv];rfl) rfl rfl)
  . cases hs
 case convert src dst' x=>
  have hx:=E x;split at hs
  . rename_i tis k sz z eq0 by0 kk n hsrc hdst hxe;rw [hxe] at hx;have hv : a.eval x = .int _ _:=hx;injection hs with hs;subst hs;obtain ⟨d,hd,_⟩:=(hT _ _ hsrc).under;obtain ⟨d',hd',htd⟩:=(hT _ _ hdst).under;have:=zE1 htd;subst this;exact (λh=>ZE h hK) (Zl st (s:=convert src dst' (a.eval x)) (by rw [hv];simp [convert,run_underlying hd,run_underlying hd',Conv.intToInt]) rfl rfl)
  . cases hs
 case fieldAddr t x i=>
  have hx:=E x;split at hs
  . rename_i fs sz z eq0 by0 k i1 j1 sym ht hxe;rw [hxe] at hx;obtain ⟨d,hd,htd⟩:=(hT _ _ ht).under;obtain ⟨fa,rfl,hfa⟩:=zBl htd;obtain ⟨b,hb,hv⟩:=hx;split at hs
    . rename_i o s bb hi;obtain ⟨f,hf1,hf2,hf3,_⟩:=fs_at hfa hi;cases hb0 : Nat.blt 0 s with
      | false=>rw [hb0] at hs;cases hs
      | true=>
        rw [hb0,cond_true] at hs;injection hs with hs;subst hs;refine (λh=>ZE h hK) (Zl st (s:=Instr.fieldAt t (a.eval x) i) (by rw [hv];exact zC1 hd hf1 hf3 (QY hb0) b.b (i1 * b.sz + j1)) rfl ?_);exact ⟨b,hb,by rw [hf2,Nat.add_assoc]⟩
    . cases hs
  . rename_i fs sz z eq0 by0 sh m g ht hxe;rw [hxe] at hx;obtain ⟨d,hd,htd⟩:=(hT _ _ ht).under;obtain ⟨fa,rfl,hfa⟩:=zBl htd;obtain ⟨b,off,hv,ho,hX,hlt,hc⟩:=zDK hx;split at hs
    . rename_i o s bb hi;obtain ⟨f,hf1,hf2,hf3,_⟩:=fs_at hfa hi;cases hb0 : Nat.blt 0 s with
      | false=>rw [hb0] at hs;cases hs
      | true=>
        rw [hb0,cond_true] at hs;injection hs with hs;subst hs;refine (λh=>ZE h hK) (Zl st (s:=Instr.fieldAt t (a.eval x) i) (by rw [hv];exact zC1 hd hf1 hf3 (QY hb0) b off) rfl ?_);refine rp_mk ho hX hlt λj hj=>?_;rw [hf2,Nat.add_assoc];exact hc (o + j) (by omega)
    . cases hs
  . cases hs
 case field t x i=>
  have hx:=E x;split at hs
  . rename_i fs sz z eq0 by0 n g ht hxe;rw [hxe] at hx;obtain ⟨cs,hv,hn,hg⟩:=hx;obtain ⟨d,hd,htd⟩:=(hT _ _ ht).under;obtain ⟨fa,rfl,hfa⟩:=zBl htd;split at hs
    . rename_i o s hi;obtain ⟨f,hf1,hf2,hf3,hf4⟩:=fs_at hfa hi;obtain ⟨df,hdf,haf⟩:=zBj hf4;cases hb0 : (Nat.blt 0 s && Nat.ble (o + s) n) with
      | false=>rw [hb0] at hs;cases hs
      | true=>
        rw [hb0,cond_true] at hs;simp only [Bool.and_eq_true] at hb0;injection hs with hs;subst hs;obtain ⟨j,hj,hjs⟩:=QZ hf3 (QY hb0.1);refine (λh=>ZE h hK) (Zl st (s:=Instr.field t (a.eval x) i) (v:=.agg (cs.extract o (o + s))) ?_ rfl (zC2 hn (Nat.le_of_ble_eq_true hb0.2) hg));rw [hv];simp only [Instr.field,Sem.run_bind,run_underlying hd,Result.andThen_ok,hf1,asAgg,Sem.run_pure,zEO hdf haf hj,hf2,hjs]
    . rename_i o s hi;obtain ⟨f,hf1,hf2,hf3,hf4⟩:=fs_at hfa hi;obtain ⟨df,hdf,haf⟩:=zBj hf4;cases hb0 : Nat.blt o n with
      | false=>rw [hb0] at hs;cases hs
      | true=>
        rw [hb0,cond_true,CV.see_eq] at hs;injection hs with hs;subst hs;have hlt : o < cs.size:=by rw [hn];exact Nat.le_of_ble_eq_true hb0
        have hco : cs[o]? = some cs[o]:=Array.getElem?_eq_getElem hlt;refine (λh=>ZE h hK) (Zl st (s:=Instr.field t (a.eval x) i) (v:=cs[o]) ?_ rfl (hg _ _ hco));rw [hv];simp only [Instr.field,Sem.run_bind,run_underlying hd,Result.andThen_ok,hf1,asAgg,Sem.run_pure,hf2,zEP hdf haf cs o hco]
    . cases hs
  . cases hs
 case indexAddr t x ix=>
  have hx:=E x;have hix:=E ix;split at hs
  . rename_i e es eb sz0 z eq0 by0 sh n sz f k i ht hxe hie;rw [hxe] at hx;rw [hie] at hix;have hiv : a.eval ix = .int _ i:=hix;cases hb0 : (Nat.blt 0 es && Nat.beq sz es) with
    | false=>rw [hb0] at hs;cases hs
    | true=>
      rw [hb0,cond_true] at hs;simp only [Bool.and_eq_true] at hb0;have e0:=QY hb0.1;have e1 : sz = es:=Nat.eq_of_beq_eq_true hb0.2;injection hs with hs;subst hs;obtain ⟨ad0,cap,hv,hnc,hc⟩:=hx;obtain ⟨d,hd,htd⟩:=(hT _ _ ht).under;obtain ⟨rfl,hes,hinf⟩:=QA htd;obtain ⟨j,hj,hjs⟩:=QZ hes e0;have hp' : 0 <= i /\ i < (n : Int):=hp;obtain ⟨ad,rfl,hsp,ho,hX,hlt,hcell⟩:=hc (by omega);refine (λh=>ZE h hK) (Zl st (s:=Instr.indexAt t (a.eval x) (a.eval ix)) (v:=.pointer (some ⟨ad.block,ad.off + i.toNat * es,none⟩)) ?_ rfl ?_)
      . rw [hv,hiv];simp only [Instr.indexAt,asIntOf,Sem.run_bind,Sem.run_pure,run_underlying hd,Result.andThen_ok,hp',and_self,if_true,qg hj,hjs,addS hsp]
      . refine rp_mk ho hX hlt λq hq=>?_;obtain ⟨u,hu,hru⟩:=hcell i.toNat (by omega) q hq;exact ⟨u,by rw [Nat.add_assoc,<- e1];exact hu,hru⟩
  . rename_i e es eb sz0 z eq0 by0 k b n kk i ht hxe hie;rw [hxe] at hx;rw [hie] at hix;have hiv : a.eval ix = .int _ i:=hix;split at hs
    . rename_i et en esz ev0 ef he;cases hb0 : (Nat.blt 0 es && Nat.beq esz es) with
      | false=>rw [hb0] at hs;cases hs
      | true=>
        rw [hb0,cond_true] at hs;simp only [Bool.and_eq_true] at hb0;have e0:=QY hb0.1;have e1 : esz = es:=Nat.eq_of_beq_eq_true hb0.2;injection hs with hs;subst hs;obtain ⟨ad0,cap,hv,hnc,hc⟩:=hx;obtain ⟨d,hd,htd⟩:=(hT _ _ ht).under;obtain ⟨rfl,hes,hinf⟩:=QA htd;obtain ⟨j,hj,hjs⟩:=QZ hes e0;have hp' : 0 <= i /\ i < (n : Int):=hp;obtain ⟨bi,hb1,rfl,_⟩:=hc (by omega);obtain ⟨_,_,hxs,_⟩:=Yp st he hb1;simp only at hxs;refine (λh=>ZE h hK) (Zl st (s:=Instr.indexAt t (a.eval x) (a.eval ix)) (v:=.pointer (some ⟨bi.b,b * bi.sz + i.toNat * es,none⟩)) ?_ rfl ⟨bi,hb1,?_⟩)
        . rw [hv,hiv];simp only [Instr.indexAt,asIntOf,Sem.run_bind,Sem.run_pure,run_underlying hd,Result.andThen_ok,hp',and_self,if_true,qg hj,hjs,zBv]
        . rw [hxs,e1,Nat.add_mul,Nat.add_zero]
    . cases hs
  . rename_i e es eb sz0 z eq0 by0 k b j n s kk i ht hxe hie;rw [hxe] at hx;rw [hie] at hix;have hiv : a.eval ix = .int _ i:=hix;cases hb0 : (Nat.blt 0 es && Nat.beq s es) with
    | false=>rw [hb0] at hs;cases hs
    | true=>
      rw [hb0,cond_true] at hs;simp only [Bool.and_eq_true] at hb0;have e0:=QY hb0.1;have e1 : s = es:=Nat.eq_of_beq_eq_true hb0.2;injection hs with hs;subst hs;obtain ⟨ad0,cap,hv,hnc,hc⟩:=hx;obtain ⟨d,hd,htd⟩:=(hT _ _ ht).under;obtain ⟨rfl,hes,hinf⟩:=QA htd;obtain ⟨q,hj,hjs⟩:=QZ hes e0;have hp' : 0 <= i /\ i < (n : Int):=hp;obtain ⟨bi,hb1,rfl⟩:=hc (by omega);refine (λh=>ZE h hK) (Zl st (s:=Instr.indexAt t (a.eval x) (a.eval ix)) (v:=.pointer (some ⟨bi.b,b * bi.sz + j + i.toNat * es,none⟩)) ?_ rfl ⟨bi,hb1,?_⟩)
      . rw [hv,hiv];simp only [Instr.indexAt,asIntOf,Sem.run_bind,Sem.run_pure,run_underlying hd,Result.andThen_ok,hp',and_self,if_true,qg hj,hjs,zBv]
      . rw [e1,Nat.add_assoc]
  . rename_i n e es b sz0 z eq0 by0 k i1 j1 sym kk i ht hxe hie;rw [hxe] at hx;rw [hie] at hix;have hiv : a.eval ix = .int _ i:=hix;cases hb0 : Nat.blt 0 es with
    | false=>rw [hb0] at hs;cases hs
    | true=>
      rw [hb0,cond_true] at hs;have e0:=QY hb0;injection hs with hs;subst hs;obtain ⟨b,hb,hv⟩:=hx;obtain ⟨d,hd,htd⟩:=(hT _ _ ht).under;obtain ⟨rfl,hes,_⟩:=zBV htd;obtain ⟨j,hj,hjs⟩:=QZ hes e0;have hp' : 0 <= i /\ i < (n : Int):=hp;refine (λh=>ZE h hK) (Zl st (s:=Instr.indexAt t (a.eval x) (a.eval ix)) (v:=.pointer (some ⟨b.b,i1 * b.sz + j1 + i.toNat * es,none⟩)) ?_ rfl ⟨b,hb,by rw [Nat.add_assoc]⟩);rw [hv,hiv];simp only [Instr.indexAt,asIntOf,Instr.sureAddr,Sem.run_bind,Sem.run_pure,run_underlying hd,Result.andThen_ok,hp',and_self,if_true,qg hj,hjs,zBv]
  . rename_i n e es b sz0 z eq0 by0 sh m g kk i ht hxe hie;rw [hxe] at hx;rw [hie] at hix;have hiv : a.eval ix = .int _ i:=hix;cases hb0 : Nat.blt 0 es with
    | false=>rw [hb0] at hs;cases hs
    | true=>
      rw [hb0,cond_true] at hs;have e0:=QY hb0;injection hs with hs;subst hs;obtain ⟨b,off,hv,ho,hX,hlt,hc⟩:=zDK hx;obtain ⟨d,hd,htd⟩:=(hT _ _ ht).under;obtain ⟨rfl,hes,_⟩:=zBV htd;obtain ⟨j,hj,hjs⟩:=QZ hes e0;have hp' : 0 <= i /\ i < (n : Int):=hp;refine (λh=>ZE h hK) (Zl st (s:=Instr.indexAt t (a.eval x) (a.eval ix)) (v:=.pointer (some ⟨b,off + i.toNat * es,none⟩)) ?_ rfl ?_)
      . rw [hv,hiv];simp only [Instr.indexAt,asIntOf,Instr.sureAddr,Sem.run_bind,Sem.run_pure,run_underlying hd,Result.andThen_ok,hp',and_self,if_true,qg hj,hjs,zBv]
      . refine rp_mk ho hX hlt λq hq=>?_;rw [Nat.add_assoc];exact hc _ (by omega)
  . cases hs
 case index t x ix=>
  have hx:=E x;have hix:=E ix;split at hs
  . rename_i n e es sz0 z eq0 by0 m g kk i ht hxe hie;rw [hxe] at hx;rw [hie] at hix;have hiv : a.eval ix = .int _ i:=hix;cases hb0 : (Nat.blt 0 es && Nat.ble (n * es) m) with
    | false=>rw [hb0] at hs;cases hs
    | true=>
      rw [hb0,cond_true] at hs;simp only [Bool.and_eq_true] at hb0;have e0:=QY hb0.1;have em:=Nat.le_of_ble_eq_true hb0.2;injection hs with hs;subst hs;obtain ⟨cs,hv,hn,hg⟩:=hx;obtain ⟨d,hd,htd⟩:=(hT _ _ ht).under;obtain ⟨rfl,hes,hea⟩:=zBV htd;obtain ⟨de,hde,hae⟩:=zBj hea;obtain ⟨j,hj,hjs⟩:=QZ hes e0;have hp2 : 0 <= i /\ i < (n : Int):=hp;have hle : i.toNat * es + es <= m:=by have:=Qd (sz:=es) (show i.toNat < n by omega);omega
      refine (λh=>ZE h hK) (Zl st (s:=Instr.index t (a.eval x) (a.eval ix)) (v:=.agg (cs.extract (i.toNat * es) (i.toNat * es + es))) ?_ rfl (zC2 hn hle hg));rw [hv,hiv];simp only [Instr.index,asIntOf,Sem.run_bind,Sem.run_pure,run_underlying hd,Result.andThen_ok,hp2,and_self,if_true,qg hj,hjs,zEO hde hae hj]
  . rename_i n e es sz0 z eq0 by0 m g kk i ht hxe hie;rw [hxe] at hx;rw [hie] at hix;have hiv : a.eval ix = .int _ i:=hix;cases hb0 : (Nat.blt 0 es && Nat.ble (n * es) m) with
    | false=>rw [hb0] at hs;cases hs
    | true=>
      rw [hb0,cond_true,CV.see_eq] at hs;simp only [Bool.and_eq_true] at hb0;have e0:=QY hb0.1;have em:=Nat.le_of_ble_eq_true hb0.2;injection hs with hs;subst hs;obtain ⟨cs,hv,hn,hg⟩:=hx;obtain ⟨d,hd,htd⟩:=(hT _ _ ht).under;obtain ⟨rfl,hes,hea⟩:=zBV htd;obtain ⟨de,hde,hae⟩:=zBj hea;obtain ⟨j,hj,hjs⟩:=QZ hes e0;have hp2 : 0 <= i /\ i < (n : Int):=hp;have hlt : i.toNat * es < cs.size:=by have:=Qd (sz:=es) (show i.toNat < n by omega);omega
      have hco : cs[i.toNat * es]? = some (cs[i.toNat * es]'hlt):=Array.getElem?_eq_getElem hlt;refine (λh=>ZE h hK) (Zl st (s:=Instr.index t (a.eval x) (a.eval ix)) (v:=cs[i.toNat * es]'hlt) ?_ rfl (hg _ _ hco));rw [hv,hiv];simp only [Instr.index,asIntOf,Sem.run_bind,Sem.run_pure,run_underlying hd,Result.andThen_ok,hp2,and_self,if_true,qg hj,hjs,zEP hde hae cs _ hco]
  . cases hs
 case extract x i=>
  have hx:=E x;split at hs
  . rename_i l hxe;rw [hxe] at hx;obtain ⟨vs,hv,hn,hg⟩:=hx;split at hs
    . rename_i y hy;rw [EV.see_eq] at hs;injection hs with hs;subst hs;have hlt : i < vs.size:=by rw [hn];exact (List.getElem?_eq_some_iff.1 hy).1
      have hco : vs[i]? = some vs[i]:=Array.getElem?_eq_getElem hlt;refine (λh=>ZE h hK) (Zl st (s:=Instr.extract (a.eval x) i) (v:=vs[i]) ?_ rfl (hg i y _ hy hco));rw [hv];simp only [Instr.extract,hco,Sem.run_pure]
    . cases hs
  . cases hs
 case makeMap t rs=>
  cases rs with
  | some y=>cases hs
  | none=>exact (λh=>ZE h hK) (zEs hT st hfr hwd hs)
 case lookup t x k ok=>exact (λh=>ZE h hK) (zEt hT st hs hp (E x) (E k))
 case mapUpdate t m k x=>exact (λh=>ZE h hK) (zCE hT st hs hp (E m) (E k) (E x))
 case insert t m k x=>exact (λh=>ZE h hK) (zCE hT st hs hp (E m) (E k) (E x))
 case slice t x lo hi mx=>
  cases mx with
  | some m=>simp only [reduceCtorEq] at hs
  | none=>
  simp only at hs;obtain ⟨v,h1,h2,h3⟩:=slice_ok (P:=P) hT st E hs hp;exact (λh=>ZE h hK) (Zl st h1 h2 h3)
 case call c=>
  obtain ⟨callee,args,ts⟩:=c;cases callee with
  | builtin b=>
    simp only at hs;refine ZE ?_ hK;have h1:=λcs=>callB_ok (nm:=nm) (wd:=wd) (type:=type) (cs:=cs) hT st hfr hwd hs hp (relL_of st (xs:=args) hf);simp only [execOp,resolve,invoke,pure_bind];exact h1 _
  | invoke x m=>cases hs
  | value f=>cases hs
def Stp (P : Program) (T : YU) (o : Op) (fr : Fr) (H : Hp) (nm wd : Nat) (sr : SR) : Prop:=
 (qW T o fr H nm = some sr /\ Qh sr.pre) \/ ∃ f args,zCk o fr = some (f,args) /\ zC0 P f args H nm wd sr
theorem zDf (hT : qP P T) {o : Oper} {sr : SR} (hs : Stp P T o.op fr H nm wd sr) (st : St cx r H w) (hf : YW cx r H w fr a.tmps) (hfr : zAq r H nm wd) (hall : zBt ∈ sr.rd -> ∀ k,nm <= k -> r k = none /\ zX H k = none) (hwd : 0 < wd)
 {K : Act -> World -> Prop} {Q : Exit -> Act -> World -> Prop} (hK : ∀ v w',zAD cx r H w nm wd sr v w' -> K (a.put o.dst v) w') : o.wp P a w K Q:=by
 rcases hs with ⟨h1,h2⟩ | ⟨f1,args1,hc,hr⟩
 . exact step_ok hT h1 h2 st hf hfr hwd hK
 . obtain ⟨dst,op,type,pos,after,guard⟩:=o;unfold zCk at hc;simp only at hc;split at hc
   . rename_i f args ts;split at hc
     . rename_i f2 n m c hfe;injection hc with hc;injection hc with hc1 hc2;subst hc1 hc2;have hfv:=ev_ok st hf f;rw [hfe] at hfv;obtain ⟨fs,cs,hv,h1,h2,h3,h4⟩:=hfv;obtain ⟨⟨fn,g1,g2,g3⟩,g4⟩:=hr;have g4:=g4 H (λ_ _=>rfl) cx r w (fs ++ args.map a.eval ++ cs) st hfr (λh=>⟨λ_=>rfl,hall h⟩) (fn_vals (relL_of st hf) h1 h2 h3 h4);unfold Oper.wp;have hrun : (execOp a.eval ⟨dst,.call ⟨.value f,args,ts⟩,type,pos,after,guard⟩).run P w = .ok (.enter f2 (fs ++ args.map a.eval ++ cs)) w:=by
        have g2' : fn.body.isNone = false:=by cases hb : fn.body with | none=>rw [hb] at g2;cases g2 | some c=>rfl
        have g3' : ¬ fn.name = "runtime.NumGoroutine":=by simpa using g3
        simp [execOp,resolve,hv,Deferred.ofValue,invoke,callFunc,g1,g3'];intro hb;rw [hb] at g2;cases g2
       rw [hrun,Oper.upon_enter];refine g4.mono λe w' he=>?_;obtain ⟨v,rfl,hl⟩:=he;exact hK v w' hl
     . cases hc
   . cases hc
end
end Go.Proofs.Ytfaibcgakcmhcaa.AX
