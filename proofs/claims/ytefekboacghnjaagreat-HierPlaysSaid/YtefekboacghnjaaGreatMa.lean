/-
  Blocks of cells that a call owns: what a store into one does to it and to the others. (No function of the program in sight.)
  Trees of keys, each node in a block of its own; what turns in memory. Plain Lean: no function of the program in sight.
  Maps of whole numbers: what is known of their keys.
  PLAIN ARITHMETIC UNDER math/bits.Div64 AND THE LONG DIVISION BIT BY BIT. No Go in sight.
  THE WALKS OF package wide, math/bits.Div64, doleref02.
  THE WALK OF math/bits.Div64.
  math/bits.Div64 at every dividend whose upper word is below the divisor; wide.MulDiv, Up, Compare.
  wide.MulDiv, wide.Up, wide.Compare: what they compute.
  wide.Up; doleref02: Product, bit, MulDiv, Up, Compare.
  doleref02: bit, MulDiv, Up, Compare.
  doleref02: Up, Compare; dolelaw02.awake.
  bound.Add, Mul, Scale; doleref11.Div; doleref24.Add, Mul, Scale: what they compute.
  fix.Add, Sat, Hold; doleref01.Add, Sat, Hold: sums held to the ends.
-/
import Derived.Below
import Derived.Lib.Hide
import Derived.RangeFuncBox
import Derived.Deep.Draws
import Derived.OwnWalk
import Derived.Laws.AppendOwn
import Derived.Maps.OwnSet
import Derived.Carry
import Derived.WalkSpells
import Derived.OpenShut
import Derived.Test.YtefekboacghnjaaGreatShelf
import Derived.Test.YtefekboacghnjaaGreatRows
import Derived.WalkKit
import Derived.WalkLawsBesides
import Derived.IntWalk
import Derived.Deep.QuietTactic
import Derived.BigQuiet
import Derived.LoopTactic
import Derived.Outline
import Derived.Lib.ItoaNum
import Derived.BigGuardPart
import Derived.Laws.BitsAllLaws
import Derived.Laws.BitsLemmas
namespace Go.Proofs.YtefekboacghnjaaGreat
open Go.RowKit
def Blk (w:World) (b:Nat) (cs:Array Value) (t:TypeId):Prop:=w.heap[b]?=some (.cells cs t (0,0))
theorem Blk.lt {w:World} {b:Nat} {cs:Array Value} {t:TypeId} (h:Blk w b cs t):b<w.heap.size:=(Array.getElem?_eq_some_iff.1 h).1
theorem Blk.cell {w:World} {b:Nat} {cs:Array Value} {t:TypeId} (h:Blk w b cs t) (i:Nat):w.cell? ⟨b,i,none⟩=cs[i]?:=by simp [World.cell?,show w.heap[b]?=_ from h]
theorem Blk.frozen {w:World} {b:Nat} {cs:Array Value} {t:TypeId} (h:Blk w b cs t) (i:Nat):w.frozen? ⟨b,i,none⟩=false:=by simp [World.frozen?,show w.heap[b]?=_ from h]
theorem Blk.new (w:World) (cs:Array Value) (t:TypeId):Blk (w.alloc (.cells cs t)) w.heap.size cs t:=World.alloc_heap_new w _
theorem Blk.of {w w':World} {b:Nat} {cs:Array Value} {t:TypeId} (h:Blk w b cs t) (e:w'.heap[b]?=w.heap[b]?):Blk w' b cs t:=e.trans h
theorem Blk.below {w w':World} {b B:Nat} {cs:Array Value} {t:TypeId} (h:Blk w b cs t) (hb:Below B w w') (hlt:b<B):Blk w' b cs t:=h.of (hb.block b hlt)
theorem Blk.kept {w w':World} {row:Option Nat} {b:Nat} {cs:Array Value} {t:TypeId} (h:Blk w b cs t) (hg:w.grownBy w' row) (hne:some b≠row):Blk w' b cs t:=h.of (hg.block b h.lt hne)
theorem Blk.alloc {w:World} {b:Nat} {cs:Array Value} {t:TypeId} (h:Blk w b cs t) (o:Obj):Blk (w.alloc o) b cs t:=h.of (Below.heap_alloc w o b h.lt)
theorem Blk.drewN {w:World} {b:Nat} {cs:Array Value} {t:TypeId} (h:Blk w b cs t) (n:Nat):Blk (w.drewN n) b cs t:=h
theorem Blk.other {w:World} {b b' i:Nat} {cs:Array Value} {t:TypeId} (h:Blk w b cs t) (v:Value) (hne:b≠b'):Blk (w.setCell ⟨b',i,none⟩ v) b cs t:=h.of (Below.heap_setCell w _ v b hne)
theorem Blk.set {w:World} {b:Nat} {cs:Array Value} {t:TypeId} (h:Blk w b cs t) (i:Nat) (v:Value):Blk (w.setCell ⟨b,i,none⟩ v) b (cs.setIfInBounds i v) t:=by
 obtain ⟨hlt,hk⟩:=Array.getElem?_eq_some_iff.1 h
 show (w.heap.modify b _)[b]?=_
 rw [Array.getElem?_eq_getElem (by rw [Array.size_modify];exact hlt),Array.getElem_modify_self,hk]
 rfl
/-! Only one block, and what is new, has turned. -/
theorem below_drewN {B:Nat} {a w:World} (h:Below B a w) (n:Nat):Below B a (w.drewN n):=⟨h.os,h.tape,h.output,h.size,h.block⟩
/-! For a region that draws its order and holds calls that make memory: what was there stays. -/
theorem kp_start (B:Nat) (W:World):Below B W W.drew:=(Below.refl _ _).drew
theorem kp_drew {B:Nat} {W w:World} {R:Prop} (h:Below B W w∧R):Below B W w.drew:=h.1.drew
theorem kp_same {B:Nat} {W w:World} {R:Prop} (h:Below B W w∧R):Below B W w:=h.1
theorem kp_call {B:Nat} {W w w':World} {R:Prop} (hb:Below w.heap.size w w') (h:Below B W w∧R) (hB:B≤W.heap.size):Below B W w':=h.1.trans (hb.mono (Nat.le_trans hB h.1.size))
end Go.Proofs.YtefekboacghnjaaGreat
namespace Go.Proofs.YtefekboacghnjaaGreat
open Go.RowKit
/-! Some blocks, and what is new, have turned. -/
structure Turns (S:List Nat) (w w':World):Prop where
 os:w'.os=w.os
 tape:w'.tape=w.tape
 output:w'.output=w.output
 size:w.heap.size≤w'.heap.size
 block:∀ k,k<w.heap.size→k ∉ S→w'.heap[k]?=w.heap[k]?
theorem Turns.refl (S:List Nat) (w:World):Turns S w w:=⟨rfl,rfl,rfl,Nat.le_refl _,fun _ _ _=>rfl⟩
theorem Turns.trans {S:List Nat} {a b c:World} (h:Turns S a b) (k:Turns S b c):Turns S a c :=
 ⟨k.os.trans h.os,k.tape.trans h.tape,k.output.trans h.output,Nat.le_trans h.size k.size,fun i hi hn=>(k.block i (Nat.lt_of_lt_of_le hi h.size) hn).trans (h.block i hi hn)⟩
theorem Turns.then {S T:List Nat} {a b c:World} (h:Turns S a b) (k:Turns T b c) (hT:∀ x,x ∈ T→x<a.heap.size→x ∈ S):Turns S a c :=
 ⟨k.os.trans h.os,k.tape.trans h.tape,k.output.trans h.output,Nat.le_trans h.size k.size,fun i hi hn=>(k.block i (Nat.lt_of_lt_of_le hi h.size) (fun hm=>hn (hT i hm hi))).trans (h.block i hi hn)⟩
theorem Turns.mono {S T:List Nat} {a b:World} (h:Turns S a b) (hS:∀ x,x ∈ S→x ∈ T):Turns T a b:=⟨h.os,h.tape,h.output,h.size,fun i hi hn=>h.block i hi (fun hm=>hn (hS i hm))⟩
theorem Turns.drew {S:List Nat} {a b:World} (h:Turns S a b):Turns S a b.drew:=⟨h.os,h.tape,h.output,h.size,h.block⟩
theorem Turns.drewN {S:List Nat} {a b:World} (h:Turns S a b) (n:Nat):Turns S a (b.drewN n):=⟨h.os,h.tape,h.output,h.size,h.block⟩
theorem Turns.alloc {S:List Nat} {a b:World} (h:Turns S a b) (o:Obj):Turns S a (b.alloc o) :=
 ⟨h.os,h.tape,h.output,Nat.le_trans h.size (by simp),fun i hi hn=>(Below.heap_alloc b o i (Nat.lt_of_lt_of_le hi h.size)).trans (h.block i hi hn)⟩
theorem Turns.setCell {S:List Nat} {a b:World} (h:Turns S a b) {p:Addr} (hp:p.block ∈ S∨a.heap.size≤p.block) (u:Value):Turns S a (b.setCell p u) :=
 ⟨h.os,h.tape,h.output,by simpa [World.setCell] using h.size,fun i hi hn=>(Below.heap_setCell b p u i (by
  rintro rfl
  rcases hp with hp | hp
  · exact hn hp
  · omega)).trans (h.block i hi hn)⟩
theorem Turns.below {S:List Nat} {a b c:World} (h:Turns S a b) {B:Nat} (k:Below B b c) (hB:a.heap.size≤B):Turns S a c :=
 ⟨k.os.trans h.os,k.tape.trans h.tape,k.output.trans h.output,Nat.le_trans h.size k.size,fun i hi hn=>(k.block i (Nat.lt_of_lt_of_le hi hB)).trans (h.block i hi hn)⟩
theorem Turns.of_below {S:List Nat} {a b:World} (h:Below a.heap.size a b):Turns S a b:=⟨h.os,h.tape,h.output,h.size,fun i hi _=>h.block i hi⟩
theorem Turns.of_grown {a b:World} {g:Nat} (h:a.grownBy b (some g)):Turns [g] a b:=⟨h.os,h.tape,h.output,h.size,fun i hi hn=>h.block i hi (fun e=>hn (by injection e with e;simp [e]))⟩
theorem Blk.turns {w w':World} {S:List Nat} {b:Nat} {cs:Array Value} {t:TypeId} (h:Blk w b cs t) (k:Turns S w w') (hn:b ∉ S):Blk w' b cs t:=h.of (k.block b h.lt hn)
theorem Below.turns {B:Nat} {a w w':World} {S:List Nat} (h:Below B a w) (k:Turns S w w') (hS:∀ x,x ∈ S→B≤x) (hB:B≤w.heap.size):Below B a w' :=
 h.trans ⟨k.os,k.tape,k.output,k.size,fun i hi=>k.block i (by omega) (fun hm=>by have:=hS i hm;omega)⟩
/-! Trees. -/
inductive Tr where
 | nil:Tr
 | node (b:Nat) (l:Tr) (v i lev:Int) (r:Tr):Tr
def Tr.ptr:Tr→Option Addr
 | .nil=>none
 | .node b _ _ _ _ _=>some ⟨b,0,none⟩
def Tr.lev:Tr→Int
 | .nil=>0
 | .node _ _ _ _ l _=>l
def Tr.rt:Tr→Tr
 | .nil=>.nil
 | .node _ _ _ _ _ r=>r
def Tr.blocks:Tr→List Nat
 | .nil=>[]
 | .node b l _ _ _ r=>b::(l.blocks++r.blocks)
def Tr.keys:Tr→List (Int × Int)
 | .nil=>[]
 | .node _ l v i _ r=>l.keys++(v,i)::r.keys
def Tr.size:Tr→Nat
 | .nil=>0
 | .node _ l _ _ _ r=>l.size+r.size+1
abbrev nodeCells (v i lev:Int) (l r:Option Addr):Array Value:=#[.int .i64 v,.int .i64 i,.int .i64 lev,.pointer l,.pointer r]
def IsTr (T:TypeId) (w:World):Tr→Prop
 | .nil=>True
 | .node b l v i lev r=>Blk w b (nodeCells v i lev l.ptr r.ptr) T∧IsTr T w l∧IsTr T w r
theorem IsTr.of {T:TypeId} {w w':World}:∀ {t:Tr},IsTr T w t→(∀ b,b ∈ t.blocks→w'.heap[b]?=w.heap[b]?)→IsTr T w' t
 | .nil,_,_=>trivial
 | .node b l v i lev r,⟨hb,hl,hr⟩,h=>⟨hb.of (h b (by simp [Tr.blocks])),hl.of (fun x hx=>h x (by simp [Tr.blocks,hx])),hr.of (fun x hx=>h x (by simp [Tr.blocks,hx]))⟩
theorem IsTr.lt {T:TypeId} {w:World}:∀ {t:Tr},IsTr T w t→∀ b,b ∈ t.blocks→b<w.heap.size
 | .nil,_,b,hb=>by simp [Tr.blocks] at hb
 | .node b l v i lev r,⟨hb,hl,hr⟩,x,hx=>by
  simp [Tr.blocks] at hx
  rcases hx with rfl | hx | hx
  · exact hb.lt
  · exact hl.lt x hx
  · exact hr.lt x hx
theorem IsTr.turns {T:TypeId} {w w':World} {S:List Nat} {t:Tr} (h:IsTr T w t) (k:Turns S w w') (hd:∀ b,b ∈ t.blocks→b ∉ S):IsTr T w' t:=h.of (fun b hb=>k.block b (h.lt b hb) (hd b hb))
theorem IsTr.below {T:TypeId} {w w':World} {t:Tr} (h:IsTr T w t) (k:Below w.heap.size w w'):IsTr T w' t:=h.of (fun b hb=>k.block b (h.lt b hb))
theorem IsTr.drew {T:TypeId} {w:World}:∀ {t:Tr},IsTr T w t→IsTr T w.drew t:=fun h=>h.of (fun _ _=>rfl)
theorem IsTr.drewN {T:TypeId} {w:World} {t:Tr} (h:IsTr T w t) (n:Nat):IsTr T (w.drewN n) t:=h.of (fun _ _=>rfl)
theorem IsTr.setCell {T:TypeId} {w:World} {t:Tr} (h:IsTr T w t) {p:Addr} (u:Value) (hn:p.block ∉ t.blocks):IsTr T (w.setCell p u) t:=h.of (fun b hb=>Below.heap_setCell w p u b (fun e=>hn (e ▸ hb)))
/-! The turns at a node. -/
def skewT:Tr→Tr
 | .node b (.node bl ll vl il levl rl) v i lev r=>if levl=lev then .node bl ll vl il levl (.node b rl v i lev r) else .node b (.node bl ll vl il levl rl) v i lev r
 | t=>t
def splitT:Tr→Tr
 | .node b l v i lev (.node br lr vr ir levr (.node b2 l2 v2 i2 lev2 r2)) =>
   if lev2=lev then .node br (.node b l v i lev lr) vr ir (levr+1) (.node b2 l2 v2 i2 lev2 r2) else .node b l v i lev (.node br lr vr ir levr (.node b2 l2 v2 i2 lev2 r2))
 | t=>t
theorem skew_yes {b bl:Nat} {ll rl r:Tr} {vl il levl v i lev:Int} (h:levl=lev):skewT (.node b (.node bl ll vl il levl rl) v i lev r)=.node bl ll vl il levl (.node b rl v i lev r):=if_pos h
theorem skew_no {b bl:Nat} {ll rl r:Tr} {vl il levl v i lev:Int} (h:¬ levl=lev):skewT (.node b (.node bl ll vl il levl rl) v i lev r)=.node b (.node bl ll vl il levl rl) v i lev r:=if_neg h
theorem split_yes {b br b2:Nat} {l lr l2 r2:Tr} {v i lev vr ir levr v2 i2 lev2:Int} (h:lev2=lev) :
  splitT (.node b l v i lev (.node br lr vr ir levr (.node b2 l2 v2 i2 lev2 r2)))=.node br (.node b l v i lev lr) vr ir (levr+1) (.node b2 l2 v2 i2 lev2 r2):=if_pos h
theorem split_no {b br b2:Nat} {l lr l2 r2:Tr} {v i lev vr ir levr v2 i2 lev2:Int} (h:¬ lev2=lev) :
  splitT (.node b l v i lev (.node br lr vr ir levr (.node b2 l2 v2 i2 lev2 r2)))=.node b l v i lev (.node br lr vr ir levr (.node b2 l2 v2 i2 lev2 r2)):=if_neg h
theorem skew_keys:∀ t,(skewT t).keys=t.keys
 | .nil=>rfl
 | .node b .nil v i lev r=>rfl
 | .node b (.node bl ll vl il levl rl) v i lev r=>by
  by_cases h:levl=lev
  · rw [skew_yes h];simp [Tr.keys]
  · rw [skew_no h]
theorem split_keys:∀ t,(splitT t).keys=t.keys
 | .nil=>rfl
 | .node b l v i lev .nil=>rfl
 | .node b l v i lev (.node br lr vr ir levr .nil)=>rfl
 | .node b l v i lev (.node br lr vr ir levr (.node b2 l2 v2 i2 lev2 r2))=>by
  by_cases h:lev2=lev
  · rw [split_yes h];simp [Tr.keys]
  · rw [split_no h]
theorem skew_blocks:∀ t,(skewT t).blocks.Perm t.blocks
 | .nil=>.refl _
 | .node b .nil v i lev r=>.refl _
 | .node b (.node bl ll vl il levl rl) v i lev r=>by
  by_cases h:levl=lev
  ·
   rw [skew_yes h]
   simp only [Tr.blocks]
   refine List.perm_iff_count.2 fun a=>?_
   simp only [List.count_cons,List.count_append]
   omega
  · first | rw [skew_no h] | rw [split_no h]
theorem split_blocks:∀ t,(splitT t).blocks.Perm t.blocks
 | .nil=>.refl _
 | .node b l v i lev .nil=>.refl _
 | .node b l v i lev (.node br lr vr ir levr .nil)=>.refl _
 | .node b l v i lev (.node br lr vr ir levr (.node b2 l2 v2 i2 lev2 r2))=>by
  by_cases h:lev2=lev
  ·
   rw [split_yes h]
   simp only [Tr.blocks]
   refine List.perm_iff_count.2 fun a=>?_
   simp only [List.count_cons,List.count_append]
   omega
  · first | rw [skew_no h] | rw [split_no h]
end Go.Proofs.YtefekboacghnjaaGreat
namespace Go.Proofs.YtefekboacghnjaaGreat
open Go.RowKit Go.Maps
theorem lawI:Keyed Tryz.prog 3:=int_keyed Tryz.underlying3
theorem wf64 {n:Int} (h1:-9223372036854775808≤n) (h2:n≤9223372036854775807):(Lit.int .i64 n).wf=true:=by
 simp [Lit.wf,IntKind.min,IntKind.max,IntKind.signed,IntKind.bits]
 omega
theorem key64 {n:Int} (h:(Lit.int .i64 n).wf=true):keyOf Tryz.prog 3 (.int .i64 n)=some (.int .i64 n):=keyOf_int_mk Tryz.underlying3 h
def upd (f:Int→Int) (k v:Int):Int→Int:=fun x=>if x=k then v else f x
theorem upd_same (f:Int→Int) (k v:Int):upd f k v k=v:=if_pos rfl
theorem upd_other (f:Int→Int) {k x:Int} (v:Int) (h:x≠k):upd f k v x=f x:=if_neg h
end Go.Proofs.YtefekboacghnjaaGreat
namespace Go.Proofs.YtefekboacghnjaaGreat.Pm
/-! ### Knuth's digit: a quotient's digit is guessed from the upper half and lowered -/
theorem digit_mul (u yn1 yn0 q r y:Nat) (hy:y=yn1*4294967296+yn0) (hr:q*yn1+r=u) :
  q*y+r*4294967296=u*4294967296+q*yn0:=by
 subst hy;subst hr
 rw [Nat.mul_add,Nat.add_mul,← Nat.mul_assoc];omega
theorem digit_step (u yn1 yn0 un1 q r y:Nat) (hy:y=yn1*4294967296+yn0) (hu:u<y) (hun:un1<4294967296)
  (hr:q*yn1+r=u) (h:4294967296≤q∨4294967296*r+un1<q*yn0):(u*4294967296+un1) / y+1≤q:=by
 have hy0:0<y:=by omega
 have e:=digit_mul u yn1 yn0 q r y hy hr
 have:(u*4294967296+un1) / y<q:=by
  rw [Nat.div_lt_iff_lt_mul hy0]
  rcases h with h | h
  ·
   have h1:4294967296*y≤q*y:=Nat.mul_le_mul_right _ h
   omega
  · omega
 omega
theorem digit_out (u yn1 yn0 un1 q r y:Nat) (hy:y=yn1*4294967296+yn0) (hy0:0<y) (h0:yn0<4294967296)
  (hr:q*yn1+r=u) (hq:(u*4294967296+un1) / y≤q) (h:(q*yn0≤4294967296*r+un1)∨(q≤4294967296∧4294967296≤r)) :
  q=(u*4294967296+un1) / y:=by
 have e:=digit_mul u yn1 yn0 q r y hy hr
 have:q≤(u*4294967296+un1) / y:=by
  rw [Nat.le_div_iff_mul_le hy0]
  rcases h with h | ⟨h1,h2⟩
  · omega
  ·
   have h3:q*yn0≤4294967296*4294967296:=Nat.mul_le_mul h1 (by omega)
   have h4:4294967296*4294967296≤r*4294967296:=Nat.mul_le_mul_right _ h2
   omega
 omega
theorem digit_start (u yn1 yn0 un1 y:Nat) (hy:y=yn1*4294967296+yn0) (h1:2147483648≤yn1) (h0:yn0<4294967296) (hu:u<y) :
  (u / yn1)*yn1+u % yn1=u∧u / yn1≤4294967297∧((un1<4294967296)→(u*4294967296+un1) / y≤u / yn1):=by
 have hp:0<yn1:=by omega
 have e:(u / yn1)*yn1+u % yn1=u:=by rw [Nat.mul_comm];exact Nat.div_add_mod u yn1
 refine ⟨e,?_,fun hun=>?_⟩
 ·
  have:u / yn1<4294967298:=by
   rw [Nat.div_lt_iff_lt_mul hp];omega
  omega
 ·
  have hy0:0<y:=by omega
  have:(u*4294967296+un1) / y<u / yn1+1:=by
   rw [Nat.div_lt_iff_lt_mul hy0]
   have hm:=Nat.mod_lt u hp
   have e2:=digit_mul u yn1 yn0 (u / yn1) (u % yn1) y hy e
   have h3:(u % yn1+1)*4294967296≤yn1*4294967296:=Nat.mul_le_mul_right _ (by omega)
   rw [Nat.add_mul] at h3 ⊢
   omega
  omega
/-! ### Both digits -/
theorem digits_aux (a c y k:Nat) (hy:0<y):(a*k+c) / y=(a / y)*k+((a % y)*k+c) / y∧(a*k+c) % y=((a % y)*k+c) % y:=by
 have e:=Nat.div_add_mod a y
 have h:a*k+c=((a % y)*k+c)+y*(a / y*k):=by
  have h1:a*k=(y*(a / y)+a % y)*k:=by rw [e]
  rw [h1,Nat.add_mul,Nat.mul_assoc];omega
 constructor
 · rw [h,Nat.add_mul_div_left _ _ hy,Nat.add_comm]
 · rw [h,Nat.add_mul_mod_self_left]
theorem two_digits (u un1 un0 y:Nat) (hy:0<y) :
  ((u*4294967296+un1)*4294967296+un0) / y=((u*4294967296+un1) / y)*4294967296+(((u*4294967296+un1) % y)*4294967296+un0) / y ∧
  ((u*4294967296+un1)*4294967296+un0) % y=(((u*4294967296+un1) % y)*4294967296+un0) % y :=
 digits_aux _ _ _ _ hy
theorem scaled_div (n y s:Nat) (hs:0<s):(n*s) / (y*s)=n / y:=Nat.mul_div_mul_right n y hs
theorem scaled_mod (n y s:Nat):(n*s) % (y*s)=(n % y)*s:=Nat.mul_mod_mul_right s n y
theorem digit_lt (u un1 y:Nat) (hu:u<y) (hun:un1<4294967296):(u*4294967296+un1) / y<4294967296:=by
 have hy0:0<y:=by omega
 rw [Nat.div_lt_iff_lt_mul hy0]
 have:(u+1)*4294967296≤y*4294967296:=Nat.mul_le_mul_right _ hu
 omega
/-! ### Long division, bit by bit -/
theorem halve_step (n k:Nat):n / 2 ^ k=2*(n / 2 ^ (k+1))+n / 2 ^ k % 2:=by
 have h:n / 2 ^ (k+1)=n / 2 ^ k / 2:=by rw [Nat.pow_succ,Nat.div_div_eq_div_mul]
 rw [h];omega
theorem bit_hi (h l i:Nat) (hl:l<18446744073709551616) (hi:i<64):(h*18446744073709551616+l) / 2 ^ (127 - i) % 2=h / 2 ^ (63 - i) % 2:=by
 have e:2 ^ (127 - i)=18446744073709551616*2 ^ (63 - i):=by
  rw [show (18446744073709551616:Nat)=2 ^ 64 from rfl,← Nat.pow_add];congr 1;omega
 rw [e,← Nat.div_div_eq_div_mul]
 congr 2;omega
theorem bit_lo (h l i:Nat) (hi:64≤i) (hi2:i<128):(h*18446744073709551616+l) / 2 ^ (127 - i) % 2=l / 2 ^ (63 - (i - 64)) % 2:=by
 have e:(18446744073709551616:Nat)=2 ^ (127 - i)*(2*2 ^ (i - 64)):=by
  rw [show (18446744073709551616:Nat)=2 ^ 64 from rfl,← Nat.pow_succ',← Nat.pow_add];congr 1;omega
 have e2:63 - (i - 64)=127 - i:=by omega
 rw [e2,e,Nat.mul_comm h,Nat.mul_assoc,Nat.add_comm,Nat.add_mul_div_left _ _ (Nat.two_pow_pos _),Nat.mul_assoc,Nat.add_mul_mod_self_left]
theorem div_step (m c b:Nat) (hc:0<c) (hb:b<2) :
  (c≤2*(m % c)+b→(2*m+b) / c=2*(m / c)+1∧(2*m+b) % c=2*(m % c)+b - c) ∧
  (2*(m % c)+b<c→(2*m+b) / c=2*(m / c)∧(2*m+b) % c=2*(m % c)+b):=by
 have e:=Nat.div_add_mod m c
 have hm:=Nat.mod_lt m hc
 generalize m % c=r at *
 generalize m / c=q at *
 subst e
 constructor
 ·
  intro h
  have e2:2*(c*q+r)+b=(2*r+b - c)+c*(2*q+1):=by
   rw [Nat.mul_add c,Nat.mul_left_comm c 2 q];omega
  rw [e2,Nat.add_mul_div_left _ _ hc,Nat.add_mul_mod_self_left,Nat.div_eq_of_lt (by omega),Nat.mod_eq_of_lt (by omega)]
  omega
 ·
  intro h
  have e2:2*(c*q+r)+b=(2*r+b)+c*(2*q):=by
   rw [Nat.mul_left_comm c 2 q];omega
  rw [e2,Nat.add_mul_div_left _ _ hc,Nat.add_mul_mod_self_left,Nat.div_eq_of_lt h,Nat.mod_eq_of_lt h]
  omega
theorem too_great (n c k q:Nat) (hk:0<k) (hq:q=n / 2 ^ k / c) (h:9223372036854775808≤q):c*18446744073709551616≤n:=by
 have h1:q*c≤n / 2 ^ k:=by rw [hq];exact Nat.div_mul_le_self _ _
 have h2:(q*c)*2 ^ k≤n:=Nat.le_trans (Nat.mul_le_mul_right _ h1) (Nat.div_mul_le_self _ _)
 have h3:9223372036854775808*c≤q*c:=Nat.mul_le_mul_right _ h
 have h4:(9223372036854775808*c)*2≤(q*c)*2 ^ k:=by
  refine Nat.mul_le_mul h3 ?_
  calc 2=2 ^ 1:=rfl
   _≤2 ^ k:=Nat.pow_le_pow_right (by omega) hk
 omega
end Go.Proofs.YtefekboacghnjaaGreat.Pm
namespace Go.Proofs.YtefekboacghnjaaGreat
open Go.RowKit
def hi64 (a b:Nat):Nat:=a*b / 18446744073709551616
def lo64 (a b:Nat):Nat:=a*b % 18446744073709551616
theorem mul64 (a b:Nat) (ha:a<18446744073709551616) (hb:b<18446744073709551616) (w:World) :
  Calls Tryz.prog 142 #[.int .u64 a,.int .u64 b] w fun e w'=>e=.returned (.tuple #[.int .u64 (hi64 a b:Nat),.int .u64 (lo64 a b:Nat)])∧w=w' :=
 (Tryz.bits_Mul64 a b ha hb w).mono fun _ _ ⟨he,hw⟩=>⟨he,hw.symm⟩
theorem hi64_lt (a b:Nat) (ha:a<18446744073709551616) (hb:b<18446744073709551616):hi64 a b<18446744073709551616:=by
 unfold hi64
 rw [Nat.div_lt_iff_lt_mul (by omega)]
 exact Nat.mul_lt_mul'' ha hb
theorem lo64_lt (a b:Nat):lo64 a b<18446744073709551616:=Nat.mod_lt _ (by omega)
theorem hi_lo (a b:Nat):hi64 a b*18446744073709551616+lo64 a b=a*b:=by
 unfold hi64 lo64;omega
set_option maxHeartbeats 400000 in
theorem times_any (a b:Nat) (ha:a<18446744073709551616) (hb:b<18446744073709551616) (w:World) :
  Calls Tryz.prog 122 #[.int .u64 a,.int .u64 b] w fun e w'=>e=.returned (.agg #[.int .u64 (hi64 a b:Nat),.int .u64 (lo64 a b:Nat)])∧Below w.heap.size w w':=by
 go_enter Tryz.func122,Tryz.ntmps122
 go_wp2_with fail
 refine (mul64 _ _ ha hb _).mono ?_
 rintro e w' ⟨rfl,rfl⟩
 go_wp2_with fail
 refine bodyPost_ret (v:=.agg #[.int .u64 (hi64 a b:Nat),.int .u64 (lo64 a b:Nat)]) (by simp [results,Tryz.results122,go_sem]) rfl ⟨rfl,?_⟩
 exact (Below.refl _ _).alloc (Nat.le_refl _) _
end Go.Proofs.YtefekboacghnjaaGreat
namespace Go.Proofs.YtefekboacghnjaaGreat
open Go.RowKit
def quo64 (h l c:Nat):Nat:=(h*18446744073709551616+l) / c
def rem64 (h l c:Nat):Nat:=(h*18446744073709551616+l) % c
theorem wrapNat (n:Nat) (h:n<18446744073709551616):IntKind.u64.wrap (n:Int)=(n:Int):=by
 rw [IntKind.wrap_u64];omega
set_option maxHeartbeats 400000 in
theorem div64_zero (l c:Nat) (hl:l<18446744073709551616) (hc:c<18446744073709551616) (hp:0<c) (w:World) :
  Calls Tryz.prog 123 #[.int .u64 0,.int .u64 l,.int .u64 c] w fun e w'=>e=.returned (.tuple #[.int .u64 (quo64 0 l c:Nat),.int .u64 (rem64 0 l c:Nat)])∧∃ n,w'=w.drewN n:=by
 have c0:((c:Int) == 0)=false:=by simp;omega
 have d1:IntKind.u64.wrap ((l:Int) / (c:Int))=(l:Int) / (c:Int):=by
  rw [← Int.natCast_ediv]
  exact wrapNat _ (Nat.lt_of_le_of_lt (Nat.div_le_self l c) hl)
 go_enter Tryz.func123,Tryz.ntmps123
 go_wp2_with fail
 go_quiet (fail)
 go_wp2_with fail
 go_ret2
 exact ⟨by simp [quo64,rem64],by exact ⟨_,rfl⟩⟩
def lz (c:Nat):Nat:=64 - Lib.bitLen c
theorem lz_any (c:Nat) (hc:c<18446744073709551616) (hb:Lib.bitLen c≤64) (w:World) :
  Calls Tryz.prog 143 #[.int .u64 c] w fun e w'=>e=.returned (.int .i64 (lz c:Nat))∧w=w' :=
 (Tryz.bits_LeadingZeros64 (c:Int) w (by omega) (by omega)).mono fun _ _ ⟨he,hw⟩=>⟨by rw [he];simp [lz];omega,hw.symm⟩
set_option maxRecDepth 100000 in
set_option maxHeartbeats 2000000 in
theorem div64_core (h l c s y yn1 yn0 hs u un10 un1 un0 qt v q2:Nat) (hp:0<h) (hh:h<c)
  (hs3:s≤63) (w:World)
  (CLZ:∀ W:World,Hid (Calls Tryz.prog 143 #[.int .u64 c] W fun e w'=>e=.returned (.int .i64 s)∧W=w'))
  (r1:IntKind.u64.wrap ((c:Int)*2 ^ s)=(y:Int)) (r2:(y:Int) / 4294967296=(yn1:Int)) (r3:bits .and .u64 (y:Int) 4294967295=(yn0:Int))
  (r4:IntKind.u64.wrap ((h:Int)*2 ^ s)=(hs:Int)) (r5:bits .or .u64 (hs:Int) ((l:Int) / 2 ^ (64 - s))=(u:Int))
  (r6:IntKind.u64.wrap ((l:Int)*2 ^ s)=(un10:Int)) (r7:(un10:Int) / 4294967296=(un1:Int)) (r8:bits .and .u64 (un10:Int) 4294967295=(un0:Int))
  (b1:2147483648≤yn1) (b2:yn1<4294967296) (b3:yn0<4294967296) (b4:u<18446744073709551616) (b5:un1<4294967296) (b6:un0<4294967296) (b7:y<18446744073709551616)
  (hy:Hid (y=yn1*4294967296+yn0)) (huy:u<y) (hqt:Hid (qt=(u*4294967296+un1) / y)) (hv:Hid (v=(u*4294967296+un1) % y)) (hq2:Hid (q2=(v*4294967296+un0) / y)) :
  Calls Tryz.prog 123 #[.int .u64 h,.int .u64 l,.int .u64 c] w fun e w' =>
   e=.returned (.tuple #[.int .u64 ((qt*4294967296+q2:Nat):Int),.int .u64 ((((v*4294967296+un0) % y) / 2 ^ s:Nat):Int)])∧w=w':=by
 have c0:((c:Int) == 0)=false:=by simp;omega
 have h0:((h:Int) == 0)=false:=by simp;omega
 obtain ⟨e1,e2,e3⟩:=Pm.digit_start u yn1 yn0 un1 y hy.out b1 b3 huy
 replace e3:=e3 b5
 rw [← hqt.out] at e3
 obtain ⟨q,hq⟩:∃ q,q=u / yn1:=⟨_,rfl⟩
 obtain ⟨r,hr⟩:∃ r,r=u % yn1:=⟨_,rfl⟩
 rw [← hq,← hr] at e1
 rw [← hq] at e2 e3
 have br:r<yn1:=by rw [hr];exact Nat.mod_lt _ (by omega)
 have r9:(u:Int) / (yn1:Int)=(q:Int):=by rw [hq];exact (Int.natCast_ediv _ _).symm
 have r10:IntKind.u64.wrap ((u:Int) - IntKind.u64.wrap ((q:Int)*(yn1:Int)))=(r:Int):=by
  rw [← Int.natCast_mul,wrapNat _ (by omega),show (u:Int) - ((q*yn1:Nat):Int)=(r:Int) by omega,wrapNat _ (by omega)]
 have E1:=Lib.hid e1
 clear hq hr e1
 -- behind the first loop
 have hv0:u*4294967296+un1=qt*y+v:=by
  have:=Nat.div_add_mod (u*4294967296+un1) y
  rw [← hqt.out,← hv.out,Nat.mul_comm y qt] at this;exact this.symm
 have hvy:v<y:=by rw [hv.out];exact Nat.mod_lt _ (by omega)
 have hqtB:qt<4294967296:=by rw [hqt.out];exact Pm.digit_lt u un1 y huy b5
 have t4:IntKind.u64.wrap (IntKind.u64.wrap (IntKind.u64.wrap ((u:Int)*4294967296)+(un1:Int)) - IntKind.u64.wrap ((qt:Int)*(y:Int)))=(v:Int):=by
  rw [← Int.natCast_mul qt y]
  generalize qt*y=m at *
  simp only [IntKind.wrap_u64]
  omega
 obtain ⟨f1,f2,f3⟩:=Pm.digit_start v yn1 yn0 un0 y hy.out b1 b3 hvy
 replace f3:=f3 b6
 rw [← hq2.out] at f3
 obtain ⟨q',hq⟩:∃ q,q=v / yn1:=⟨_,rfl⟩
 obtain ⟨r',hr⟩:∃ r,r=v % yn1:=⟨_,rfl⟩
 rw [← hq,← hr] at f1
 rw [← hq] at f2 f3
 have br':r'<yn1:=by rw [hr];exact Nat.mod_lt _ (by omega)
 have t9:(v:Int) / (yn1:Int)=(q':Int):=by rw [hq];exact (Int.natCast_ediv _ _).symm
 have t10:IntKind.u64.wrap ((v:Int) - IntKind.u64.wrap ((q':Int)*(yn1:Int)))=(r':Int):=by
  rw [← Int.natCast_mul,wrapNat _ (by omega),show (v:Int) - ((q'*yn1:Nat):Int)=(r':Int) by omega,wrapNat _ (by omega)]
 have F1:=Lib.hid f1
 clear hq hr f1
 -- the end
 obtain ⟨z,hz⟩:∃ z,z=(v*4294967296+un0) % y:=⟨_,rfl⟩
 rw [← hz]
 have hz0:v*4294967296+un0=q2*y+z:=by
  have:=Nat.div_add_mod (v*4294967296+un0) y
  rw [← hq2.out,← hz,Nat.mul_comm y q2] at this;exact this.symm
 have hzy:z<y:=by rw [hz];exact Nat.mod_lt _ (by omega)
 have hq2B:q2<4294967296:=by rw [hq2.out];exact Pm.digit_lt v un0 y hvy b6
 have t11:IntKind.u64.wrap (IntKind.u64.wrap (IntKind.u64.wrap ((v:Int)*4294967296)+(un0:Int)) - IntKind.u64.wrap ((q2:Int)*(y:Int)))=(z:Int):=by
  rw [← Int.natCast_mul q2 y]
  generalize q2*y=m at *
  simp only [IntKind.wrap_u64]
  omega
 clear hz hz0 hv0
 go_enter Tryz.func123,Tryz.ntmps123
 go_wp2_with fail
 refine (CLZ _).out.mono ?_
 clear CLZ
 rintro e w' ⟨rfl,rfl⟩
 go_wp2_with fail
 go_loop [15,16] (fun xq xr=>∃ Q R:Nat,xq=.int .u64 Q∧xr=.int .u64 R∧R<4294967296∧Q≤4294967297∧qt≤Q∧Hid (Q*yn1+R=u)) (fun xq _=>(intOf xq).toNat)
 case atStart=>exact ⟨q,r,rfl,rfl,by omega,by omega,e3,E1⟩
 case round =>
  obtain ⟨Q,R,rfl,rfl,g1,g2,g3,G⟩:=hrel
  have st:=Pm.digit_step u yn1 yn0 un1 Q R y hy.out huy b5 G.out
  have ou:=Pm.digit_out u yn1 yn0 un1 Q R y hy.out (by omega) b3 G.out (by rw [← hqt.out];exact g3)
  have ou2:=Pm.digit_out u yn1 yn0 un1 (Q - 1) (R+yn1) y hy.out (by omega) b3
  rw [← hqt.out] at st ou ou2
  obtain ⟨m,hm⟩:∃ m,m=Q*yn0:=⟨_,rfl⟩
  rw [← hm] at st ou
  have hmB:Q<4294967296→m<18446744073709551616:=fun h=>by
   rw [hm];exact Nat.mul_lt_mul'' h b3
  have u1:Q<4294967296→IntKind.u64.wrap ((Q:Int)*(yn0:Int))=(m:Int):=fun h=>by
   rw [← Int.natCast_mul,← hm];exact wrapNat _ (hmB h)
  clear hm
  obtain ⟨mu,hmu⟩:∃ mu,mu=4294967296*R+un1:=⟨_,rfl⟩
  rw [← hmu] at st ou
  have bmu:mu<18446744073709551616:=by omega
  have u2:4294967296*(R:Int)+(un1:Int)=(mu:Int):=by omega
  clear hmu
  by_cases cA:4294967296≤Q∨mu<m
  ·
   have s1:=st cA
   have hG:Hid ((Q - 1)*yn1+(R+yn1)=u):=by
    have h1:Q=(Q - 1)+1:=by omega
    have h2:=G.out
    rw [h1,Nat.add_mul] at h2
    exact (show (Q - 1)*yn1+(R+yn1)=u by omega)
   have u3:(R:Int)+(yn1:Int)=((R+yn1:Nat):Int):=by omega
   have u4:(Q:Int) - 1=((Q - 1:Nat):Int):=by omega
   have k1:R+yn1<18446744073709551616:=by omega
   have k2:Q - 1<Q:=by omega
   have k3:Q - 1≤4294967296:=by omega
   have k4:qt≤Q - 1:=by omega
   generalize R+yn1=R' at *
   generalize Q - 1=Q' at *
   by_cases hR:4294967296≤R'
   ·
    have hRi:decide ((4294967296:Int)≤(R':Int))=true:=decide_eq_true (by omega)
    obtain rfl:Q'=qt:=ou2 hG.out k4 (.inr ⟨k3,hR⟩)
    clear st ou ou2 hG G g3 k3 k4
    by_cases hQ:4294967296≤Q
    ·
     have hQi:decide ((4294967296:Int)≤(Q:Int))=true:=decide_eq_true (by omega)
     clear u1 u2 hmB cA
     go_wp2_with fail
     go_loop [18,16] (fun xq xr=>∃ Q R:Nat,xq=.int .u64 Q∧xr=.int .u64 R∧R<4294967296∧Q≤4294967297∧q2≤Q∧Hid (Q*yn1+R=v)) (fun xq _=>(intOf xq).toNat)
     case atStart=>exact ⟨q',r',rfl,rfl,by omega,by omega,f3,F1⟩
     case round =>
      obtain ⟨Q,R,rfl,rfl,g1,g2,g3,G⟩:=hrel
      have st:=Pm.digit_step v yn1 yn0 un0 Q R y hy.out hvy b6 G.out
      have ou:=Pm.digit_out v yn1 yn0 un0 Q R y hy.out (by omega) b3 G.out (by rw [← hq2.out];exact g3)
      have ou2:=Pm.digit_out v yn1 yn0 un0 (Q - 1) (R+yn1) y hy.out (by omega) b3
      rw [← hq2.out] at st ou ou2
      obtain ⟨m,hm⟩:∃ m,m=Q*yn0:=⟨_,rfl⟩
      rw [← hm] at st ou
      have hmB:Q<4294967296→m<18446744073709551616:=fun h=>by
       rw [hm];exact Nat.mul_lt_mul'' h b3
      have u1:Q<4294967296→IntKind.u64.wrap ((Q:Int)*(yn0:Int))=(m:Int):=fun h=>by
       rw [← Int.natCast_mul,← hm];exact wrapNat _ (hmB h)
      clear hm
      obtain ⟨mu,hmu⟩:∃ mu,mu=4294967296*R+un0:=⟨_,rfl⟩
      rw [← hmu] at st ou
      have bmu:mu<18446744073709551616:=by omega
      have u2:4294967296*(R:Int)+(un0:Int)=(mu:Int):=by omega
      clear hmu
      by_cases cA:4294967296≤Q∨mu<m
      ·
       have s1:=st cA
       have hG:Hid ((Q - 1)*yn1+(R+yn1)=v):=by
        have h1:Q=(Q - 1)+1:=by omega
        have h2:=G.out
        rw [h1,Nat.add_mul] at h2
        exact (show (Q - 1)*yn1+(R+yn1)=v by omega)
       have u3:(R:Int)+(yn1:Int)=((R+yn1:Nat):Int):=by omega
       have u4:(Q:Int) - 1=((Q - 1:Nat):Int):=by omega
       have k1:R+yn1<18446744073709551616:=by omega
       have k2:Q - 1<Q:=by omega
       have k3:Q - 1≤4294967296:=by omega
       have k4:q2≤Q - 1:=by omega
       generalize R+yn1=R' at *
       generalize Q - 1=Q' at *
       by_cases hR:4294967296≤R'
       ·
        have hRi:decide ((4294967296:Int)≤(R':Int))=true:=decide_eq_true (by omega)
        obtain rfl:Q'=q2:=ou2 hG.out k4 (.inr ⟨k3,hR⟩)
        clear st ou ou2 hG G g3 k3 k4
        by_cases hQ:4294967296≤Q
        ·
         have hQi:decide ((4294967296:Int)≤(Q:Int))=true:=decide_eq_true (by omega)
         clear u1 u2 hmB cA
         go_wp2_with fail
         go_ret2
         exact ⟨rfl,rfl⟩
        ·
         have hQi:decide ((4294967296:Int)≤(Q:Int))=false:=decide_eq_false (by omega)
         have u1':=u1 (by omega)
         have hmB':=hmB (by omega)
         have cA':decide (mu<m)=true:=decide_eq_true (by omega)
         clear u1 hmB cA
         go_wp2_with fail
         go_ret2
         exact ⟨rfl,rfl⟩
       ·
        have hRi:decide ((4294967296:Int)≤(R':Int))=false:=decide_eq_false (by omega)
        clear st ou ou2 G
        by_cases hQ:4294967296≤Q
        ·
         have hQi:decide ((4294967296:Int)≤(Q:Int))=true:=decide_eq_true (by omega)
         clear u1 u2 hmB cA
         go_wp2_with fail
         go_round
         case rel=>exact ⟨Q',R',rfl,rfl,by omega,by omega,by omega,hG⟩
         case measure=>simp [intOf];omega
        ·
         have hQi:decide ((4294967296:Int)≤(Q:Int))=false:=decide_eq_false (by omega)
         have u1':=u1 (by omega)
         have hmB':=hmB (by omega)
         have cA':decide (mu<m)=true:=decide_eq_true (by omega)
         clear u1 hmB cA
         go_wp2_with fail
         go_round
         case rel=>exact ⟨Q',R',rfl,rfl,by omega,by omega,by omega,hG⟩
         case measure=>simp [intOf];omega
      ·
       have eq0:=ou (.inl (by omega))
       have u1':=u1 (by omega)
       have hmB':=hmB (by omega)
       have cB:m≤mu:=by omega
       have cC:decide ((4294967296:Int)≤(Q:Int))=false:=decide_eq_false (by omega)
       have cB':decide (mu<m)=false:=decide_eq_false (by omega)
       clear st ou ou2 G u1 hmB cA g3
       obtain rfl:Q=q2:=eq0
       go_wp2_with fail
       go_ret2
       exact ⟨rfl,rfl⟩
    ·
     have hQi:decide ((4294967296:Int)≤(Q:Int))=false:=decide_eq_false (by omega)
     have u1':=u1 (by omega)
     have hmB':=hmB (by omega)
     have cA':decide (mu<m)=true:=decide_eq_true (by omega)
     clear u1 hmB cA
     go_wp2_with fail
     go_loop [18,16] (fun xq xr=>∃ Q R:Nat,xq=.int .u64 Q∧xr=.int .u64 R∧R<4294967296∧Q≤4294967297∧q2≤Q∧Hid (Q*yn1+R=v)) (fun xq _=>(intOf xq).toNat)
     case atStart=>exact ⟨q',r',rfl,rfl,by omega,by omega,f3,F1⟩
     case round =>
      obtain ⟨Q,R,rfl,rfl,g1,g2,g3,G⟩:=hrel
      have st:=Pm.digit_step v yn1 yn0 un0 Q R y hy.out hvy b6 G.out
      have ou:=Pm.digit_out v yn1 yn0 un0 Q R y hy.out (by omega) b3 G.out (by rw [← hq2.out];exact g3)
      have ou2:=Pm.digit_out v yn1 yn0 un0 (Q - 1) (R+yn1) y hy.out (by omega) b3
      rw [← hq2.out] at st ou ou2
      obtain ⟨m,hm⟩:∃ m,m=Q*yn0:=⟨_,rfl⟩
      rw [← hm] at st ou
      have hmB:Q<4294967296→m<18446744073709551616:=fun h=>by
       rw [hm];exact Nat.mul_lt_mul'' h b3
      have u1:Q<4294967296→IntKind.u64.wrap ((Q:Int)*(yn0:Int))=(m:Int):=fun h=>by
       rw [← Int.natCast_mul,← hm];exact wrapNat _ (hmB h)
      clear hm
      obtain ⟨mu,hmu⟩:∃ mu,mu=4294967296*R+un0:=⟨_,rfl⟩
      rw [← hmu] at st ou
      have bmu:mu<18446744073709551616:=by omega
      have u2:4294967296*(R:Int)+(un0:Int)=(mu:Int):=by omega
      clear hmu
      by_cases cA:4294967296≤Q∨mu<m
      ·
       have s1:=st cA
       have hG:Hid ((Q - 1)*yn1+(R+yn1)=v):=by
        have h1:Q=(Q - 1)+1:=by omega
        have h2:=G.out
        rw [h1,Nat.add_mul] at h2
        exact (show (Q - 1)*yn1+(R+yn1)=v by omega)
       have u3:(R:Int)+(yn1:Int)=((R+yn1:Nat):Int):=by omega
       have u4:(Q:Int) - 1=((Q - 1:Nat):Int):=by omega
       have k1:R+yn1<18446744073709551616:=by omega
       have k2:Q - 1<Q:=by omega
       have k3:Q - 1≤4294967296:=by omega
       have k4:q2≤Q - 1:=by omega
       generalize R+yn1=R' at *
       generalize Q - 1=Q' at *
       by_cases hR:4294967296≤R'
       ·
        have hRi:decide ((4294967296:Int)≤(R':Int))=true:=decide_eq_true (by omega)
        obtain rfl:Q'=q2:=ou2 hG.out k4 (.inr ⟨k3,hR⟩)
        clear st ou ou2 hG G g3 k3 k4
        by_cases hQ:4294967296≤Q
        ·
         have hQi:decide ((4294967296:Int)≤(Q:Int))=true:=decide_eq_true (by omega)
         clear u1 u2 hmB cA
         go_wp2_with fail
         go_ret2
         exact ⟨rfl,rfl⟩
        ·
         have hQi:decide ((4294967296:Int)≤(Q:Int))=false:=decide_eq_false (by omega)
         have u1':=u1 (by omega)
         have hmB':=hmB (by omega)
         have cA':decide (mu<m)=true:=decide_eq_true (by omega)
         clear u1 hmB cA
         go_wp2_with fail
         go_ret2
         exact ⟨rfl,rfl⟩
       ·
        have hRi:decide ((4294967296:Int)≤(R':Int))=false:=decide_eq_false (by omega)
        clear st ou ou2 G
        by_cases hQ:4294967296≤Q
        ·
         have hQi:decide ((4294967296:Int)≤(Q:Int))=true:=decide_eq_true (by omega)
         clear u1 u2 hmB cA
         go_wp2_with fail
         go_round
         case rel=>exact ⟨Q',R',rfl,rfl,by omega,by omega,by omega,hG⟩
         case measure=>simp [intOf];omega
        ·
         have hQi:decide ((4294967296:Int)≤(Q:Int))=false:=decide_eq_false (by omega)
         have u1':=u1 (by omega)
         have hmB':=hmB (by omega)
         have cA':decide (mu<m)=true:=decide_eq_true (by omega)
         clear u1 hmB cA
         go_wp2_with fail
         go_round
         case rel=>exact ⟨Q',R',rfl,rfl,by omega,by omega,by omega,hG⟩
         case measure=>simp [intOf];omega
      ·
       have eq0:=ou (.inl (by omega))
       have u1':=u1 (by omega)
       have hmB':=hmB (by omega)
       have cB:m≤mu:=by omega
       have cC:decide ((4294967296:Int)≤(Q:Int))=false:=decide_eq_false (by omega)
       have cB':decide (mu<m)=false:=decide_eq_false (by omega)
       clear st ou ou2 G u1 hmB cA g3
       obtain rfl:Q=q2:=eq0
       go_wp2_with fail
       go_ret2
       exact ⟨rfl,rfl⟩
   ·
    have hRi:decide ((4294967296:Int)≤(R':Int))=false:=decide_eq_false (by omega)
    clear st ou ou2 G
    by_cases hQ:4294967296≤Q
    ·
     have hQi:decide ((4294967296:Int)≤(Q:Int))=true:=decide_eq_true (by omega)
     clear u1 u2 hmB cA
     go_wp2_with fail
     go_round
     case rel=>exact ⟨Q',R',rfl,rfl,by omega,by omega,by omega,hG⟩
     case measure=>simp [intOf];omega
    ·
     have hQi:decide ((4294967296:Int)≤(Q:Int))=false:=decide_eq_false (by omega)
     have u1':=u1 (by omega)
     have hmB':=hmB (by omega)
     have cA':decide (mu<m)=true:=decide_eq_true (by omega)
     clear u1 hmB cA
     go_wp2_with fail
     go_round
     case rel=>exact ⟨Q',R',rfl,rfl,by omega,by omega,by omega,hG⟩
     case measure=>simp [intOf];omega
  ·
   have eq0:=ou (.inl (by omega))
   have u1':=u1 (by omega)
   have hmB':=hmB (by omega)
   have cB:m≤mu:=by omega
   have cC:decide ((4294967296:Int)≤(Q:Int))=false:=decide_eq_false (by omega)
   have cB':decide (mu<m)=false:=decide_eq_false (by omega)
   clear st ou ou2 G u1 hmB cA g3
   obtain rfl:Q=qt:=eq0
   go_wp2_with fail
   go_loop [18,16] (fun xq xr=>∃ Q R:Nat,xq=.int .u64 Q∧xr=.int .u64 R∧R<4294967296∧Q≤4294967297∧q2≤Q∧Hid (Q*yn1+R=v)) (fun xq _=>(intOf xq).toNat)
   case atStart=>exact ⟨q',r',rfl,rfl,by omega,by omega,f3,F1⟩
   case round =>
    obtain ⟨Q,R,rfl,rfl,g1,g2,g3,G⟩:=hrel
    have st:=Pm.digit_step v yn1 yn0 un0 Q R y hy.out hvy b6 G.out
    have ou:=Pm.digit_out v yn1 yn0 un0 Q R y hy.out (by omega) b3 G.out (by rw [← hq2.out];exact g3)
    have ou2:=Pm.digit_out v yn1 yn0 un0 (Q - 1) (R+yn1) y hy.out (by omega) b3
    rw [← hq2.out] at st ou ou2
    obtain ⟨m,hm⟩:∃ m,m=Q*yn0:=⟨_,rfl⟩
    rw [← hm] at st ou
    have hmB:Q<4294967296→m<18446744073709551616:=fun h=>by
     rw [hm];exact Nat.mul_lt_mul'' h b3
    have u1:Q<4294967296→IntKind.u64.wrap ((Q:Int)*(yn0:Int))=(m:Int):=fun h=>by
     rw [← Int.natCast_mul,← hm];exact wrapNat _ (hmB h)
    clear hm
    obtain ⟨mu,hmu⟩:∃ mu,mu=4294967296*R+un0:=⟨_,rfl⟩
    rw [← hmu] at st ou
    have bmu:mu<18446744073709551616:=by omega
    have u2:4294967296*(R:Int)+(un0:Int)=(mu:Int):=by omega
    clear hmu
    by_cases cA:4294967296≤Q∨mu<m
    ·
     have s1:=st cA
     have hG:Hid ((Q - 1)*yn1+(R+yn1)=v):=by
      have h1:Q=(Q - 1)+1:=by omega
      have h2:=G.out
      rw [h1,Nat.add_mul] at h2
      exact (show (Q - 1)*yn1+(R+yn1)=v by omega)
     have u3:(R:Int)+(yn1:Int)=((R+yn1:Nat):Int):=by omega
     have u4:(Q:Int) - 1=((Q - 1:Nat):Int):=by omega
     have k1:R+yn1<18446744073709551616:=by omega
     have k2:Q - 1<Q:=by omega
     have k3:Q - 1≤4294967296:=by omega
     have k4:q2≤Q - 1:=by omega
     generalize R+yn1=R' at *
     generalize Q - 1=Q' at *
     by_cases hR:4294967296≤R'
     ·
      have hRi:decide ((4294967296:Int)≤(R':Int))=true:=decide_eq_true (by omega)
      obtain rfl:Q'=q2:=ou2 hG.out k4 (.inr ⟨k3,hR⟩)
      clear st ou ou2 hG G g3 k3 k4
      by_cases hQ:4294967296≤Q
      ·
       have hQi:decide ((4294967296:Int)≤(Q:Int))=true:=decide_eq_true (by omega)
       clear u1 u2 hmB cA
       go_wp2_with fail
       go_ret2
       exact ⟨rfl,rfl⟩
      ·
       have hQi:decide ((4294967296:Int)≤(Q:Int))=false:=decide_eq_false (by omega)
       have u1':=u1 (by omega)
       have hmB':=hmB (by omega)
       have cA':decide (mu<m)=true:=decide_eq_true (by omega)
       clear u1 hmB cA
       go_wp2_with fail
       go_ret2
       exact ⟨rfl,rfl⟩
     ·
      have hRi:decide ((4294967296:Int)≤(R':Int))=false:=decide_eq_false (by omega)
      clear st ou ou2 G
      by_cases hQ:4294967296≤Q
      ·
       have hQi:decide ((4294967296:Int)≤(Q:Int))=true:=decide_eq_true (by omega)
       clear u1 u2 hmB cA
       go_wp2_with fail
       go_round
       case rel=>exact ⟨Q',R',rfl,rfl,by omega,by omega,by omega,hG⟩
       case measure=>simp [intOf];omega
      ·
       have hQi:decide ((4294967296:Int)≤(Q:Int))=false:=decide_eq_false (by omega)
       have u1':=u1 (by omega)
       have hmB':=hmB (by omega)
       have cA':decide (mu<m)=true:=decide_eq_true (by omega)
       clear u1 hmB cA
       go_wp2_with fail
       go_round
       case rel=>exact ⟨Q',R',rfl,rfl,by omega,by omega,by omega,hG⟩
       case measure=>simp [intOf];omega
    ·
     have eq0:=ou (.inl (by omega))
     have u1':=u1 (by omega)
     have hmB':=hmB (by omega)
     have cB:m≤mu:=by omega
     have cC:decide ((4294967296:Int)≤(Q:Int))=false:=decide_eq_false (by omega)
     have cB':decide (mu<m)=false:=decide_eq_false (by omega)
     clear st ou ou2 G u1 hmB cA g3
     obtain rfl:Q=q2:=eq0
     go_wp2_with fail
     go_ret2
     exact ⟨rfl,rfl⟩
end Go.Proofs.YtefekboacghnjaaGreat
namespace Go.Proofs.YtefekboacghnjaaGreat
open Go.RowKit
namespace Pm
theorem lz_facts (c:Nat) (hp:0<c) (hc:c<18446744073709551616) :
  Lib.bitLen c≤64∧lz c≤63∧9223372036854775808≤c*2 ^ lz c∧c*2 ^ lz c<18446744073709551616:=by
 obtain ⟨h1,h2,h3⟩:=Lib.bitLenAux_bounds 64 c hc (by omega)
 have h4:Lib.bitLen c≤64:=Lib.bitLen_le c 64 (by omega) hc
 have e:Lib.bitLen c=Lib.bitLenAux 64 c:=rfl
 rw [← e] at h1 h2 h3
 unfold lz
 generalize Lib.bitLen c=z at *
 refine ⟨h4,by omega,?_,?_⟩
 ·
  have:2 ^ (z - 1)*2 ^ (64 - z)≤c*2 ^ (64 - z):=Nat.mul_le_mul_right _ h2
  rw [← Nat.pow_add,show z - 1+(64 - z)=63 by omega] at this
  exact this
 ·
  have:c*2 ^ (64 - z)<2 ^ z*2 ^ (64 - z):=Nat.mul_lt_mul_of_pos_right h3 (Nat.two_pow_pos _)
  rw [← Nat.pow_add,show z+(64 - z)=64 by omega] at this
  exact this
theorem shl_split (l s:Nat) (hs:s≤64):l*2 ^ s=(l / 2 ^ (64 - s))*18446744073709551616+(l*2 ^ s) % 18446744073709551616:=by
 have e:(18446744073709551616:Nat)=2 ^ (64 - s)*2 ^ s:=by
  rw [← Nat.pow_add,show 64 - s+s=64 by omega]
 have h:=Nat.div_add_mod (l*2 ^ s) 18446744073709551616
 have h2:l*2 ^ s / 18446744073709551616=l / 2 ^ (64 - s):=by
  rw [e];exact Nat.mul_div_mul_right _ _ (Nat.two_pow_pos _)
 rw [h2] at h
 omega
end Pm
theorem powI (a s:Nat):(a:Int)*2 ^ s=((a*2 ^ s:Nat):Int):=by simp
set_option maxHeartbeats 1000000 in
theorem div64_pos (h l c:Nat) (hl:l<18446744073709551616) (hc:c<18446744073709551616) (hp:0<h) (hh:h<c) (w:World) :
  Calls Tryz.prog 123 #[.int .u64 h,.int .u64 l,.int .u64 c] w fun e w'=>e=.returned (.tuple #[.int .u64 (quo64 h l c:Nat),.int .u64 (rem64 h l c:Nat)])∧w=w':=by
 obtain ⟨z1,z2,z3,z4⟩:=Pm.lz_facts c (by omega) hc
 have clz:=fun W=>lz_any c hc z1 W
 generalize hs:lz c=s at *
 have hpow:0<2 ^ s:=Nat.two_pow_pos _
 have hlo:=Pm.shl_split l s (by omega)
 have hq:l / 2 ^ (64 - s)<2 ^ s:=by
  rw [Nat.div_lt_iff_lt_mul (Nat.two_pow_pos _),← Nat.pow_add,show s+(64 - s)=64 by omega]
  exact hl
 have hhs:(h+1)*2 ^ s≤c*2 ^ s:=Nat.mul_le_mul_right _ hh
 rw [Nat.add_mul,Nat.one_mul] at hhs
 have hN:(h*18446744073709551616+l)*2 ^ s=(h*2 ^ s+l / 2 ^ (64 - s))*18446744073709551616+(l*2 ^ s) % 18446744073709551616:=by
  rw [Nat.add_mul,Nat.mul_right_comm];omega
 have hor:(h*2 ^ s) ||| (l / 2 ^ (64 - s))=h*2 ^ s+l / 2 ^ (64 - s):=by
  rw [Nat.mul_comm h,← Nat.two_pow_add_eq_or_of_lt hq]
 have r1:=powI c s
 have r4:=powI h s
 have r6:=powI l s
 have q1:=Pm.scaled_div (h*18446744073709551616+l) c (2 ^ s) hpow
 have q2:=Pm.scaled_mod (h*18446744073709551616+l) c (2 ^ s)
 rw [hN] at q1 q2
 have cast1:(l:Int) / 2 ^ (64 - s)=((l / 2 ^ (64 - s):Nat):Int):=by simp
 generalize hy:c*2 ^ s=y at *
 generalize hhs':h*2 ^ s=hs2 at *
 generalize hu0:l / 2 ^ (64 - s)=lq at *
 have r6':IntKind.u64.wrap ((l:Int)*2 ^ s)=((l*2 ^ s % 18446744073709551616:Nat):Int):=by
  rw [r6,IntKind.wrap_u64];omega
 have hun1:l*2 ^ s % 18446744073709551616<18446744073709551616:=Nat.mod_lt _ (by omega)
 generalize hun:(l*2 ^ s) % 18446744073709551616=un10 at *
 have e1:(hs2+lq)*18446744073709551616+un10=((hs2+lq)*4294967296+un10 / 4294967296)*4294967296+un10 % 4294967296:=by omega
 obtain ⟨t1,t2⟩:=Pm.two_digits (hs2+lq) (un10 / 4294967296) (un10 % 4294967296) y (by omega)
 rw [← e1] at t1 t2
 have core:=div64_core h l c s y (y / 4294967296) (y % 4294967296) hs2 (hs2+lq) un10 (un10 / 4294967296) (un10 % 4294967296) _ _ _ hp hh z2 w (fun W=>clz W)
  (by rw [r1];exact wrapNat _ z4) (by omega) (Mul64.maskN y z4) (by rw [r4];exact wrapNat _ (by omega))
  (by rw [cast1,bits_or_u64_nat _ _ (by omega) (by omega),hor]) r6' (by omega) (Mul64.maskN un10 hun1)
  (by omega) (by omega) (by omega) (by omega) (by omega) (by omega) z4 (show y=_ by omega) (by omega) rfl rfl rfl
 refine core.mono ?_
 rintro e w' ⟨rfl,rfl⟩
 refine ⟨?_,rfl⟩
 have a1:quo64 h l c=(((hs2+lq)*4294967296+un10 / 4294967296) / y)*4294967296+((((hs2+lq)*4294967296+un10 / 4294967296) % y)*4294967296+un10 % 4294967296) / y:=by
  rw [← t1,q1];rfl
 have a2:rem64 h l c=(((((hs2+lq)*4294967296+un10 / 4294967296) % y)*4294967296+un10 % 4294967296) % y) / 2 ^ s:=by
  rw [← t2,q2,Nat.mul_div_cancel _ hpow];rfl
 rw [a1,a2]
end Go.Proofs.YtefekboacghnjaaGreat
namespace Go.Proofs.YtefekboacghnjaaGreat
open Go.RowKit
theorem div64_any (h l c:Nat) (hl:l<18446744073709551616) (hc:c<18446744073709551616) (hh:h<c) (w:World) :
  Calls Tryz.prog 123 #[.int .u64 h,.int .u64 l,.int .u64 c] w fun e w'=>e=.returned (.tuple #[.int .u64 (quo64 h l c:Nat),.int .u64 (rem64 h l c:Nat)])∧Below w.heap.size w w':=by
 rcases Nat.eq_zero_or_pos h with rfl | hp
 ·
  refine (div64_zero l c hl hc hh w).mono ?_
  rintro e w' ⟨rfl,n,rfl⟩
  exact ⟨rfl,⟨rfl,rfl,rfl,Nat.le_refl _,fun _ _=>rfl⟩⟩
 ·
  refine (div64_pos h l c hl hc hp hh w).mono ?_
  rintro e w' ⟨rfl,rfl⟩
  exact ⟨rfl,Below.refl _ _⟩
def mdOk (a b c:Nat):Bool:=decide (a*b<c*18446744073709551616)
def mdQ (a b c:Nat):Nat:=if a*b<c*18446744073709551616 then a*b / c else 0
def mdR (a b c:Nat):Nat:=if a*b<c*18446744073709551616 then a*b % c else 0
theorem hi_lt_iff (a b c:Nat):hi64 a b<c ↔ a*b<c*18446744073709551616:=by
 unfold hi64;exact Nat.div_lt_iff_lt_mul (by omega)
set_option maxHeartbeats 400000 in
theorem mulDiv_any (a b c:Nat) (ha:a<18446744073709551616) (hb:b<18446744073709551616) (hc:c<18446744073709551616) (w:World) :
  Calls Tryz.prog 96 #[.int .u64 a,.int .u64 b,.int .u64 c] w fun e w' =>
   e=.returned (.tuple #[.int .u64 (mdQ a b c:Nat),.int .u64 (mdR a b c:Nat),.bool (mdOk a b c)])∧Below w.heap.size w w':=by
 by_cases hlt:a*b<c*18446744073709551616
 ·
  have eq:mdQ a b c=quo64 (hi64 a b) (lo64 a b) c:=by unfold mdQ quo64;rw [if_pos hlt,hi_lo]
  have er:mdR a b c=rem64 (hi64 a b) (lo64 a b) c:=by unfold mdR rem64;rw [if_pos hlt,hi_lo]
  have eo:mdOk a b c=true:=decide_eq_true hlt
  rw [eq,er,eo]
  have h1:=(hi_lt_iff a b c).2 hlt
  have h2:=lo64_lt a b
  clear eq er eo hlt
  have tm:=times_any a b ha hb
  generalize hi64 a b=h at *
  generalize lo64 a b=l at *
  have h3:decide ((c:Int)≤(h:Int))=false:=decide_eq_false (by omega)
  have h4:decide (c≤h)=false:=decide_eq_false (by omega)
  have TM:=Lib.hid tm
  clear tm
  go_enter Tryz.func96,Tryz.ntmps96
  go_wp2_with fail
  refine (TM.out _).mono ?_
  rintro e w1 ⟨rfl,hb1⟩
  have hz:=hb1.size
  go_wp2_with fail
  refine (div64_any h l c h2 hc h1 _).mono ?_
  rintro e w2 ⟨rfl,hb2⟩
  go_wp2_with fail
  go_ret3
  exact ⟨rfl,(hb1.alloc hz _).trans (hb2.mono (by simp;omega))⟩
 ·
  have eq:mdQ a b c=0:=if_neg hlt
  have er:mdR a b c=0:=if_neg hlt
  have eo:mdOk a b c=false:=decide_eq_false hlt
  rw [eq,er,eo]
  have h1:¬ hi64 a b<c:=fun h=>hlt ((hi_lt_iff a b c).1 h)
  have tm:=times_any a b ha hb
  clear eq er eo hlt
  generalize hi64 a b=h at *
  generalize lo64 a b=l at *
  have h3:decide ((c:Int)≤(h:Int))=true:=decide_eq_true (by omega)
  have h4:decide (c≤h)=true:=decide_eq_true (by omega)
  have TM:=Lib.hid tm
  clear tm
  go_enter Tryz.func96,Tryz.ntmps96
  go_wp2_with fail
  refine (TM.out _).mono ?_
  rintro e w1 ⟨rfl,hb1⟩
  have hz:=hb1.size
  go_wp2_with fail
  go_ret3
  exact ⟨rfl,hb1.alloc hz _⟩
end Go.Proofs.YtefekboacghnjaaGreat
namespace Go.Proofs.YtefekboacghnjaaGreat
open Go.RowKit
/-! ### doleref02 -/
theorem mulN (a b:Nat):(a:Int)*(b:Int)=((a*b:Nat):Int):=(Int.natCast_mul a b).symm
set_option maxHeartbeats 400000 in
theorem product_any (a b:Nat) (ha:a<18446744073709551616) (hb:b<18446744073709551616) (w:World) :
  Calls Tryz.prog 124 #[.int .u64 a,.int .u64 b] w fun e w'=>e=.returned (.tuple #[.int .u64 (hi64 a b:Nat),.int .u64 (lo64 a b:Nat)])∧w=w':=by
 have al:(a:Int) % 4294967296=((a % 4294967296:Nat):Int):=by omega
 have ah:(a:Int) / 4294967296=((a / 4294967296:Nat):Int):=by omega
 have bl:(b:Int) % 4294967296=((b % 4294967296:Nat):Int):=by omega
 have bh:(b:Int) / 4294967296=((b / 4294967296:Nat):Int):=by omega
 have e:a*b=(a / 4294967296)*(b / 4294967296)*(4294967296*4294967296)+((a / 4294967296)*(b % 4294967296)+(a % 4294967296)*(b / 4294967296))*4294967296+(a % 4294967296)*(b % 4294967296):=by
  rw [← Lib.split_mul,Nat.div_add_mod' a 4294967296,Nat.div_add_mod' b 4294967296]
 have lt1:a % 4294967296<4294967296:=Nat.mod_lt _ (by omega)
 have lt2:b % 4294967296<4294967296:=Nat.mod_lt _ (by omega)
 have lt3:a / 4294967296<4294967296:=by omega
 have lt4:b / 4294967296<4294967296:=by omega
 have whole:IntKind.u64.wrap ((a:Int)*(b:Int))=((lo64 a b:Nat):Int):=by rw [mulN,Mul64.wrapM];rfl
 have hhi:hi64 a b=a*b / 18446744073709551616:=rfl
 have hlt:=hi64_lt a b ha hb
 rw [e] at hhi
 generalize hi64 a b=H at *
 generalize lo64 a b=L at *
 have p1:=Nat.mul_lt_mul'' lt1 lt2
 have p2:=Nat.mul_lt_mul'' lt1 lt4
 have p3:=Nat.mul_lt_mul'' lt3 lt2
 have p4:=Nat.mul_lt_mul'' lt3 lt4
 have m1:IntKind.u64.wrap (((a % 4294967296:Nat):Int)*((b % 4294967296:Nat):Int))=((a % 4294967296*(b % 4294967296):Nat):Int):=by rw [mulN];exact wrapNat _ (by omega)
 have m2:IntKind.u64.wrap (((a % 4294967296:Nat):Int)*((b / 4294967296:Nat):Int))=((a % 4294967296*(b / 4294967296):Nat):Int):=by rw [mulN];exact wrapNat _ (by omega)
 have m3:IntKind.u64.wrap (((a / 4294967296:Nat):Int)*((b % 4294967296:Nat):Int))=((a / 4294967296*(b % 4294967296):Nat):Int):=by rw [mulN];exact wrapNat _ (by omega)
 have m4:IntKind.u64.wrap (((a / 4294967296:Nat):Int)*((b / 4294967296:Nat):Int))=((a / 4294967296*(b / 4294967296):Nat):Int):=by rw [mulN];exact wrapNat _ (by omega)
 clear e
 generalize a % 4294967296*(b % 4294967296)=q1 at *
 generalize a % 4294967296*(b / 4294967296)=q2 at *
 generalize a / 4294967296*(b % 4294967296)=q3 at *
 generalize a / 4294967296*(b / 4294967296)=q4 at *
 generalize a % 4294967296=a0 at *
 generalize a / 4294967296=a1 at *
 generalize b % 4294967296=b0 at *
 generalize b / 4294967296=b1 at *
 have g:(q4:Int)+(q2:Int) / 4294967296+(q3:Int) / 4294967296+((q1:Int) / 4294967296+(q2:Int) % 4294967296+(q3:Int) % 4294967296) / 4294967296=(H:Int):=by omega
 have g1:(q4:Int)+(q2:Int) / 4294967296+(q3:Int) / 4294967296+((q1:Int) / 4294967296+(q2:Int) % 4294967296+(q3:Int) % 4294967296) / 4294967296≤18446744073709551615:=by omega
 have G:=Lib.hid g
 clear g hhi
 go_enter Tryz.func124,Tryz.ntmps124
 go_wp2_with fail
 go_ret2
 rw [G.out]
 exact ⟨rfl,rfl⟩
end Go.Proofs.YtefekboacghnjaaGreat
namespace Go.Proofs.YtefekboacghnjaaGreat
open Go.RowKit
theorem ret_int {k:IntKind} {a b:Int} (h:a=b):Ending.returned (.int k a)=.returned (.int k b):=by rw [h]
def bitAt (x j:Nat):Nat:=x / 2 ^ (63 - j) % 2
theorem bitAt_lt (x j:Nat):bitAt x j<2:=Nat.mod_lt _ (by omega)
set_option maxHeartbeats 400000 in
theorem halve_any (x j:Nat) (hx:x<18446744073709551616) (hj:j≤63) (a b:Nat) (i:Nat) (h:(i=j∧x=a)∨(i=j+64∧x=b)) (w:World) :
  Calls Tryz.prog 125 #[.int .u64 a,.int .u64 b,.int .i64 i] w fun e w'=>e=.returned (.int .u64 (bitAt x j:Nat))∧w=w':=by
 rcases h with ⟨rfl,rfl⟩ | ⟨rfl,rfl⟩
 ·
  have t1:decide ((64:Int)≤(i:Int))=false:=decide_eq_false (by omega)
  go_enter Tryz.func125,Tryz.ntmps125
  go_wp2_with fail
  go_loop [2,7] (fun s2 s7=>∃ k y:Nat,k≤63∧y<18446744073709551616∧s2=.int .i64 k∧s7=.int .u64 y∧Hid (y / 2 ^ (63 - k) % 2=bitAt x i)) (fun s2 _=>63 - (intOf s2).toNat)
  case atStart=>exact ⟨i,x,hj,hx,rfl,rfl,rfl⟩
  case round =>
   obtain ⟨k,y,hk,hy,rfl,rfl,H⟩:=hrel
   by_cases hlt:k<63
   ·
    have hn:Hid ((y / 2) / 2 ^ (63 - (k+1)) % 2=bitAt x i):=by
     have h1:=H.out
     rw [show 63 - k=63 - (k+1)+1 by omega,Nat.pow_succ',← Nat.div_div_eq_div_mul] at h1
     exact h1
    go_wp2_with fail
    go_round
    case rel=>exact ⟨k+1,y / 2,by omega,by omega,by go_num,by go_num,hn⟩
    case measure=>simp [intOf];omega
   ·
    obtain rfl:k=63:=by omega
    have h1:=H.out
    have h2:y % 2=bitAt x i:=by simpa using h1
    have H2:=Lib.hid h2
    clear h1 h2 hlt
    go_wp2_with fail
    go_ret
    exact ⟨ret_int (by rw [← H2.out];omega),rfl⟩
 ·
  have t1:decide ((64:Int)≤(((j+64:Nat)):Int))=true:=decide_eq_true (by omega)
  have t2:(64:Int)≤(((j+64:Nat)):Int):=by omega
  go_enter Tryz.func125,Tryz.ntmps125
  go_wp2_with fail
  go_loop [2,7] (fun s2 s7=>∃ k y:Nat,k≤63∧y<18446744073709551616∧s2=.int .i64 k∧s7=.int .u64 y∧Hid (y / 2 ^ (63 - k) % 2=bitAt x j)) (fun s2 _=>63 - (intOf s2).toNat)
  case atStart=>exact ⟨j,x,hj,hx,by go_num,rfl,rfl⟩
  case round =>
   obtain ⟨k,y,hk,hy,rfl,rfl,H⟩:=hrel
   by_cases hlt:k<63
   ·
    have hn:Hid ((y / 2) / 2 ^ (63 - (k+1)) % 2=bitAt x j):=by
     have h1:=H.out
     rw [show 63 - k=63 - (k+1)+1 by omega,Nat.pow_succ',← Nat.div_div_eq_div_mul] at h1
     exact h1
    go_wp2_with fail
    go_round
    case rel=>exact ⟨k+1,y / 2,by omega,by omega,by go_num,by go_num,hn⟩
    case measure=>simp [intOf];omega
   ·
    obtain rfl:k=63:=by omega
    have h1:=H.out
    have h2:y % 2=bitAt x j:=by simpa using h1
    have H2:=Lib.hid h2
    clear h1 h2 hlt
    go_wp2_with fail
    go_ret
    exact ⟨ret_int (by rw [← H2.out];omega),rfl⟩
def bitN (n i:Nat):Nat:=n / 2 ^ (127 - i) % 2
theorem bitN_lt (n i:Nat):bitN n i<2:=Nat.mod_lt _ (by omega)
theorem bit_any (h l i:Nat) (hh:h<18446744073709551616) (hl:l<18446744073709551616) (hi:i<128) (w:World) :
  Calls Tryz.prog 125 #[.int .u64 h,.int .u64 l,.int .i64 i] w fun e w'=>e=.returned (.int .u64 (bitN (h*18446744073709551616+l) i:Nat))∧w=w':=by
 by_cases c:i<64
 ·
  rw [show bitN (h*18446744073709551616+l) i=bitAt h i from Pm.bit_hi h l i hl c]
  exact halve_any h i hh (by omega) h l i (.inl ⟨rfl,rfl⟩) w
 ·
  rw [show bitN (h*18446744073709551616+l) i=bitAt l (i - 64) from Pm.bit_lo h l i (by omega) hi]
  exact halve_any l (i - 64) hl (by omega) h l i (.inr ⟨by omega,rfl⟩) w
set_option maxRecDepth 100000 in
set_option maxHeartbeats 2000000 in
theorem refMulDiv_any (a b c:Nat) (ha:a<18446744073709551616) (hb:b<18446744073709551616) (hc:c<18446744073709551616) (w:World) :
  Calls Tryz.prog 98 #[.int .u64 a,.int .u64 b,.int .u64 c] w fun e w' =>
   e=.returned (.tuple #[.int .u64 (mdQ a b c:Nat),.int .u64 (mdR a b c:Nat),.bool (mdOk a b c)])∧w=w':=by
 rcases Nat.eq_zero_or_pos c with rfl | hc0
 ·
  have e1:mdQ a b 0=0:=by simp [mdQ]
  have e2:mdR a b 0=0:=by simp [mdR]
  have e3:mdOk a b 0=false:=by simp [mdOk]
  rw [e1,e2,e3]
  clear e1 e2 e3
  go_enter Tryz.func98,Tryz.ntmps98
  go_wp2_with fail
  go_ret3
  exact ⟨rfl,rfl⟩
 ·
  have c0:((c:Int) == 0)=false:=by simp;omega
  have pr:=product_any a b ha hb w
  have bi:=fun i hi=>bit_any (hi64 a b) (lo64 a b) i (hi64_lt a b ha hb) (lo64_lt a b) hi w
  rw [hi_lo] at bi
  obtain ⟨n,hn⟩:∃ n,n=a*b:=⟨_,rfl⟩
  have F1:Hid (n<c*18446744073709551616→mdOk a b c=true∧mdQ a b c=n / c∧mdR a b c=n % c):=fun h=>by
   subst hn;exact ⟨decide_eq_true h,if_pos h,if_pos h⟩
  have F2:Hid (c*18446744073709551616≤n→mdOk a b c=false∧mdQ a b c=0∧mdR a b c=0):=fun h=>by
   subst hn;exact ⟨decide_eq_false (by omega),if_neg (by omega),if_neg (by omega)⟩
  rw [← hn] at bi
  have hbig:n<340282366920938463463374607431768211456:=by rw [hn];exact Nat.mul_lt_mul'' ha hb
  clear hn
  generalize mdOk a b c=vo at *
  generalize mdQ a b c=vq at *
  generalize mdR a b c=vr at *
  generalize hi64 a b=h at *
  generalize lo64 a b=l at *
  have PR:=Lib.hid pr
  have BI:=Lib.hid bi
  clear pr bi
  go_enter Tryz.func98,Tryz.ntmps98
  go_wp2_with fail
  refine PR.out.mono ?_
  rintro e w1 ⟨rfl,rfl⟩
  clear PR
  go_wp2_with fail
  go_loop [11,12,13] (fun s11 s12 s13=>∃ k q r:Nat,k≤128∧q<18446744073709551616∧r<c∧s11=.int .u64 q∧s12=.int .u64 r∧s13=.int .i64 k∧Hid (q=n / 2 ^ (128 - k) / c∧r=n / 2 ^ (128 - k) % c)) (fun _ _ s13=>128 - (intOf s13).toNat)
  case atStart =>
   have h0:n / 2 ^ (128 - 0)=0:=Nat.div_eq_of_lt (by simpa using hbig)
   exact ⟨0,0,0,by omega,by omega,hc0,rfl,rfl,rfl,by rw [h0];simp,by rw [h0];simp⟩
  case round =>
   obtain ⟨k,q,r,hk,hq,hr,rfl,rfl,rfl,H⟩:=hrel
   by_cases hlt:k<128
   ·
    have hbi:=Lib.hid (BI.out k hlt)
    clear BI
    have bl:=bitN_lt n k
    have st:=Pm.div_step (n / 2 ^ (128 - k)) c (bitN n k) hc0 bl
    have hM:n / 2 ^ (128 - (k+1))=2*(n / 2 ^ (128 - k))+bitN n k:=by
     have:=Pm.halve_step n (127 - k)
     rw [show 127 - k+1=128 - k by omega] at this
     rw [show 128 - (k+1)=127 - k by omega]
     exact this
    have tg:=Pm.too_great n c (128 - k) q (by omega) H.out.1
    rw [← hM,← H.out.1,← H.out.2] at st
    obtain ⟨st1,st2⟩:=st
    generalize bitN n k=bt at *
    clear hM
    have STa:=Lib.hid st1
    have STb:=Lib.hid st2
    have TG:=Lib.hid tg
    clear st1 st2 tg
    have two:IntKind.u64.wrap (IntKind.u64.wrap (2*(r:Int))+(bt:Int))=(((2*r+bt) % 18446744073709551616:Nat):Int):=by
     simp only [IntKind.wrap_u64];omega
    have nx:k+1≤128:=hlt
    have z0:decide ((k:Int)<128)=true:=decide_eq_true (by omega)
    obtain ⟨T,hT⟩:∃ T,T=(2*r+bt) % 18446744073709551616:=⟨_,rfl⟩
    rw [← hT] at two
    have Tlt:T<18446744073709551616:=by rw [hT];exact Nat.mod_lt _ (by omega)
    have u:∀ r':Nat,r'<c→(c≤2*r+bt→r'=2*r+bt - c)→(2*r+bt<c→r'=2*r+bt)→(q<9223372036854775808)→∀ q':Nat,(c≤2*r+bt→q'=2*q+1)→(2*r+bt<c→q'=2*q) →
      Hid (q'=n / 2 ^ (128 - (k+1)) / c∧r'=n / 2 ^ (128 - (k+1)) % c):=by
     intro r' _ h1 h2 _ q' h3 h4
     by_cases cc:c≤2*r+bt
     · rw [h1 cc,h3 cc];exact ⟨(STa.out cc).1.symm,(STa.out cc).2.symm⟩
     · rw [h2 (by omega),h4 (by omega)];exact ⟨(STb.out (by omega)).1.symm,(STb.out (by omega)).2.symm⟩
    clear STa STb
    have w1:∀ q':Nat,q<9223372036854775808→IntKind.u64.wrap (IntKind.u64.wrap (2*(q:Int))+1)=((2*q+1:Nat):Int):=fun _ h=>by simp only [IntKind.wrap_u64];omega
    by_cases h1:9223372036854775808≤r
    ·
     by_cases big:9223372036854775808≤q
     ·
      have ov:decide ((9223372036854775808:Int)≤(r:Int))=true:=decide_eq_true (by omega)
      have sb:IntKind.u64.wrap ((T:Int) - (c:Int))=((2*r+bt - c:Nat):Int):=by rw [IntKind.wrap_u64];omega
      obtain ⟨rfl,rfl,rfl⟩:=F2.out (TG.out big)
      have b1:decide ((9223372036854775808:Int)≤(q:Int))=true:=decide_eq_true (by omega)
      clear u F1 F2 TG H hT w1 hq
      go_wp2_with (go_at_call 125;refine hbi.out.mono ?_;rintro e w' ⟨rfl,rfl⟩)
      go_ret3
      exact ⟨rfl,rfl⟩
     ·
      have ov:decide ((9223372036854775808:Int)≤(r:Int))=true:=decide_eq_true (by omega)
      have sb:IntKind.u64.wrap ((T:Int) - (c:Int))=((2*r+bt - c:Nat):Int):=by rw [IntKind.wrap_u64];omega
      have b1:decide ((9223372036854775808:Int)≤(q:Int))=false:=decide_eq_false (by omega)
      have hu:=u (2*r+bt - c) (by omega) (by omega) (by omega) (by omega) (2*q+1) (by omega) (by omega)
      have hq2:2*q+1<18446744073709551616:=by omega
      have hr2:2*r+bt - c<c:=by omega
      clear u F1 F2 TG H hT w1
      go_wp2_with (go_at_call 125;refine hbi.out.mono ?_;rintro e w' ⟨rfl,rfl⟩)
      go_round
      case rel=>exact ⟨k+1,2*q+1,2*r+bt - c,nx,hq2,hr2,by go_num,by go_num,by go_num,hu⟩
      case measure=>simp [intOf];omega
    ·
     by_cases h2:c≤2*r+bt
     ·
      by_cases big:9223372036854775808≤q
      ·
       have ov:decide ((9223372036854775808:Int)≤(r:Int))=false:=decide_eq_false (by omega)
       have ge:decide ((c:Int)≤(T:Int))=true:=decide_eq_true (by omega)
       have ge2:decide (c≤T)=true:=decide_eq_true (by omega)
       have sb:IntKind.u64.wrap ((T:Int) - (c:Int))=((2*r+bt - c:Nat):Int):=by rw [IntKind.wrap_u64];omega
       obtain ⟨rfl,rfl,rfl⟩:=F2.out (TG.out big)
       have b1:decide ((9223372036854775808:Int)≤(q:Int))=true:=decide_eq_true (by omega)
       clear u F1 F2 TG H hT w1 hq
       go_wp2_with (go_at_call 125;refine hbi.out.mono ?_;rintro e w' ⟨rfl,rfl⟩)
       go_ret3
       exact ⟨rfl,rfl⟩
      ·
       have ov:decide ((9223372036854775808:Int)≤(r:Int))=false:=decide_eq_false (by omega)
       have ge:decide ((c:Int)≤(T:Int))=true:=decide_eq_true (by omega)
       have ge2:decide (c≤T)=true:=decide_eq_true (by omega)
       have sb:IntKind.u64.wrap ((T:Int) - (c:Int))=((2*r+bt - c:Nat):Int):=by rw [IntKind.wrap_u64];omega
       have b1:decide ((9223372036854775808:Int)≤(q:Int))=false:=decide_eq_false (by omega)
       have hu:=u (2*r+bt - c) (by omega) (by omega) (by omega) (by omega) (2*q+1) (by omega) (by omega)
       have hq2:2*q+1<18446744073709551616:=by omega
       have hr2:2*r+bt - c<c:=by omega
       clear u F1 F2 TG H hT w1
       go_wp2_with (go_at_call 125;refine hbi.out.mono ?_;rintro e w' ⟨rfl,rfl⟩)
       go_round
       case rel=>exact ⟨k+1,2*q+1,2*r+bt - c,nx,hq2,hr2,by go_num,by go_num,by go_num,hu⟩
       case measure=>simp [intOf];omega
     ·
      by_cases big:9223372036854775808≤q
      ·
       have ov:decide ((9223372036854775808:Int)≤(r:Int))=false:=decide_eq_false (by omega)
       obtain rfl:T=2*r+bt:=by omega
       have ge:decide ((c:Int)≤((2*r+bt:Nat):Int))=false:=decide_eq_false (by omega)
       have ge2:decide (c≤2*r+bt)=false:=decide_eq_false (by omega)
       obtain ⟨rfl,rfl,rfl⟩:=F2.out (TG.out big)
       have b1:decide ((9223372036854775808:Int)≤(q:Int))=true:=decide_eq_true (by omega)
       clear u F1 F2 TG H hT w1 hq
       go_wp2_with (go_at_call 125;refine hbi.out.mono ?_;rintro e w' ⟨rfl,rfl⟩)
       go_ret3
       exact ⟨rfl,rfl⟩
      ·
       have ov:decide ((9223372036854775808:Int)≤(r:Int))=false:=decide_eq_false (by omega)
       obtain rfl:T=2*r+bt:=by omega
       have ge:decide ((c:Int)≤((2*r+bt:Nat):Int))=false:=decide_eq_false (by omega)
       have ge2:decide (c≤2*r+bt)=false:=decide_eq_false (by omega)
       have b1:decide ((9223372036854775808:Int)≤(q:Int))=false:=decide_eq_false (by omega)
       have hu:=u (2*r+bt) (by omega) (by omega) (by omega) (by omega) (2*q+0) (by omega) (by omega)
       have hq2:2*q+0<18446744073709551616:=by omega
       have hr2:2*r+bt<c:=by omega
       clear u F1 F2 TG H hT w1
       go_wp2_with (go_at_call 125;refine hbi.out.mono ?_;rintro e w' ⟨rfl,rfl⟩)
       go_round
       case rel=>exact ⟨k+1,2*q+0,2*r+bt,nx,hq2,hr2,by go_num,by go_num,by go_num,hu⟩
       case measure=>simp [intOf];omega
   ·
    obtain rfl:k=128:=by omega
    have h1:=H.out
    simp only [Nat.sub_self,Nat.pow_zero,Nat.div_one] at h1
    have hlt:n<c*18446744073709551616:=by
     rw [h1.1,Nat.div_lt_iff_lt_mul hc0,Nat.mul_comm] at hq;exact hq
    obtain ⟨rfl,e2,e3⟩:=F1.out hlt
    rw [← h1.1] at e2
    rw [← h1.2] at e3
    subst e2 e3
    have z0:decide (((128:Nat):Int)<128)=false:=decide_eq_false (by omega)
    clear hlt BI H h1 F1 F2
    go_wp2_with fail
    go_ret3
    exact ⟨rfl,rfl⟩
end Go.Proofs.YtefekboacghnjaaGreat
namespace Go.Proofs.YtefekboacghnjaaGreat
open Go.RowKit
end Go.Proofs.YtefekboacghnjaaGreat
namespace Go.Proofs.YtefekboacghnjaaGreat
open Go.RowKit
end Go.Proofs.YtefekboacghnjaaGreat
namespace Go.Proofs.YtefekboacghnjaaGreat
open Go.RowKit
theorem wrap_toNat (v:BitVec 64):IntKind.i64.wrap ((v.toNat:Nat):Int)=v.toInt:=by
 rw [IntKind.wrap_i64,BitVec.toInt_eq_toNat_bmod,Int.bmod_def]
 have:=v.isLt
 split <;> omega
theorem ofInt_toInt (a:Int) (h1:-9223372036854775808≤a) (h2:a≤9223372036854775807):(BitVec.ofInt 64 a).toInt=a:=by
 rw [BitVec.toInt_ofInt,Int.bmod_def]
 omega
theorem bits_xor (x y:Int):bits .xor .i64 x y=(BitVec.ofInt 64 x ^^^ BitVec.ofInt 64 y).toInt:=by
 show IntKind.i64.wrap ((BitVec.ofInt 64 x ^^^ BitVec.ofInt 64 y).toNat:Int)=_
 rw [wrap_toNat]
theorem bits_and (x y:Int):bits .and .i64 x y=(BitVec.ofInt 64 x &&& BitVec.ofInt 64 y).toInt:=by
 show IntKind.i64.wrap ((BitVec.ofInt 64 x &&& BitVec.ofInt 64 y).toNat:Int)=_
 rw [wrap_toNat]
theorem msb_ofInt (a:Int) (h1:-9223372036854775808≤a) (h2:a≤9223372036854775807):(BitVec.ofInt 64 a).msb=decide (a<0):=by
 rw [BitVec.msb_eq_toInt,ofInt_toInt a h1 h2]
theorem signs (a b n:Int) (ha1:-9223372036854775808≤a) (ha2:a≤9223372036854775807) (hb1:-9223372036854775808≤b) (hb2:b≤9223372036854775807) (hn1:-9223372036854775808≤n) (hn2:n≤9223372036854775807) :
  decide (bits .and .i64 (bits .xor .i64 a n) (bits .xor .i64 b n)<0)=((decide (a<0) != decide (n<0)) && (decide (b<0) != decide (n<0))):=by
 rw [bits_xor,bits_xor,bits_and]
 rw [BitVec.ofInt_toInt,BitVec.ofInt_toInt,← BitVec.msb_eq_toInt]
 rw [BitVec.msb_and,BitVec.msb_xor,BitVec.msb_xor,msb_ofInt a ha1 ha2,msb_ofInt b hb1 hb2,msb_ofInt n hn1 hn2]
def satZ (a b:Int):Int:=if 9223372036854775807<a+b then 9223372036854775807 else if a+b < -9223372036854775808 then -9223372036854775808 else a+b
def overZ (a b:Int):Bool:=decide (9223372036854775807<a+b∨a+b < -9223372036854775808)
theorem satZ_in (a b:Int) (h1:-9223372036854775808≤a+b) (h2:a+b≤9223372036854775807):satZ a b=a+b:=by
 unfold satZ;rw [if_neg (by omega),if_neg (by omega)]
theorem satZ_lo (a b:Int):-9223372036854775808≤satZ a b:=by unfold satZ;split <;> (try split) <;> omega
theorem satZ_hi (a b:Int):satZ a b≤9223372036854775807:=by unfold satZ;split <;> (try split) <;> omega
set_option maxRecDepth 100000 in
theorem fadd_yes (a b:Int) (ha1:-9223372036854775808≤a) (ha2:a≤9223372036854775807) (hb1:-9223372036854775808≤b) (hb2:b≤9223372036854775807) (h1:-9223372036854775808≤a+b) (h2:a+b≤9223372036854775807) (w:World) :
  Calls Tryz.prog 88 #[.int .i64 a,.int .i64 b] w fun e w'=>e=.returned (.tuple #[.int .i64 (a+b),.bool true])∧w=w':=by
 obtain ⟨n,hn⟩:∃ n,n=a+b:=⟨_,rfl⟩
 have e1:a+b=n:=hn.symm
 have sg:=signs a b n ha1 ha2 hb1 hb2 (by omega) (by omega)
 have sf:decide (bits .and .i64 (bits .xor .i64 a n) (bits .xor .i64 b n)<0)=false:=by
  rw [sg]
  by_cases p:a<0 <;> by_cases q:b<0 <;> by_cases r:n<0 <;> simp [p,q,r] <;> omega
 rw [e1]
 clear sg hn
 go_enter Tryz.func88,Tryz.ntmps88
 go_wp2_with fail
 go_ret2
 exact ⟨rfl,rfl⟩
set_option maxRecDepth 100000 in
theorem fadd_no (a b:Int) (ha1:-9223372036854775808≤a) (ha2:a≤9223372036854775807) (hb1:-9223372036854775808≤b) (hb2:b≤9223372036854775807) (h:a+b < -9223372036854775808∨9223372036854775807<a+b) (w:World) :
  Calls Tryz.prog 88 #[.int .i64 a,.int .i64 b] w fun e w'=>e=.returned (.tuple #[.int .i64 0,.bool false])∧w=w':=by
 obtain ⟨n,hn⟩:∃ n,n=IntKind.i64.wrap (a+b):=⟨_,rfl⟩
 have e1:IntKind.i64.wrap (a+b)=n:=hn.symm
 have e2:wrap64 (a+b)=n:=by rw [← e1];exact (IntWalk.i64_left _).symm
 rw [IntKind.wrap_i64] at hn
 have sg:=signs a b n ha1 ha2 hb1 hb2 (by omega) (by omega)
 have sf:decide (bits .and .i64 (bits .xor .i64 a n) (bits .xor .i64 b n)<0)=true:=by
  rw [sg]
  by_cases p:a<0 <;> by_cases q:b<0 <;> by_cases r:n<0 <;> simp [p,q,r] <;> omega
 clear sg hn h
 go_enter Tryz.func88,Tryz.ntmps88
 go_wp2_with fail
 go_ret2
 exact ⟨rfl,rfl⟩
set_option maxRecDepth 100000 in
theorem held_yes (n:Int) (f:Value) (w:World):Calls Tryz.prog 116 #[.int .i64 n,.bool true,f] w fun e w'=>e=.returned (.int .i64 n)∧w=w':=by
 go_enter Tryz.func116,Tryz.ntmps116
 go_wp2_with fail
 go_ret
 exact ⟨rfl,rfl⟩
theorem satEnd_any (b:Int) (B:Nat) (w:World) (hc:w.cell? ⟨B,0,none⟩=some (.int .i64 b)) :
  Calls Tryz.prog 117 #[.pointer (some ⟨B,0,none⟩)] w fun e w'=>e=.returned (.int .i64 (if 0<b then 9223372036854775807 else -9223372036854775808))∧w=w':=by
 by_cases h:0<b
 ·
  rw [if_pos h]
  have t1:decide (0<b)=true:=decide_eq_true h
  go_enter Tryz.func117,Tryz.ntmps117
  go_wp2_with fail
  go_ret
  exact ⟨rfl,rfl⟩
 ·
  rw [if_neg h]
  have t1:decide (0<b)=false:=decide_eq_false h
  go_enter Tryz.func117,Tryz.ntmps117
  go_wp2_with fail
  go_ret
  exact ⟨rfl,rfl⟩
set_option maxRecDepth 100000 in
theorem held_no (n b:Int) (B:Nat) (w:World) (hc:w.cell? ⟨B,0,none⟩=some (.int .i64 b)) :
  Calls Tryz.prog 116 #[.int .i64 n,.bool false,.func (.func 117) #[] #[.pointer (some ⟨B,0,none⟩)]] w fun e w'=>e=.returned (.int .i64 (if 0<b then 9223372036854775807 else -9223372036854775808))∧w=w':=by
 have M1:=Lib.hid (satEnd_any b B w hc)
 generalize (if 0<b then (9223372036854775807:Int) else -9223372036854775808)=x at *
 clear hc
 go_enter Tryz.func116,Tryz.ntmps116
 go_wp2_with fail
 refine M1.out.mono ?_
 rintro e w' ⟨rfl,rfl⟩
 go_wp2_with fail
 go_ret
 exact ⟨rfl,rfl⟩
set_option maxRecDepth 100000 in
theorem fsat_any (a b:Int) (ha1:-9223372036854775808≤a) (ha2:a≤9223372036854775807) (hb1:-9223372036854775808≤b) (hb2:b≤9223372036854775807) (w:World) :
  Calls Tryz.prog 90 #[.int .i64 a,.int .i64 b] w fun e w'=>e=.returned (.int .i64 (satZ a b))∧Below w.heap.size w w':=by
 have hB0:Below w.heap.size w (w.alloc (.cells #[.int .i64 b] 2)):=(Below.refl _ _).alloc (Nat.le_refl _) _
 by_cases h:a+b < -9223372036854775808∨9223372036854775807<a+b
 ·
  have e:(if 0<b then (9223372036854775807:Int) else -9223372036854775808)=satZ a b:=by
   unfold satZ
   by_cases hb:0<b
   · rw [if_pos hb,if_pos (by omega)]
   · rw [if_neg hb,if_neg (by omega),if_pos (by omega)]
  have m2:=fun B W hc=>held_no 0 b B W hc
  rw [e] at m2
  have M1:=Lib.hid fun W=>fadd_no a b ha1 ha2 hb1 hb2 h W
  have M2:=Lib.hid m2
  generalize satZ a b=s at *
  clear e m2 h
  go_enter Tryz.func90,Tryz.ntmps90
  go_wp2_with fail
  refine (M1.out _).mono ?_
  rintro e w' ⟨rfl,rfl⟩
  go_wp2_with fail
  refine (M2.out _ _ (by simp [go_sem])).mono ?_
  rintro e w' ⟨rfl,rfl⟩
  go_wp2_with fail
  go_ret
  exact ⟨rfl,hB0⟩
 ·
  have e:satZ a b=a+b:=satZ_in a b (by omega) (by omega)
  have m1:=fun W=>fadd_yes a b ha1 ha2 hb1 hb2 (by omega) (by omega) W
  rw [← e] at m1
  have M1:=Lib.hid m1
  generalize satZ a b=s at *
  clear e m1 h
  go_enter Tryz.func90,Tryz.ntmps90
  go_wp2_with fail
  refine (M1.out _).mono ?_
  rintro e w' ⟨rfl,rfl⟩
  go_wp2_with fail
  refine (held_yes s _ _).mono ?_
  rintro e w' ⟨rfl,rfl⟩
  go_wp2_with fail
  go_ret
  exact ⟨rfl,hB0⟩
def holdZ (n lo hi:Int):Int:=if n<lo then lo else if hi<n then hi else n
theorem holdZ_credit (n:Int):0≤holdZ n 0 1099511627776∧holdZ n 0 1099511627776≤1099511627776:=by
 unfold holdZ;split <;> (try split) <;> omega
theorem fhold_any (n lo hi:Int) (w:World):Calls Tryz.prog 112 #[.int .i64 n,.int .i64 lo,.int .i64 hi] w fun e w'=>e=.returned (.int .i64 (holdZ n lo hi))∧w=w':=by
 by_cases h:n<lo
 ·
  have e:holdZ n lo hi=lo:=if_pos h
  rw [e]
  have t1:decide (n<lo)=true:=decide_eq_true h
  clear e
  go_enter Tryz.func112,Tryz.ntmps112
  go_wp2_with fail
  go_ret
  exact ⟨rfl,rfl⟩
 ·
  have e:holdZ n lo hi=min n hi:=by
   unfold holdZ
   rw [if_neg h]
   split <;> omega
  rw [e]
  have t1:decide (n<lo)=false:=decide_eq_false h
  clear e
  go_enter Tryz.func112,Tryz.ntmps112
  go_wp2_with fail
  go_ret
  exact ⟨rfl,rfl⟩
theorem refHold_any (n lo hi:Int) (w:World):Calls Tryz.prog 128 #[.int .i64 n,.int .i64 lo,.int .i64 hi] w fun e w'=>e=.returned (.int .i64 (holdZ n lo hi))∧w=w':=by
 by_cases h:n<lo
 ·
  have e:holdZ n lo hi=lo:=if_pos h
  rw [e]
  have t1:decide (n<lo)=true:=decide_eq_true h
  clear e
  go_enter Tryz.func128,Tryz.ntmps128
  go_wp2_with fail
  go_ret
  exact ⟨rfl,rfl⟩
 ·
  have t1:decide (n<lo)=false:=decide_eq_false h
  by_cases h2:hi<n
  ·
   have e:holdZ n lo hi=hi:=by unfold holdZ;rw [if_neg h,if_pos h2]
   rw [e]
   have t2:decide (hi<n)=true:=decide_eq_true h2
   clear e
   go_enter Tryz.func128,Tryz.ntmps128
   go_wp2_with fail
   go_ret
   exact ⟨rfl,rfl⟩
  ·
   have e:holdZ n lo hi=n:=by unfold holdZ;rw [if_neg h,if_neg h2]
   rw [e]
   have t2:decide (hi<n)=false:=decide_eq_false h2
   clear e
   go_enter Tryz.func128,Tryz.ntmps128
   go_wp2_with fail
   go_ret
   exact ⟨rfl,rfl⟩
set_option maxRecDepth 100000 in
theorem refAdd_yes (a b:Int) (_ha1:-9223372036854775808≤a) (_ha2:a≤9223372036854775807) (hb1:-9223372036854775808≤b) (hb2:b≤9223372036854775807) (h1:-9223372036854775808≤a+b) (h2:a+b≤9223372036854775807) (w:World) :
  Calls Tryz.prog 103 #[.int .i64 a,.int .i64 b] w fun e w'=>e=.returned (.tuple #[.int .i64 (a+b),.bool true])∧w=w':=by
 by_cases p:0<b
 ·
  have t1:decide (0<b)=true:=decide_eq_true p
  have t2:decide (b<0)=false:=decide_eq_false (by omega)
  have t3:decide (9223372036854775807 - b<a)=false:=decide_eq_false (by omega)
  go_enter Tryz.func103,Tryz.ntmps103
  go_wp2_with fail
  go_ret2
  exact ⟨rfl,rfl⟩
 ·
  have t1:decide (0<b)=false:=decide_eq_false p
  by_cases q:b<0
  ·
   have t2:decide (b<0)=true:=decide_eq_true q
   have t3:decide (a < -9223372036854775808 - b)=false:=decide_eq_false (by omega)
   go_enter Tryz.func103,Tryz.ntmps103
   go_wp2_with fail
   go_ret2
   exact ⟨rfl,rfl⟩
  ·
   have t2:decide (b<0)=false:=decide_eq_false q
   go_enter Tryz.func103,Tryz.ntmps103
   go_wp2_with fail
   go_ret2
   exact ⟨rfl,rfl⟩
set_option maxRecDepth 100000 in
theorem refAdd_no (a b:Int) (ha1:-9223372036854775808≤a) (ha2:a≤9223372036854775807) (hb1:-9223372036854775808≤b) (hb2:b≤9223372036854775807) (h:a+b < -9223372036854775808∨9223372036854775807<a+b) (w:World) :
  Calls Tryz.prog 103 #[.int .i64 a,.int .i64 b] w fun e w'=>e=.returned (.tuple #[.int .i64 0,.bool false])∧w=w':=by
 by_cases p:0<b
 ·
  have t1:decide (0<b)=true:=decide_eq_true p
  have t2:decide (b<0)=false:=decide_eq_false (by omega)
  have t3:decide (9223372036854775807 - b<a)=true:=decide_eq_true (by omega)
  clear h
  go_enter Tryz.func103,Tryz.ntmps103
  go_wp2_with fail
  go_ret2
  exact ⟨rfl,rfl⟩
 ·
  have t1:decide (0<b)=false:=decide_eq_false p
  have t2:decide (b<0)=true:=decide_eq_true (by omega)
  have t3:decide (a < -9223372036854775808 - b)=true:=decide_eq_true (by omega)
  clear h
  go_enter Tryz.func103,Tryz.ntmps103
  go_wp2_with fail
  go_ret2
  exact ⟨rfl,rfl⟩
set_option maxRecDepth 100000 in
theorem refSat_any (a b:Int) (ha1:-9223372036854775808≤a) (ha2:a≤9223372036854775807) (hb1:-9223372036854775808≤b) (hb2:b≤9223372036854775807) (w:World) :
  Calls Tryz.prog 104 #[.int .i64 a,.int .i64 b] w fun e w'=>e=.returned (.int .i64 (satZ a b))∧w=w':=by
 by_cases h:a+b < -9223372036854775808∨9223372036854775807<a+b
 ·
  have M1:=Lib.hid fun W=>refAdd_no a b ha1 ha2 hb1 hb2 h W
  by_cases p:0<b
  ·
   have e:satZ a b=9223372036854775807:=by unfold satZ;rw [if_pos (by omega)]
   rw [e]
   have t1:decide (0<b)=true:=decide_eq_true p
   clear e h
   go_enter Tryz.func104,Tryz.ntmps104
   go_wp2_with fail
   refine (M1.out _).mono ?_
   rintro e w' ⟨rfl,rfl⟩
   go_wp2_with fail
   go_ret
   exact ⟨rfl,rfl⟩
  ·
   have e:satZ a b = -9223372036854775808:=by unfold satZ;rw [if_neg (by omega),if_pos (by omega)]
   rw [e]
   have t1:decide (0<b)=false:=decide_eq_false p
   clear e h
   go_enter Tryz.func104,Tryz.ntmps104
   go_wp2_with fail
   refine (M1.out _).mono ?_
   rintro e w' ⟨rfl,rfl⟩
   go_wp2_with fail
   go_ret
   exact ⟨rfl,rfl⟩
 ·
  have e:satZ a b=a+b:=satZ_in a b (by omega) (by omega)
  have m1:=fun W=>refAdd_yes a b ha1 ha2 hb1 hb2 (by omega) (by omega) W
  rw [← e] at m1
  have M1:=Lib.hid m1
  generalize satZ a b=s at *
  clear e m1 h
  go_enter Tryz.func104,Tryz.ntmps104
  go_wp2_with fail
  refine (M1.out _).mono ?_
  rintro e w' ⟨rfl,rfl⟩
  go_wp2_with fail
  go_ret
  exact ⟨rfl,rfl⟩
end Go.Proofs.YtefekboacghnjaaGreat
