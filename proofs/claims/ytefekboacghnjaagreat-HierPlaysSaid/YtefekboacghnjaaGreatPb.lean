/-
  doleref08: with: an entity in another one's place.
  doleref08: Weigh, Charge.
  doleref08: Charge.
-/
import Derived.Test.YtefekboacghnjaaGreatPa
import Derived.Test.YtefekboacghnjaaGreatMi
namespace Go.Proofs.YtefekboacghnjaaGreat
open Go.RowKit Go.Maps
theorem append_rows {P:Program} {w:World} {ops:Array Oper} {rest:List Oper} {o:Oper} {a:Act} {Q:Exit→Act→World→Prop} (hgd:o.guard=none) (s x:Operand) (t:TypeId)
  (ho:o.op=.call { callee:=.builtin .append,args:=#[s,x],argTypes:=#[t,t] })
  (base:Nat) (e:TypeId) (i:TypeInfo) (z:Value) (size bytes:Nat) (ht:P.underlying t=some (.slice e)) (hi:P.info? e=some i) (hz:i.zero=some z)
  (hsize:i.size=size) (hby:i.bytes=bytes) (hzs:z.cells.size=size) (hsz:0<size)
  (v:Value) (n:Nat) (xs:List Value) (hs:a.eval s=v) (hown:w.ownsRow base e size v n xs)
  (A:Option Addr) (m c:Nat) (news:List Value) (hx:a.eval x=.slice A m c) (hl:news.length=m*size)
  (hA:(A=none∧m=0∧c=0)∨∃ ad,A=some ad∧∀ j u,news[j]?=some u→w.cell? (ad.add j)=some u) (h1:∀ u ∈ news,u.oneCell'=true)
  (h63:n+m≤maxLen) (hbytes:(n+m)*bytes≤140737488355328) (hbase:base≤w.heap.size)
  (h:∀ v' w',w'.ownsRow base e size v' (n+m) (xs++news)→w.grownBy w' v.ownBlock→wpList P ops Q rest (a.put o.dst v') w'):wpList P ops Q (o::rest) a w:=by
 rcases hA with ⟨rfl,rfl,rfl⟩ | ⟨ad,rfl,hnews⟩
 ·
  have hn:news=[]:=List.eq_nil_of_length_eq_zero (by simpa using hl)
  subst hn
  exact wpList_append_own_none hgd s x t ho base e i size ht hi v n xs hs hown hx (h v w (by simpa using hown) (World.grownBy.refl _ _))
 · exact wpList_append_own w hgd s x t ho base e i z size bytes ht hi hz hsize hby hzs hsz v n xs hs hown ad m c news hx hl hnews h1 h63 hbytes hbase fun v' w' h2 h3 _=>h v' w' h2 h3
theorem ecl_len (L:List En):(L.flatMap ecl).length=L.length*4:=by
 induction L with
 | nil=>rfl
 | cons e L ih=>rw [List.flatMap_cons,List.length_append,ih,List.length_cons];show 4+_=_;omega
theorem ecl_one (L:List En):∀ u ∈ L.flatMap ecl,u.oneCell'=true:=by
 intro u hu
 obtain ⟨e,_,he⟩:=List.mem_flatMap.1 hu
 simp only [ecl,List.mem_cons,List.not_mem_nil,or_false] at he
 rcases he with rfl | rfl | rfl | rfl <;> rfl
def RQ (w:World) (B:Nat) (A:Option Addr) (c:Nat) (L:List En):Prop:=RowE w B A L∧(A=none→L=[]∧c=0)∧L.length≤c
theorem addr_add (b o j:Nat):(⟨b,o,none⟩:Addr).add j=⟨b,o+j,none⟩:=by
 rcases Nat.eq_zero_or_pos j with rfl | h
 · simp [Addr.add]
 · simp [Addr.add];omega
theorem RowE.cells {w:World} {B b off:Nat} {L:List En} (hb:RowE w B (some ⟨b,off,none⟩) L):∀ j u,(L.flatMap ecl)[j]?=some u→w.cell? ((⟨b,off,none⟩:Addr).add j)=some u:=fun j u hu=>by
 have hj:=(List.getElem?_eq_some_iff.1 hu).1
 rw [ecl_len] at hj
 obtain ⟨b2,o2,he,_,hc⟩:=hb.at_ (by omega)
 injection he with he
 injection he with h1 h2
 subst h1 h2
 have hq:j / 4<L.length:=by omega
 have e1:j=j / 4*4+j % 4:=by omega
 have e2:=flat_at ecl 4 (fun _=>rfl) L (j / 4) (j % 4) (by omega)
 rw [← e1,hu,List.getElem?_eq_getElem hq] at e2
 obtain ⟨x0,x1,x2,x3⟩:=hc (j / 4) hq
 rw [getD_at L hq] at x0 x1 x2 x3
 rw [addr_add,show off+j=off+j / 4*4+j % 4 by omega]
 have e3:some u=(ecl L[j / 4])[j % 4]?:=e2
 rcases (show j % 4=0∨j % 4=1∨j % 4=2∨j % 4=3 by omega) with h | h | h | h
 · rw [h] at e3 ⊢;rw [e3];exact x0
 · rw [h] at e3 ⊢;rw [e3];exact x1
 · rw [h] at e3 ⊢;rw [e3];exact x2
 · rw [h] at e3 ⊢;rw [e3];exact x3
theorem RQ.src {w:World} {B:Nat} {A:Option Addr} {c:Nat} {L:List En} (h:RQ w B A c L):(A=none∧L.length=0∧c=0)∨∃ ad,A=some ad∧∀ j u,(L.flatMap ecl)[j]?=some u→w.cell? (ad.add j)=some u:=by
 cases A with
 | none=>exact .inl ⟨rfl,by rw [(h.2.1 rfl).1];rfl,(h.2.1 rfl).2⟩
 | some ad =>
  refine .inr ⟨ad,rfl,?_⟩
  by_cases h0:L=[]
  ·
   subst h0
   intro j u hu
   simp at hu
  ·
   rcases h.1 with h1 | ⟨b,off,he,hb,hc⟩
   · exact absurd h1 h0
   ·
    injection he with he
    subst he
    exact RowE.cells (.inr ⟨b,off,rfl,hb,hc⟩:RowE w B (some ⟨b,off,none⟩) L)
theorem RQ.below {w w':World} {B:Nat} {A:Option Addr} {c:Nat} {L:List En} (h:RQ w B A c L) (k:Below B w w'):RQ w' B A c L:=⟨h.1.below k,h.2⟩
theorem RQ.mono {w:World} {B C:Nat} {A:Option Addr} {c:Nat} {L:List En} (h:RQ w B A c L) (k:B≤C):RQ w C A c L:=⟨h.1.mono k,h.2⟩
theorem own_cap {w:World} {base m n k c:Nat} {A:Option Addr} {xs:List Value} {e:TypeId} (h:w.ownsRow base e k (.slice A m c) n xs):n≤c:=by
 rcases h.2 with ⟨_,h0⟩ | ⟨g,cap,cur,hv,_,_,r1,_,_,_⟩
 · omega
 ·
  injection hv with _ _ h3
  omega
theorem own_rq {w:World} {base:Nat} {v:Value} {es:List En} {e:TypeId} (h:w.ownsRow base e 4 v es.length (es.flatMap ecl)):∃ A c,v=.slice A es.length c∧RQ w w.heap.size A c es∧∀ a,A=some a→base≤a.block:=by
 rcases row_cells h with ⟨rfl,hz⟩ | ⟨g,c,rfl,hb,hg,hl,hc⟩
 ·
  have h0:=List.eq_nil_of_length_eq_zero hz
  exact ⟨none,0,by rw [hz],⟨.inl h0,fun _=>⟨h0,rfl⟩,by rw [h0];exact Nat.zero_le _⟩,fun a ha=>by simp at ha⟩
 ·
  obtain ⟨A2,c2,he,hr,_⟩:=own_ents h
  injection he with h1 _ h3
  subst h1 h3
  exact ⟨_,c,rfl,⟨hr,fun hn=>by simp at hn,own_cap h⟩,fun a ha=>by injection ha with ha;rw [← ha];exact hb⟩
theorem infoEn:(Tryz.prog.info? 34).map (fun i=>(i.zero,i.size,i.bytes))=some (some (.agg zeroE),4,32):=infoE
theorem rboxes3 (w:World) (c1 c2 c3:Array Value) (t1 t2 t3:TypeId):∃ W,W=((w.alloc (.cells c1 t1)).alloc (.cells c2 t2)).alloc (.cells c3 t3)∧Below w.heap.size w W∧W.heap.size=w.heap.size+3∧Blk W w.heap.size c1 t1∧Blk W (w.heap.size+1) c2 t2∧Blk W (w.heap.size+2) c3 t3:=by
 have n1:=Blk.new w c1 t1
 have n2:=Blk.new (w.alloc (.cells c1 t1)) c2 t2
 have n3:=Blk.new ((w.alloc (.cells c1 t1)).alloc (.cells c2 t2)) c3 t3
 refine ⟨_,rfl,((((Below.refl _ _).alloc (Nat.le_refl _) _).alloc (by simp) _).alloc (by simp;omega) _),by simp,(n1.alloc _).alloc _,?_,?_⟩
 ·
  rw [World.size_alloc] at n2
  exact n2.alloc _
 ·
  simp only [World.size_alloc] at n3
  exact n3
theorem own_full {w:World} {base n:Nat} {v:Value} {es:List En} {e:TypeId} (hn:n=es.length) (h0:0<n) (h:w.ownsRow base e 4 v (0+n) ([]++es.flatMap ecl)) :
  ∃ g c,v=.slice (some ⟨g,0,none⟩) n c∧base≤g∧g<w.heap.size∧RowE w w.heap.size (some ⟨g,0,none⟩) es∧∃ cs,Blk w g cs e∧n*4≤cs.size:=by
 rw [Nat.zero_add,List.nil_append,hn] at h
 rcases h.2 with ⟨_,hz⟩ | ⟨g,cap,cur,rfl,hbase,hgb,r1,r2,r3,r4⟩
 · omega
 ·
  obtain ⟨A2,c2,he,hr,_⟩:=own_ents h
  injection he with h1 _ h3
  subst h1 h3
  refine ⟨g,cap,by rw [hn],hbase,(Array.getElem?_eq_some_iff.1 hgb).1,hr,cur,hgb,?_⟩
  have hl:=congrArg List.length r4
  rw [List.length_take,ecl_len] at hl
  simp at hl
  omega
theorem set_at {L:List En} {k:Nat} (hk:k<L.length) (e:En) (j:Nat) (hj:j<L.length):(L.set k e).getD j En.nil=if j=k then e else L.getD j En.nil:=by
 rw [List.getD_eq_getElem?_getD,List.getD_eq_getElem?_getD,List.getElem?_set]
 by_cases h:k=j
 ·
  subst h
  simp [hk]
 · rw [if_neg h,if_neg (fun h2=>h h2.symm)]
theorem RowE.set {w:World} {g n:Nat} {L:List En} {cs:Array Value} {ty:TypeId} (h:RowE w w.heap.size (some ⟨g,0,none⟩) L) (hb:Blk w g cs ty) (hn:n=L.length) (hc:n*4≤cs.size) {k:Nat} (hk:k<n) (e:En):RowE (set4 w g (k*4) e) (set4 w g (k*4) e).heap.size (some ⟨g,0,none⟩) (L.set k e):=by
 obtain ⟨ds,h1,h2,h3,h4⟩:=set4_cells hb (k*4) e (by omega)
 obtain ⟨b2,o2,he,_,hat⟩:=h.at_ (by omega)
 injection he with he
 injection he with hb2 ho2
 subst hb2 ho2
 refine .inr ⟨g,0,rfl,h1.lt,fun j hj=>?_⟩
 rw [List.length_set] at hj
 rw [set_at (by omega) e j hj]
 by_cases hjk:j=k
 · rw [if_pos hjk,hjk,Nat.zero_add];exact h3
 ·
  rw [if_neg hjk]
  obtain ⟨a0,a1,a2,a3⟩:=hat j hj
  exact ⟨(h4 _ (by omega)).trans a0,(h4 _ (by omega)).trans a1,(h4 _ (by omega)).trans a2,(h4 _ (by omega)).trans a3⟩
theorem RowE.keep {w w':World} {B C g:Nat} {L:List En} (h:RowE w B (some ⟨g,0,none⟩) L) (e:w'.heap[g]?=w.heap[g]?) (hg:g<C):RowE w' C (some ⟨g,0,none⟩) L:=by
 rcases h with h | ⟨b,off,he,_,hc⟩
 · exact .inl h
 ·
  injection he with he
  injection he with hb ho
  subst hb ho
  exact .inr ⟨g,0,rfl,hg,fun j hj=>(hc j hj).of e⟩
theorem four_other (w:World) (b:Nat) (u0 u1 u2 u3:Value) {b':Nat} (h:b'≠b):((((w.setCell ⟨b,0,none⟩ u0).setCell ⟨b,1,none⟩ u1).setCell ⟨b,2,none⟩ u2).setCell ⟨b,3,none⟩ u3).heap[b']?=w.heap[b']? :=
 (Below.heap_setCell _ ⟨b,3,none⟩ u3 b' h).trans ((Below.heap_setCell _ ⟨b,2,none⟩ u2 b' h).trans ((Below.heap_setCell _ ⟨b,1,none⟩ u1 b' h).trans (Below.heap_setCell _ ⟨b,0,none⟩ u0 b' h)))
theorem four_below {B:Nat} {a w:World} (hb:Below B a w) (b:Nat) (h:B≤b) (u0 u1 u2 u3:Value):Below B a ((((w.setCell ⟨b,0,none⟩ u0).setCell ⟨b,1,none⟩ u1).setCell ⟨b,2,none⟩ u2).setCell ⟨b,3,none⟩ u3) :=
 (((hb.setCell h _).setCell h _).setCell h _).setCell h _
set_option maxRecDepth 100000 in
set_option maxHeartbeats 16000000 in
theorem rwith_any (A:Option Addr) (c:Nat) (L:List En) (cur mn:Int) (fl:Bool) (k:Nat) (e:En) (hk:k<L.length) (w:World) (hA:RQ w w.heap.size A c L) (hl:L.length≤1000) :
  Calls Tryz.prog 101 #[rqV A L.length c cur mn fl,.int .i64 k,enV e] w fun r w'=>∃ g c',r=.returned (rqV (some ⟨g,0,none⟩) L.length c' cur (raiseZ mn (L.set k e)) fl)∧Hid (RowE w' w'.heap.size (some ⟨g,0,none⟩) (L.set k e)∧(w.heap.size≤g∧L.length≤c')∧Below w.heap.size w w'):=by
 obtain ⟨i0,hi,iz0,iz1,iz2⟩:=info_parts infoEn
 have HA:=Lib.hid hA
 obtain ⟨n,hn⟩:∃ n,n=L.length:=⟨_,rfl⟩
 have HN:=Lib.hid hn
 obtain ⟨W3,hW3,hb3,hs3,m1,m2,m3⟩:=rboxes3 w #[.slice A n c,.int .i64 cur,.int .i64 mn,.bool fl] #[.int .i64 e.id,.int .u64 e.wt,.int .i64 e.v,.int .u64 e.rem] #[.slice none 0 0,.int .i64 0,.int .i64 0,.bool false] 29 34 29
 have HW3:=Lib.hid hW3
 have HM:=Lib.hid (And.intro m1 (And.intro m2 m3))
 have HB3:=Lib.hid (And.intro hb3 hs3)
 have x0:W3.cell? ⟨w.heap.size,0,none⟩=some (.slice A n c):=Blk.cell m1 0
 have f0:W3.frozen? ⟨w.heap.size,0,none⟩=false:=Blk.frozen m1 0
 have hsrc:=(hA.below (hb3.alloc hb3.size (.cells #[] 34))).src
 rw [← hn] at hsrc hk hl ⊢
 have HSRC:=Lib.hid hsrc
 have HLL:=Lib.hid (And.intro (ecl_len L) (ecl_one L))
 have hlen0:(L.flatMap ecl).length=n*4:=by rw [ecl_len,hn]
 have HL0:=Lib.hid hlen0
 have hown0:(W3.alloc (.cells #[] 34)).ownsRow (w.heap.size+3) 34 4 (.slice (some ⟨W3.heap.size,0,none⟩) 0 0) 0 [] :=
  ⟨rfl,.inr ⟨W3.heap.size,0,#[],rfl,by omega,Blk.new W3 #[] _,by omega,by unfold maxLen;omega,rfl,rfl⟩⟩
 rw [hs3] at hown0
 have HOWN:=Lib.hid hown0
 have HKEEP:Hid (∀ w6:World,(W3.alloc (.cells #[] 34)).grownBy w6 (some (w.heap.size+3))→Blk w6 w.heap.size #[.slice A n c,.int .i64 cur,.int .i64 mn,.bool fl] 29∧Blk w6 (w.heap.size+1) #[.int .i64 e.id,.int .u64 e.wt,.int .i64 e.v,.int .u64 e.rem] 34∧Blk w6 (w.heap.size+2) #[.slice none 0 0,.int .i64 0,.int .i64 0,.bool false] 29∧Below w.heap.size w w6):=Lib.hid fun w6 hg =>
  ⟨(m1.alloc _).kept hg (by intro h;injection h with h;omega),(m2.alloc _).kept hg (by intro h;injection h with h;omega),(m3.alloc _).kept hg (by intro h;injection h with h;omega),(hb3.alloc hb3.size _).grown hg (by simp;omega) (fun b hb=>by injection hb with hb;omega)⟩
 clear hA hn hW3 m1 m2 m3 hb3 hs3 hsrc hlen0 hown0
 go_enter Tryz.func101,Tryz.ntmps101
 clear x0 f0
 have j0:(0:Int)≤(k:Int):=Int.natCast_nonneg _
 have j1:(k:Int)<(n:Int):=by omega
 have HOW2:Hid (∀ w6 v1,w6.ownsRow (w.heap.size+3) 34 4 v1 (0+n) ([]++L.flatMap ecl)→∃ g c1,v1=.slice (some ⟨g,0,none⟩) n c1∧w.heap.size+3≤g∧g<w6.heap.size∧RowE w6 w6.heap.size (some ⟨g,0,none⟩) L∧∃ cs,Blk w6 g cs 34∧n*4≤cs.size):=Lib.hid fun w6 v1 h=>own_full HN.out (by omega) h
 go_wp2_with (at_builtin;rw [← HW3.out];refine append_rows rfl _ _ 27 rfl (w.heap.size+3) 34 i0 _ 4 32 Tryz.underlying27 hi iz0 iz1 iz2 rfl (by decide) _ 0 [] rfl HOWN.out A n c _ rfl HL0.out HSRC.out HLL.out.2 (by unfold maxLen;omega) (by omega) (by simp;have:=HB3.out.2;omega) ?_;intro v1 w6 hown1 hg1;obtain ⟨k1,k2,k3,hb6⟩:=HKEEP.out w6 hg1;obtain ⟨g,c1,rfl,hge,hgl,hrow,cs,hbk,hcs⟩:=HOW2.out w6 v1 hown1;have HCAP:=Lib.hid (own_cap hown1);obtain ⟨_,_,hq1,_,hat⟩:=hrow.at_ (by have:=HN.out;omega);injection hq1 with hq1;injection hq1 with hq1 hq2;subst hq1 hq2;obtain ⟨r0,r1,r2,r3⟩:=hat k (by have:=HN.out;omega);rw [Nat.zero_add] at r0 r1 r2 r3;have fr:=Blk.frozen hbk;have x0:w6.cell? ⟨w.heap.size,0,none⟩=some (.slice A n c):=Blk.cell k1 0;have x1:w6.cell? ⟨w.heap.size,1,none⟩=some (.int .i64 cur):=Blk.cell k1 1;have x2:w6.cell? ⟨w.heap.size,2,none⟩=some (.int .i64 mn):=Blk.cell k1 2;have x3:w6.cell? ⟨w.heap.size,3,none⟩=some (.bool fl):=Blk.cell k1 3;have fx:=Blk.frozen k1;have y0:w6.cell? ⟨w.heap.size+1,0,none⟩=some (.int .i64 e.id):=Blk.cell k2 0;have y1:w6.cell? ⟨w.heap.size+1,1,none⟩=some (.int .u64 e.wt):=Blk.cell k2 1;have y2:w6.cell? ⟨w.heap.size+1,2,none⟩=some (.int .i64 e.v):=Blk.cell k2 2;have y3:w6.cell? ⟨w.heap.size+1,3,none⟩=some (.int .u64 e.rem):=Blk.cell k2 3;have q1:(g=w.heap.size)=False:=eq_false (by omega);have q2:(w.heap.size=g)=False:=eq_false (by omega);have q3:(g=w.heap.size+1)=False:=eq_false (by omega);have q4:(w.heap.size+1=g)=False:=eq_false (by omega);have HROW:=Lib.hid (And.intro hrow (And.intro hbk hcs));have HK:=Lib.hid (And.intro k1 (And.intro k3 hb6));clear hown1 hg1 hrow hbk hcs hat k1 k2 k3 hb6)
 obtain ⟨W7,hW7⟩:∃ W7,W7=set4 (w6.setCell ⟨w.heap.size,0,none⟩ (.slice (some ⟨g,0,none⟩) n c1)) g (k*4) e:=⟨_,rfl⟩
 have hg0:g≠w.heap.size:=by omega
 have hg2:w.heap.size+2≠g:=by omega
 have hset:(w6.setCell ⟨w.heap.size,0,none⟩ (.slice (some ⟨g,0,none⟩) n c1)).heap[g]?=w6.heap[g]?:=Below.heap_setCell _ _ _ _ hg0
 have hR7:RowE W7 W7.heap.size (some ⟨g,0,none⟩) (L.set k e):=by
  rw [hW7]
  exact RowE.set (HROW.out.1.keep hset (by simp;exact hgl)) (HROW.out.2.1.of hset) HN.out HROW.out.2.2 hk e
 have hK7:Blk W7 (w.heap.size+2) #[.slice none 0 0,.int .i64 0,.int .i64 0,.bool false] 29:=by
  rw [hW7]
  exact HK.out.2.1.of ((set4_other _ _ _ _ hg2).trans (Below.heap_setCell _ _ _ _ (by show w.heap.size+2≠w.heap.size;omega)))
 have hB7:Below w.heap.size w W7:=by
  rw [hW7]
  unfold set4
  have h0:=HK.out.2.2.setCell (p:=⟨w.heap.size,0,none⟩) (Nat.le_refl _) (.slice (some ⟨g,0,none⟩) n c1)
  have hgw:w.heap.size≤g:=by omega
  exact (((h0.setCell (p:=⟨g,k*4,none⟩) hgw _).setCell (p:=⟨g,k*4+1,none⟩) hgw _).setCell (p:=⟨g,k*4+2,none⟩) hgw _).setCell (p:=⟨g,k*4+3,none⟩) hgw _
 have hg7:g<W7.heap.size:=by
  rw [hW7]
  unfold set4
  simp
  exact hgl
 unfold set4 at hW7
 rw [← hW7]
 have MR:=rraised_any (some ⟨g,0,none⟩) c1 (L.set k e) cur mn fl W7 hR7 (by rw [List.length_set,← HN.out];exact hl)
 rw [List.length_set,← HN.out] at MR
 generalize hres:raiseZ mn (L.set k e)=res at *
 have HRES:=Lib.hid hres
 clear hres
 have H7:=Lib.hid (And.intro hR7 (And.intro hK7 (And.intro hB7 hg7)))
 have MR:=Lib.hid MR
 clear hW7 hset hR7 hK7 hB7 hg7 x0 x1 x2 x3 fx y0 y1 y2 y3 r0 r1 r2 r3 fr q1 q2 q3 q4 HROW HK
 refine MR.out.mono ?_
 rintro r w8 ⟨rfl,hb8⟩
 have k8:=H7.out.2.1.below hb8 H7.out.2.1.lt
 have s0:w8.cell? ⟨w.heap.size+2,0,none⟩=some (.slice none 0 0):=Blk.cell k8 0
 have s1:w8.cell? ⟨w.heap.size+2,1,none⟩=some (.int .i64 0):=Blk.cell k8 1
 have s2:w8.cell? ⟨w.heap.size+2,2,none⟩=some (.int .i64 0):=Blk.cell k8 2
 have s3:w8.cell? ⟨w.heap.size+2,3,none⟩=some (.bool false):=Blk.cell k8 3
 have fs:=Blk.frozen k8
 have H8:=Lib.hid (And.intro hb8 k8.lt)
 clear k8 hb8
 go_wp2_with fail
 refine bodyPost_ret (v:=rqV (some ⟨g,0,none⟩) n c1 cur res fl) (by simp [results,Tryz.results101,go_sem,s0,s1,s2,s3]) rfl ⟨g,c1,by rw [HRES.out],?_,⟨by omega,by have:=HCAP.out;omega⟩,?_⟩
 · exact (H7.out.1.below H8.out.1).keep (four_other _ _ _ _ _ _ (by omega)) (by simp;exact Nat.lt_of_lt_of_le H7.out.2.2.2 H8.out.1.size)
 · exact four_below (H7.out.2.2.1.trans (H8.out.1.mono H7.out.2.2.1.size)) _ (by omega) _ _ _ _
end Go.Proofs.YtefekboacghnjaaGreat
namespace Go.Proofs.YtefekboacghnjaaGreat
open Go.RowKit Go.Maps
theorem rboxes2 (w:World) (c1 c2:Array Value) (t1 t2:TypeId):∃ W,W=(w.alloc (.cells c1 t1)).alloc (.cells c2 t2)∧Below w.heap.size w W∧W.heap.size=w.heap.size+2∧Blk W w.heap.size c1 t1∧Blk W (w.heap.size+1) c2 t2:=by
 have n1:=Blk.new w c1 t1
 have n2:=Blk.new (w.alloc (.cells c1 t1)) c2 t2
 refine ⟨_,rfl,(((Below.refl _ _).alloc (Nat.le_refl _) _).alloc (by simp) _),by simp,n1.alloc _,?_⟩
 rw [World.size_alloc] at n2
 exact n2
structure RqRes (w w':World) (A A':Option Addr) (c':Nat) (L':List En):Prop where
 rq:RQ w' w'.heap.size A' c' L'
 or:A'=A∨∀ a,A'=some a→w.heap.size≤a.block
 bel:Below w.heap.size w w'
theorem RqRes.same {w w':World} {A:Option Addr} {c:Nat} {L:List En} (h:RQ w w.heap.size A c L) (hb:Below w.heap.size w w'):RqRes w w' A A c L:=⟨(h.below hb).mono hb.size,.inl rfl,hb⟩
def weighL (L:List En) (i:Int) (wn:Nat):List En:=match fnd L i with
 | none=>L
 | some k=>if 2≤wn∧wn≤262144 then L.set k (weighed (L.getD k En.nil) wn) else L
def weighM (L:List En) (mn i:Int) (wn:Nat):Int:=match fnd L i with
 | none=>mn
 | some k=>if 2≤wn∧wn≤262144 then raiseZ mn (L.set k (weighed (L.getD k En.nil) wn)) else mn
def weighE (L:List En) (i:Int) (wn:Nat):Int:=match fnd L i with
 | none=>12
 | some _=>if 2≤wn∧wn≤262144 then 0 else 4
structure Boxed (W:World) (b:Nat) (A:Option Addr) (n c:Nat) (cur mn:Int) (fl:Bool):Prop where
 q:Blk W b #[.slice A n c,.int .i64 cur,.int .i64 mn,.bool fl] 29
 r:Blk W (b+1) #[.slice none 0 0,.int .i64 0,.int .i64 0,.bool false] 29
theorem Boxed.below {W W':World} {b:Nat} {A:Option Addr} {n c:Nat} {cur mn:Int} {fl:Bool} (h:Boxed W b A n c cur mn fl) (k:Below W.heap.size W W'):Boxed W' b A n c cur mn fl:=⟨h.q.below k h.q.lt,h.r.below k h.r.lt⟩
theorem Boxed.cells {W:World} {b:Nat} {A:Option Addr} {n c:Nat} {cur mn:Int} {fl:Bool} (h:Boxed W b A n c cur mn fl) :
  (W.cell? ⟨b,0,none⟩=some (.slice A n c)∧W.cell? ⟨b,1,none⟩=some (.int .i64 cur)∧W.cell? ⟨b,2,none⟩=some (.int .i64 mn)∧W.cell? ⟨b,3,none⟩=some (.bool fl)) ∧
  (W.cell? ⟨b+1,0,none⟩=some (.slice none 0 0)∧W.cell? ⟨b+1,1,none⟩=some (.int .i64 0)∧W.cell? ⟨b+1,2,none⟩=some (.int .i64 0)∧W.cell? ⟨b+1,3,none⟩=some (.bool false)) ∧
  (∀ j,W.frozen? ⟨b,j,none⟩=false)∧(∀ j,W.frozen? ⟨b+1,j,none⟩=false) :=
 ⟨⟨Blk.cell h.q 0,Blk.cell h.q 1,Blk.cell h.q 2,Blk.cell h.q 3⟩,⟨Blk.cell h.r 0,Blk.cell h.r 1,Blk.cell h.r 2,Blk.cell h.r 3⟩,Blk.frozen h.q,Blk.frozen h.r⟩
theorem boxed_new (w:World) (A:Option Addr) (n c:Nat) (cur mn:Int) (fl:Bool):∃ W,W=(w.alloc (.cells #[.slice A n c,.int .i64 cur,.int .i64 mn,.bool fl] 29)).alloc (.cells #[.slice none 0 0,.int .i64 0,.int .i64 0,.bool false] 29)∧Below w.heap.size w W∧W.heap.size=w.heap.size+2∧Boxed W w.heap.size A n c cur mn fl:=by
 obtain ⟨W,h1,h2,h3,h4,h5⟩:=rboxes2 w #[.slice A n c,.int .i64 cur,.int .i64 mn,.bool fl] #[.slice none 0 0,.int .i64 0,.int .i64 0,.bool false] 29 29
 exact ⟨W,h1,h2,h3,h4,h5⟩
set_option maxRecDepth 100000 in
set_option maxHeartbeats 16000000 in
theorem rweigh_any (A:Option Addr) (c:Nat) (L:List En) (cur mn:Int) (fl:Bool) (i:Int) (wn:Nat) (hwn:wn<18446744073709551616) (hL:∀ e ∈ L,e.ok) (w:World) (hA:RQ w w.heap.size A c L) (hl:L.length≤1000) :
  Calls Tryz.prog 68 #[rqV A L.length c cur mn fl,.int .i64 i,.int .u64 wn] w fun r w'=>∃ A' c',r=.returned (.tuple #[rqV A' L.length c' cur (weighM L mn i wn) fl,.int .i64 (weighE L i wn)])∧Hid (RqRes w w' A A' c' (weighL L i wn)):=by
 have HA:=Lib.hid hA
 obtain ⟨n,hn⟩:∃ n,n=L.length:=⟨_,rfl⟩
 have HN:=Lib.hid hn
 obtain ⟨W2,hW2,hb2,hs2,hbx⟩:=boxed_new w A n c cur mn fl
 have MF:=rfind_any A c L cur mn fl i W2 ((hA.1.below hb2).mono (by omega)) (by omega)
 have MM:=Lib.hid fun W=>rmay_any wn hwn W
 rw [← hn] at MF hl ⊢
 have MF:=Lib.hid MF
 have HW2:=Lib.hid hW2
 have HB2:=Lib.hid (And.intro hb2 (And.intro hs2 hbx))
 obtain ⟨⟨x0,x1,x2,x3⟩,_,_,_⟩:=hbx.cells
 clear hA hn hW2 hb2 hs2 hbx
 cases hf:fnd L i with
 | none =>
  have HR:Hid (weighM L mn i wn=mn∧weighE L i wn=12∧weighL L i wn=L):=Lib.hid (by unfold weighM weighE weighL;rw [hf];exact ⟨rfl,rfl,rfl⟩)
  rw [HR.out.1,HR.out.2.1,HR.out.2.2]
  rw [hf] at MF
  clear hf
  go_enter Tryz.func68,Tryz.ntmps68
  go_wp2_with fail
  rw [← HW2.out]
  go_wp2_with fail
  refine MF.out.mono ?_
  rintro r w5 ⟨rfl,hb5⟩
  have hbx5:=HB2.out.2.2.below hb5
  obtain ⟨⟨x0,x1,x2,x3⟩,⟨r0,r1,r2,r3⟩,f0,f1⟩:=hbx5.cells
  have H5:=Lib.hid hb5
  clear hbx5 hb5
  rw [show idxZ none = -1 from rfl]
  go_wp2_with fail
  refine bodyPost_ret (v:=.tuple #[rqV A n c cur mn fl,.int .i64 12]) (by simp [results,Tryz.results68,go_sem,r0,r1,r2,r3]) rfl ⟨A,c,rfl,?_⟩
  exact RqRes.same HA.out (four_below (HB2.out.1.trans (H5.out.mono HB2.out.1.size)) _ (by omega) _ _ _ _)
 | some k =>
  obtain ⟨hk,hki,_⟩:=fnd_at hf
  rw [hf] at MF
  rw [show idxZ (some k)=(k:Int) from rfl] at MF
  have k0:(0:Int)≤(k:Int):=Int.natCast_nonneg _
  have k1:(k:Int)<(n:Int):=by rw [HN.out];omega
  have k2:decide ((k:Int)<0)=false:=decide_eq_false (by omega)
  by_cases hm:2≤wn∧wn≤262144
  ·
   rw [decide_eq_true hm] at MM
   have HR:Hid (weighM L mn i wn=raiseZ mn (L.set k (weighed (L.getD k En.nil) wn))∧weighE L i wn=0∧weighL L i wn=L.set k (weighed (L.getD k En.nil) wn)):=Lib.hid (by unfold weighM weighE weighL;rw [hf];exact ⟨if_pos hm,if_pos hm,if_pos hm⟩)
   rw [HR.out.1,HR.out.2.1,HR.out.2.2]
   obtain ⟨b,off,rfl,hb,hc⟩:=HA.out.1.at_ (by omega)
   have hat:=hc k hk
   have heo:=hL (L.getD k En.nil) (by rw [getD_at L hk];exact List.getElem_mem _)
   have hww:=heo.w2
   have hrr:=heo.r
   have MWH:Hid (∀ W,RQ W W.heap.size (some ⟨b,off,none⟩) c L→Calls Tryz.prog 101 #[rqV (some ⟨b,off,none⟩) n c cur mn fl,.int .i64 k,enV (weighed (L.getD k En.nil) wn)] W fun r w'=>∃ g c',r=.returned (rqV (some ⟨g,0,none⟩) n c' cur (raiseZ mn (L.set k (weighed (L.getD k En.nil) wn))) fl)∧Hid (RowE w' w'.heap.size (some ⟨g,0,none⟩) (L.set k (weighed (L.getD k En.nil) wn))∧(W.heap.size≤g∧n≤c')∧Below W.heap.size W w')):=Lib.hid fun W hW=>by
    have:=rwith_any (some ⟨b,off,none⟩) c L cur mn fl k (weighed (L.getD k En.nil) wn) hk W hW (by rw [← HN.out];exact hl)
    rw [← HN.out] at this
    exact this
   have HAT:=Lib.hid (And.intro hb hat)
   have MD:=Lib.hid fun W=>refMulDiv_any (L.getD k En.nil).rem wn (L.getD k En.nil).wt (by omega) hwn (by omega) W
   have HWE:Hid (weighed (L.getD k En.nil) wn=⟨(L.getD k En.nil).id,wn,(L.getD k En.nil).v,mdQ (L.getD k En.nil).rem wn (L.getD k En.nil).wt⟩):=Lib.hid rfl
   generalize weighed (L.getD k En.nil) wn=ew at *
   generalize L.getD k En.nil=e at *
   generalize mdQ e.rem wn e.wt=mq at *
   clear hf hc hki hat heo hww hrr hm
   go_enter Tryz.func68,Tryz.ntmps68
   go_wp2_with fail
   rw [← HW2.out]
   go_wp2_with fail
   refine MF.out.mono ?_
   rintro r w5 ⟨rfl,hb5⟩
   have hbx5:=HB2.out.2.2.below hb5
   obtain ⟨⟨x0,x1,x2,x3⟩,⟨r0,r1,r2,r3⟩,f0,f1⟩:=hbx5.cells
   have hb05:=HB2.out.1.trans (hb5.mono HB2.out.1.size)
   obtain ⟨e0,e1,e2,e3⟩:=HAT.out.2.below hb05 HAT.out.1
   have hz0:=hbx5.q.lt
   have hz1:=hbx5.r.lt
   have q1:(w.heap.size=w5.heap.size)=False:=eq_false (by omega)
   have q2:(w5.heap.size=w.heap.size)=False:=eq_false (by omega)
   have H5:=Lib.hid (And.intro hb05 hbx5)
   clear hbx5 hb5 hb05
   go_wp2_with fail
   refine (MM.out _).mono ?_
   rintro r w' ⟨rfl,rfl⟩
   go_wp2_with fail
   refine (MD.out _).mono ?_
   rintro r w' ⟨rfl,rfl⟩
   go_wp2_with fail
   have hwe:=HWE.out
   subst hwe
   have hba:Below w5.heap.size w5 (w5.alloc (.cells #[.int .i64 e.id,.int .u64 wn,.int .i64 e.v,.int .u64 mq] 34)):=(Below.refl _ _).alloc (Nat.le_refl _) _
   have H6:=Lib.hid (And.intro (H5.out.1.trans (hba.mono H5.out.1.size)) (H5.out.2.below hba))
   clear x0 x1 x2 x3 r0 r1 r2 r3 f0 f1 e0 e1 e2 e3 q1 q2 hba
   refine (MWH.out _ ((HA.out.below H6.out.1).mono H6.out.1.size)).mono ?_
   rintro r w8 ⟨g,c',rfl,H8⟩
   have hb8:=H8.out.2.2
   have hbx8:=H6.out.2.below hb8
   obtain ⟨_,⟨r0,r1,r2,r3⟩,_,f1⟩:=hbx8.cells
   have HB8:=Lib.hid hb8
   have hz8:=hbx8.r.lt
   clear hbx8 hb8
   go_wp2_with fail
   refine bodyPost_ret (v:=.tuple #[rqV (some ⟨g,0,none⟩) n c' cur (raiseZ mn (L.set k ⟨e.id,wn,e.v,mq⟩)) fl,.int .i64 0]) (by simp [results,Tryz.results68,go_sem,r0,r1,r2,r3]) rfl ⟨some ⟨g,0,none⟩,c',rfl,?_⟩
   have hge:=H8.out.2.1.1
   have h61:=H6.out.1.size
   have h81:=HB8.out.size
   have hza:w5.heap.size+1≤g:=by simpa using hge
   exact ⟨⟨H8.out.1.keep (four_other _ _ _ _ _ _ (by omega)) (by
    have hgl:=H8.out.1.at_ (by rw [List.length_set];omega)
    obtain ⟨b9,o9,he9,hb9,_⟩:=hgl
    injection he9 with he9
    injection he9 with he9 _
    rw [he9]
    simp
    exact hb9),fun hn=>by simp at hn,by rw [List.length_set,← HN.out];exact H8.out.2.1.2⟩,.inr fun a ha=>by
     injection ha with ha
     rw [← ha]
     show w.heap.size≤g
     omega,four_below (H6.out.1.trans (HB8.out.mono H6.out.1.size)) _ (by omega) _ _ _ _⟩
  ·
   rw [decide_eq_false hm] at MM
   have HR:Hid (weighM L mn i wn=mn∧weighE L i wn=4∧weighL L i wn=L):=Lib.hid (by unfold weighM weighE weighL;rw [hf];exact ⟨if_neg hm,if_neg hm,if_neg hm⟩)
   rw [HR.out.1,HR.out.2.1,HR.out.2.2]
   clear hf hki hm
   go_enter Tryz.func68,Tryz.ntmps68
   go_wp2_with fail
   rw [← HW2.out]
   go_wp2_with fail
   refine MF.out.mono ?_
   rintro r w5 ⟨rfl,hb5⟩
   have hbx5:=HB2.out.2.2.below hb5
   obtain ⟨⟨x0,x1,x2,x3⟩,⟨r0,r1,r2,r3⟩,f0,f1⟩:=hbx5.cells
   have H5:=Lib.hid hb5
   clear hbx5 hb5
   go_wp2_with fail
   refine (MM.out _).mono ?_
   rintro r w' ⟨rfl,rfl⟩
   go_wp2_with fail
   refine bodyPost_ret (v:=.tuple #[rqV A n c cur mn fl,.int .i64 4]) (by simp [results,Tryz.results68,go_sem,r0,r1,r2,r3]) rfl ⟨A,c,rfl,?_⟩
   exact RqRes.same HA.out (four_below (HB2.out.1.trans (H5.out.mono HB2.out.1.size)) _ (by omega) _ _ _ _)
end Go.Proofs.YtefekboacghnjaaGreat
namespace Go.Proofs.YtefekboacghnjaaGreat
open Go.RowKit Go.Maps
def chargeL (L:List En) (cur:Int) (ns:Nat):List En:=match fnd L cur with
 | none=>L
 | some k=>if 1000000000<ns then L else L.set k (charged (L.getD k En.nil) ns)
def chargeM (L:List En) (mn cur:Int) (ns:Nat):Int:=match fnd L cur with
 | none=>mn
 | some k=>if 1000000000<ns then mn else raiseZ mn (L.set k (charged (L.getD k En.nil) ns))
def chargeFl (L:List En) (cur:Int) (fl:Bool) (ns:Nat):Bool:=match fnd L cur with
 | none=>fl
 | some k=>if 1000000000<ns then fl else (fl || overZ (L.getD k En.nil).v ((((L.getD k En.nil).rem+ns*1024) / (L.getD k En.nil).wt:Nat):Int))
def chargeE (L:List En) (cur:Int) (ns:Nat):Int:=match fnd L cur with
 | none=>7
 | some _=>if 1000000000<ns then 8 else 0
theorem refAdd_any (a b:Int) (ha1:-9223372036854775808≤a) (ha2:a≤9223372036854775807) (hb1:-9223372036854775808≤b) (hb2:b≤9223372036854775807):∃ x,∀ w:World,
  Calls Tryz.prog 103 #[.int .i64 a,.int .i64 b] w fun e w'=>e=.returned (.tuple #[.int .i64 x,.bool (!overZ a b)])∧w=w':=by
 by_cases h:a+b < -9223372036854775808∨9223372036854775807<a+b
 ·
  refine ⟨0,fun w=>?_⟩
  have e:overZ a b=true:=decide_eq_true (by omega)
  rw [e]
  exact refAdd_no a b ha1 ha2 hb1 hb2 h w
 ·
  refine ⟨a+b,fun w=>?_⟩
  have e:overZ a b=false:=decide_eq_false (by omega)
  rw [e]
  exact refAdd_yes a b ha1 ha2 hb1 hb2 (by omega) (by omega) w
theorem div_fits {e:En} (he:e.ok) {ns:Nat} (hn:¬ 1000000000<ns):(-9223372036854775808:Int)≤(((e.rem+ns*1024) / e.wt:Nat):Int)∧(((e.rem+ns*1024) / e.wt:Nat):Int)≤9223372036854775807:=by
 have h1:(e.rem+ns*1024) / e.wt≤e.rem+ns*1024:=Nat.div_le_self _ _
 have h2:=he.r
 have h3:=he.w2
 generalize (e.rem+ns*1024) / e.wt=d at *
 omega
set_option maxRecDepth 100000 in
set_option maxHeartbeats 16000000 in
theorem rcharge_any (A:Option Addr) (c:Nat) (L:List En) (cur mn:Int) (fl:Bool) (ns:Nat) (hns:ns<18446744073709551616) (hL:∀ e ∈ L,e.ok) (w:World) (hA:RQ w w.heap.size A c L) (hl:L.length≤1000) :
  Calls Tryz.prog 69 #[rqV A L.length c cur mn fl,.int .u64 ns] w fun r w'=>∃ A' c',r=.returned (.tuple #[rqV A' L.length c' cur (chargeM L mn cur ns) (chargeFl L cur fl ns),.int .i64 (chargeE L cur ns)])∧Hid (RqRes w w' A A' c' (chargeL L cur ns)):=by
 have HA:=Lib.hid hA
 obtain ⟨n,hn⟩:∃ n,n=L.length:=⟨_,rfl⟩
 have HN:=Lib.hid hn
 obtain ⟨W2,hW2,hb2,hs2,hbx⟩:=boxed_new w A n c cur mn fl
 have MF:=rfind_any A c L cur mn fl cur W2 ((hA.1.below hb2).mono (by omega)) (by omega)
 rw [← hn] at MF hl ⊢
 have MF:=Lib.hid MF
 have HW2:=Lib.hid hW2
 have HB2:=Lib.hid (And.intro hb2 (And.intro hs2 hbx))
 obtain ⟨⟨x0,x1,x2,x3⟩,_,_,_⟩:=hbx.cells
 clear hA hn hW2 hb2 hs2 hbx
 cases hf:fnd L cur with
 | none =>
  have HR:Hid (chargeM L mn cur ns=mn∧chargeE L cur ns=7∧chargeL L cur ns=L∧chargeFl L cur fl ns=fl):=Lib.hid (by unfold chargeM chargeE chargeL chargeFl;rw [hf];exact ⟨rfl,rfl,rfl,rfl⟩)
  rw [HR.out.1,HR.out.2.1,HR.out.2.2.1,HR.out.2.2.2]
  rw [hf] at MF
  clear hf
  go_enter Tryz.func69,Tryz.ntmps69
  go_wp2_with fail
  rw [← HW2.out]
  go_wp2_with fail
  refine MF.out.mono ?_
  rintro r w5 ⟨rfl,hb5⟩
  have hbx5:=HB2.out.2.2.below hb5
  obtain ⟨⟨x0,x1,x2,x3⟩,⟨r0,r1,r2,r3⟩,f0,f1⟩:=hbx5.cells
  have H5:=Lib.hid hb5
  clear hbx5 hb5
  rw [show idxZ none = -1 from rfl]
  go_wp2_with fail
  refine bodyPost_ret (v:=.tuple #[rqV A n c cur mn fl,.int .i64 7]) (by simp [results,Tryz.results69,go_sem,r0,r1,r2,r3]) rfl ⟨A,c,rfl,?_⟩
  exact RqRes.same HA.out (four_below (HB2.out.1.trans (H5.out.mono HB2.out.1.size)) _ (by omega) _ _ _ _)
 | some k =>
  obtain ⟨hk,hki,_⟩:=fnd_at hf
  rw [hf] at MF
  rw [show idxZ (some k)=(k:Int) from rfl] at MF
  have k0:(0:Int)≤(k:Int):=Int.natCast_nonneg _
  have k1:(k:Int)<(n:Int):=by rw [HN.out];omega
  have k2:decide ((k:Int)<0)=false:=decide_eq_false (by omega)
  obtain ⟨b,off,rfl,hb,hc⟩:=HA.out.1.at_ (by omega)
  have hat:=hc k hk
  have heo:=hL (L.getD k En.nil) (by rw [getD_at L hk];exact List.getElem_mem _)
  have HAT:=Lib.hid (And.intro hb hat)
  have MC:=rcharge4_any (L.getD k En.nil).wt (L.getD k En.nil).rem ns ⟨heo.w1,heo.w2⟩ heo.r hns
  by_cases hm:1000000000<ns
  ·
   have HR:Hid (chargeM L mn cur ns=mn∧chargeE L cur ns=8∧chargeL L cur ns=L∧chargeFl L cur fl ns=fl):=Lib.hid (by unfold chargeM chargeE chargeL chargeFl;rw [hf];exact ⟨if_pos hm,if_pos hm,if_pos hm,if_pos hm⟩)
   rw [HR.out.1,HR.out.2.1,HR.out.2.2.1,HR.out.2.2.2]
   rw [if_pos hm] at MC
   have MC:=Lib.hid MC
   generalize L.getD k En.nil=e at *
   clear hf hc hki hat heo hm
   go_enter Tryz.func69,Tryz.ntmps69
   go_wp2_with fail
   rw [← HW2.out]
   go_wp2_with fail
   refine MF.out.mono ?_
   rintro r w5 ⟨rfl,hb5⟩
   have hbx5:=HB2.out.2.2.below hb5
   obtain ⟨⟨x0,x1,x2,x3⟩,⟨r0,r1,r2,r3⟩,f0,f1⟩:=hbx5.cells
   have hb05:=HB2.out.1.trans (hb5.mono HB2.out.1.size)
   obtain ⟨e0,e1,e2,e3⟩:=HAT.out.2.below hb05 HAT.out.1
   have H5:=Lib.hid (And.intro hb05 hbx5)
   clear hbx5 hb5 hb05
   go_wp2_with fail
   refine (MC.out _).mono ?_
   rintro r w6 ⟨rfl,hb6⟩
   have hba:Below w5.heap.size w5 (w5.alloc (.cells #[.int .i64 e.id,.int .u64 e.wt,.int .i64 e.v,.int .u64 e.rem] 34)):=(Below.refl _ _).alloc (Nat.le_refl _) _
   have hb56:Below w5.heap.size w5 w6:=hba.trans (hb6.mono hba.size)
   have hbx6:=H5.out.2.below hb56
   clear x0 x1 x2 x3 r0 r1 r2 r3 f0 f1 e0 e1 e2 e3
   obtain ⟨⟨x0,x1,x2,x3⟩,⟨r0,r1,r2,r3⟩,f0,f1⟩:=hbx6.cells
   have H6:=Lib.hid (H5.out.1.trans (hb56.mono H5.out.1.size))
   clear hba hb56 hbx6 hb6
   go_wp2_with fail
   refine bodyPost_ret (v:=.tuple #[rqV (some ⟨b,off,none⟩) n c cur mn fl,.int .i64 8]) (by simp [results,Tryz.results69,go_sem,r0,r1,r2,r3]) rfl ⟨some ⟨b,off,none⟩,c,rfl,?_⟩
   exact RqRes.same HA.out (four_below H6.out _ (by omega) _ _ _ _)
  ·
   obtain ⟨ov,hov⟩:∃ ov,ov=overZ (L.getD k En.nil).v ((((L.getD k En.nil).rem+ns*1024) / (L.getD k En.nil).wt:Nat):Int):=⟨_,rfl⟩
   have HR:Hid (chargeM L mn cur ns=raiseZ mn (L.set k (charged (L.getD k En.nil) ns))∧chargeE L cur ns=0∧chargeL L cur ns=L.set k (charged (L.getD k En.nil) ns)∧chargeFl L cur fl ns=(fl || ov)):=Lib.hid (by rw [hov];unfold chargeM chargeE chargeL chargeFl;rw [hf];exact ⟨if_neg hm,if_neg hm,if_neg hm,if_neg hm⟩)
   rw [HR.out.1,HR.out.2.1,HR.out.2.2.1,HR.out.2.2.2]
   rw [if_neg hm] at MC
   have hdf:=div_fits heo hm
   obtain ⟨x,hx⟩:=refAdd_any (L.getD k En.nil).v ((((L.getD k En.nil).rem+ns*1024) / (L.getD k En.nil).wt:Nat):Int) heo.v1 heo.v2 hdf.1 hdf.2
   rw [← hov] at hx
   have MA:=Lib.hid hx
   have MS:=Lib.hid fun W=>refSat_any (L.getD k En.nil).v ((((L.getD k En.nil).rem+ns*1024) / (L.getD k En.nil).wt:Nat):Int) heo.v1 heo.v2 hdf.1 hdf.2 W
   have MWH:Hid (∀ (nf:Bool) W,RQ W W.heap.size (some ⟨b,off,none⟩) c L→Calls Tryz.prog 101 #[rqV (some ⟨b,off,none⟩) n c cur mn nf,.int .i64 k,enV (charged (L.getD k En.nil) ns)] W fun r w'=>∃ g c',r=.returned (rqV (some ⟨g,0,none⟩) n c' cur (raiseZ mn (L.set k (charged (L.getD k En.nil) ns))) nf)∧Hid (RowE w' w'.heap.size (some ⟨g,0,none⟩) (L.set k (charged (L.getD k En.nil) ns))∧(W.heap.size≤g∧n≤c')∧Below W.heap.size W w')):=Lib.hid fun nf W hW=>by
    have:=rwith_any (some ⟨b,off,none⟩) c L cur mn nf k (charged (L.getD k En.nil) ns) hk W hW (by rw [← HN.out];exact hl)
    rw [← HN.out] at this
    exact this
   have HCE:Hid (charged (L.getD k En.nil) ns=⟨(L.getD k En.nil).id,(L.getD k En.nil).wt,satZ (L.getD k En.nil).v ((((L.getD k En.nil).rem+ns*1024) / (L.getD k En.nil).wt:Nat):Int),((L.getD k En.nil).rem+ns*1024) % (L.getD k En.nil).wt⟩):=Lib.hid rfl
   have MC:=Lib.hid MC
   generalize charged (L.getD k En.nil) ns=ew at *
   generalize L.getD k En.nil=e at *
   generalize satZ e.v (((e.rem+ns*1024) / e.wt:Nat):Int)=sv at *
   generalize (e.rem+ns*1024) / e.wt=d at *
   generalize (e.rem+ns*1024) % e.wt=rm at *
   clear hf hc hki hat heo hm hdf hx hov
   go_enter Tryz.func69,Tryz.ntmps69
   go_wp2_with fail
   rw [← HW2.out]
   go_wp2_with fail
   refine MF.out.mono ?_
   rintro r w5 ⟨rfl,hb5⟩
   have hbx5:=HB2.out.2.2.below hb5
   obtain ⟨⟨x0,x1,x2,x3⟩,⟨r0,r1,r2,r3⟩,f0,f1⟩:=hbx5.cells
   have hb05:=HB2.out.1.trans (hb5.mono HB2.out.1.size)
   obtain ⟨e0,e1,e2,e3⟩:=HAT.out.2.below hb05 HAT.out.1
   have hz0:=hbx5.q.lt
   have hz1:=hbx5.r.lt
   have H5:=Lib.hid (And.intro hb05 hbx5)
   clear hbx5 hb5 hb05
   go_wp2_with fail
   refine (MC.out _).mono ?_
   rintro r w6 ⟨rfl,hb6⟩
   have hba:Below w5.heap.size w5 (w5.alloc (.cells #[.int .i64 e.id,.int .u64 e.wt,.int .i64 e.v,.int .u64 e.rem] 34)):=(Below.refl _ _).alloc (Nat.le_refl _) _
   have hb56:Below w5.heap.size w5 w6:=hba.trans (hb6.mono hba.size)
   have hbx6:=H5.out.2.below hb56
   have hne:=(Blk.new w5 #[.int .i64 e.id,.int .u64 e.wt,.int .i64 e.v,.int .u64 e.rem] 34)
   have hn6:=hne.below hb6 hne.lt
   clear x0 x1 x2 x3 r0 r1 r2 r3 f0 f1 e0 e1 e2 e3
   obtain ⟨⟨x0,x1,x2,x3⟩,⟨r0,r1,r2,r3⟩,f0,f1⟩:=hbx6.cells
   have e0:w6.cell? ⟨w5.heap.size,0,none⟩=some (.int .i64 e.id):=Blk.cell hn6 0
   have e1:w6.cell? ⟨w5.heap.size,1,none⟩=some (.int .u64 e.wt):=Blk.cell hn6 1
   have e2:w6.cell? ⟨w5.heap.size,2,none⟩=some (.int .i64 e.v):=Blk.cell hn6 2
   have e3:w6.cell? ⟨w5.heap.size,3,none⟩=some (.int .u64 e.rem):=Blk.cell hn6 3
   have fe:=Blk.frozen hn6
   have q1:(w.heap.size=w5.heap.size)=False:=eq_false (by omega)
   have q2:(w5.heap.size=w.heap.size)=False:=eq_false (by omega)
   have H6:=Lib.hid (And.intro (H5.out.1.trans (hb56.mono H5.out.1.size)) hbx6)
   clear hba hb56 hbx6 hb6 hne hn6
   go_wp2_with fail
   refine (MA.out _).mono ?_
   rintro r w' ⟨rfl,rfl⟩
   go_wp2_with fail
   refine (MS.out _).mono ?_
   rintro r w' ⟨rfl,rfl⟩
   cases fl <;> cases ov
   all_goals
    go_wp2_with fail
    generalize hW7:((w6.setCell ⟨w5.heap.size,2,none⟩ (.int .i64 sv)).setCell ⟨w5.heap.size,3,none⟩ (.int .u64 rm)).setCell ⟨w.heap.size,3,none⟩ _=W7
    have hb7:Below w.heap.size w W7:=by
     rw [← hW7]
     exact ((H6.out.1.setCell (p:=⟨w5.heap.size,2,none⟩) (by show w.heap.size≤w5.heap.size;omega) _).setCell (p:=⟨w5.heap.size,3,none⟩) (by show w.heap.size≤w5.heap.size;omega) _).setCell (p:=⟨w.heap.size,3,none⟩) (Nat.le_refl _) _
    have hk7:Blk W7 (w.heap.size+1) #[.slice none 0 0,.int .i64 0,.int .i64 0,.bool false] 29:=by
     rw [← hW7]
     exact H6.out.2.r.of ((Below.heap_setCell _ ⟨w.heap.size,3,none⟩ _ (w.heap.size+1) (by show w.heap.size+1≠w.heap.size;omega)).trans ((Below.heap_setCell _ ⟨w5.heap.size,3,none⟩ _ (w.heap.size+1) (by show w.heap.size+1≠w5.heap.size;omega)).trans (Below.heap_setCell _ ⟨w5.heap.size,2,none⟩ _ (w.heap.size+1) (by show w.heap.size+1≠w5.heap.size;omega))))
    have hwe:=HCE.out
    subst hwe
    have H7:=Lib.hid (And.intro hb7 hk7)
    clear hW7 hb7 hk7 x0 x1 x2 x3 r0 r1 r2 r3 f0 f1 e0 e1 e2 e3 fe q1 q2
    refine (MWH.out _ _ ((HA.out.below H7.out.1).mono H7.out.1.size)).mono ?_
    rintro r w8 ⟨g,c',rfl,H8⟩
    have hk8:=H7.out.2.below H8.out.2.2 H7.out.2.lt
    have r0:w8.cell? ⟨w.heap.size+1,0,none⟩=some (.slice none 0 0):=Blk.cell hk8 0
    have r1:w8.cell? ⟨w.heap.size+1,1,none⟩=some (.int .i64 0):=Blk.cell hk8 1
    have r2:w8.cell? ⟨w.heap.size+1,2,none⟩=some (.int .i64 0):=Blk.cell hk8 2
    have r3:w8.cell? ⟨w.heap.size+1,3,none⟩=some (.bool false):=Blk.cell hk8 3
    have f1:=Blk.frozen hk8
    have hz8:=hk8.lt
    have hz7:=H7.out.2.lt
    clear hk8
    go_wp2_with fail
    refine bodyPost_ret (v:=.tuple #[rqV (some ⟨g,0,none⟩) n c' cur (raiseZ mn (L.set k ⟨e.id,e.wt,sv,rm⟩)) _,.int .i64 0]) (by simp [results,Tryz.results69,go_sem,r0,r1,r2,r3]) rfl ⟨some ⟨g,0,none⟩,c',rfl,?_⟩
    have hge:=H8.out.2.1.1
    have h71:=H7.out.1.size
    have h81:=H8.out.2.2.size
    exact ⟨⟨H8.out.1.keep (four_other _ _ _ _ _ _ (by omega)) (by
     have hgl:=H8.out.1.at_ (by rw [List.length_set];omega)
     obtain ⟨b9,o9,he9,hb9,_⟩:=hgl
     injection he9 with he9
     injection he9 with he9 _
     rw [he9]
     simp
     exact hb9),fun hn=>by simp at hn,by rw [List.length_set,← HN.out];exact H8.out.2.1.2⟩,.inr fun a ha=>by
      injection ha with ha
      rw [← ha]
      show w.heap.size≤g
      omega,four_below (H7.out.1.trans (H8.out.2.2.mono H7.out.1.size)) _ (by omega) _ _ _ _⟩
end Go.Proofs.YtefekboacghnjaaGreat
