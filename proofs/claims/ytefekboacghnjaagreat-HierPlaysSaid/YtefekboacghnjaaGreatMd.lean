/-
  An append whose new row is the old one's block or a new one; rbtree.walk.
  rbtree.walk.
  rbtree.Tree: New, Insert, Delete, Walk, Min.
  rbtree.Tree: Min, Next.
  A map from numbers to blocks.
  runq.Queue: the queue as lists, and how it lies in memory; New and the getters.
  What may be done with a queue, as lists.
  The bench of chapter 8 as lists: what a piece of work does, and how near all vruntimes stay.
  The bench of chapter 8: each piece of work keeps all vruntimes near the least one.
-/
import Derived.Test.YtefekboacghnjaaGreatMc
import Derived.Deep.RegionLawGrows
import Derived.Test.YtefekboacghnjaaGreatMa
import Derived.Maps.OwnSet
namespace Go.Proofs.YtefekboacghnjaaGreat
open Go.RowKit
def Moved (w:World) (v v':Value):Prop:=v'.ownBlock=v.ownBlock∨∃ g,v'.ownBlock=some g∧w.heap.size≤g
theorem ownsRow_base {w:World} {B C:Nat} {e:TypeId} {size n:Nat} {v:Value} {xs:List Value} (h:w.ownsRow B e size v n xs) (hC:C≤B):w.ownsRow C e size v n xs:=by
  refine ⟨h.1,?_⟩
  rcases h.2 with h0 | ⟨g,cap,cur,h1,h2,h3⟩
  · exact .inl h0
  · exact .inr ⟨g,cap,cur,h1,Nat.le_trans hC h2,h3⟩
theorem run_append_where {P:Program} (w:World) (base:Nat) (t ty e:TypeId) (i:TypeInfo) (z:Value) (size bytes:Nat) (ht:P.underlying t=some (.slice e)) (hi:P.info? e=some i) (hz:i.zero=some z)
    (hsize:i.size=size) (hby:i.bytes=bytes) (hzs:z.cells.size=size) (hsz:0<size)
    (v:Value) (n:Nat) (xs:List Value) (hown:w.ownsRow base e size v n xs)
    (a:Addr) (m c:Nat) (news:List Value) (hl:news.length=m*size) (hnews:∀ j u,news[j]?=some u→w.cell? (a.add j)=some u) (h1:∀ u ∈ news,u.oneCell'=true)
    (h63:n+m≤maxLen) (hbytes:(n+m)*bytes≤140737488355328) (hbase:base≤w.heap.size) :
    ∃ v' w',(Builtin.append_ #[t,t] ty #[v,.slice (some a) m c]).run P w=.ok v' w'∧w'.ownsRow base e size v' (n+m) (xs++news)∧w.grownBy w' v.ownBlock∧Moved w v v':=by
  rcases hown.2 with ⟨rfl,rfl⟩ | ⟨g,cap,cur,rfl,hb,hg,hnc,hcm,hcs,htk⟩
  · obtain rfl:xs=[]:=List.eq_nil_of_length_eq_zero (by simpa using hown.1)
    obtain ⟨v',w',hrun,r1,r2,_⟩:=run_append_own (P:=P) w w.heap.size t ty e i z size bytes ht hi hz hsize hby hzs hsz (.slice none 0 0) 0 [] (World.ownsRow_nil w _ e size) a m c news hl hnews h1 h63 hbytes (Nat.le_refl _)
    refine ⟨v',w',hrun,ownsRow_base r1 hbase,r2,?_⟩
    rcases r1.2 with ⟨rfl,_⟩ | ⟨g,_,_,rfl,hg,_⟩
    · exact .inl rfl
    · exact .inr ⟨g,rfl,hg⟩
  · by_cases hroom:n+m≤cap
    · obtain ⟨v',w',hrun,r1,r2,_⟩:=run_append_own (P:=P) w base t ty e i z size bytes ht hi hz hsize hby hzs hsz _ n xs hown a m c news hl hnews h1 h63 hbytes hbase
      subst hsize
      have hlt:∀ j,j<news.length→0+n*i.size+j<cur.size:=fun j hj=>by
        rw [hcs]
        have:=Nat.mul_le_mul_right i.size hroom
        rw [Nat.add_mul] at this
        omega
      have hrun2:=run_append_room_cells (P:=P) w t ty e i ht hi g 0 n cap a m c news hl hnews h1 hroom (fun j hj=>by
        rw [show w.cell? ⟨g,0+n*i.size+j,none⟩=cur[0+n*i.size+j]? by simp [World.cell?,hg]]
        rw [Array.getElem?_eq_getElem (hlt j hj)];rfl) (fun j hj=>by simp [World.frozen?,hg])
      rw [hrun] at hrun2
      injection hrun2 with hv _
      exact ⟨v',w',hrun,r1,r2,.inl (by rw [hv];rfl)⟩
    · obtain ⟨v',w',hrun,r1,r2⟩:=run_append_arg_grows (P:=P) w t ty e i z size bytes ht hi hz hsize hby hzs hsz ⟨g,0,none⟩ n cap xs hown.1 (hown.cells rfl) a m c news hl hnews (by omega) h63 hbytes
      refine ⟨v',w',hrun,ownsRow_base r1 hbase,⟨r2.os,r2.tape,r2.output,r2.size,fun k hk _=>r2.block k hk (by simp)⟩,?_⟩
      rcases r1.2 with ⟨rfl,hz0⟩ | ⟨g',_,_,rfl,hg',_⟩
      · omega
      · exact .inr ⟨g',rfl,hg'⟩
theorem step_append_where {P:Program} {ops:Array Oper} {o:Oper} {a:Act} {w:World} {K:Act→World→Prop} {Q:Exit→Act→World→Prop} {E:Prop}
    (hg:o.guard=none) (s x:Operand) (t:TypeId) (hop:o.op=Op.call { callee:=Callee.builtin Builtin.append,args:=#[s,x],argTypes:=#[t,t] })
    (base:Nat) (e:TypeId) (i:TypeInfo) (z:Value) (size bytes:Nat) (h1:P.underlying t=some (.slice e)) (h2:P.info? e=some i) (h3:i.zero=some z) (h4:i.size=size) (h5:i.bytes=bytes) (h6:z.cells.size=size) (h7:0<size)
    (v:Value) (n:Nat) (xs:List Value) (hs:a.eval s=v) (hown:w.ownsRow base e size v n xs)
    (ad:Addr) (m c:Nat) (news:List Value) (hx:a.eval x=.slice (some ad) m c) (hn:news.length=m*size) (hc:∀ j u,news[j]?=some u→w.cell? (ad.add j)=some u) (h1c:∀ u ∈ news,u.oneCell'=true)
    (b1:n+m≤maxLen) (b2:(n+m)*bytes≤140737488355328) (hbase:base≤w.heap.size)
    (hK:∀ v' w',w'.ownsRow base e size v' (n+m) (xs++news)→w.grownBy w' v.ownBlock→Moved w v v'→K (a.put o.dst v') w') :
    if Region.wanted o (yielded ops a.tmps)=true then Oper.wp P o a w K Q else E:=by
  have hw:Region.wanted o (yielded ops a.tmps)=true:=by simp [Region.wanted,hg]
  rw [if_pos hw]
  obtain ⟨v',w',hrun,r1,r2,r3⟩:=run_append_where (P:=P) w base t o.type e i z size bytes h1 h2 h3 h4 h5 h6 h7 v n xs hown ad m c news hn hc h1c b1 b2 hbase
  unfold Oper.wp
  simp [execOp,hop,resolve,invoke,builtin,hs,hx,hrun,Result.andThen]
  exact hK v' w' r1 r2 r3
/-! The walk. -/
def kcells (k:Int × Int):List Value:=[.int .i64 k.1,.int .i64 k.2]
theorem infoK:(Tryz.prog.info? 123).map (fun i=>(i.zero,i.size,i.bytes))=some (some (.agg #[.int .i64 0,.int .i64 0]),2,16):=by kernel_rfl
structure Grew (base:Nat) (w:World) (v:Value) (n:Nat) (xs:List Value) (ks:List (Int × Int)) (w':World) (v':Value):Prop where
  own:w'.ownsRow base 123 2 v' (n+ks.length) (xs++ks.flatMap kcells)
  turns:Turns v.ownBlock.toList w w'
  moved:Moved w v v'
theorem Moved.trans {a b:World} {u v x:Value} (h:Moved a u v) (k:Moved b v x) (hs:a.heap.size≤b.heap.size):Moved a u x:=by
  rcases k with e | ⟨g,e,hg⟩
  · rcases h with h | ⟨g,h,hg⟩
    · exact .inl (e.trans h)
    · exact .inr ⟨g,e.trans h,hg⟩
  · exact .inr ⟨g,e,Nat.le_trans hs hg⟩
theorem Moved.sub {a b c:World} {u v:Value} (h:Moved a u v) (T:Turns u.ownBlock.toList a b) (k:Turns v.ownBlock.toList b c):Turns u.ownBlock.toList a c :=
  T.then k fun x hx hlt=>by
    rcases h with e | ⟨g,e,hg⟩
    · rw [← e];exact hx
    · rw [e] at hx
      simp at hx
      omega
theorem Grew.refl {base:Nat} {w:World} {v:Value} {n:Nat} {xs:List Value} (h:w.ownsRow base 123 2 v n xs):Grew base w v n xs [] w v:=⟨by simpa using h,Turns.refl _ _,.inl rfl⟩
theorem Grew.trans {base:Nat} {a b c:World} {u v x:Value} {n:Nat} {xs:List Value} {ks ms:List (Int × Int)} (h:Grew base a u n xs ks b v) (k:Grew base b v (n+ks.length) (xs++ks.flatMap kcells) ms c x):Grew base a u n xs (ks++ms) c x :=
  ⟨by have:=k.own;rw [List.length_append,List.flatMap_append,← List.append_assoc,← Nat.add_assoc];exact this,h.moved.sub h.turns k.turns,h.moved.trans k.moved h.turns.size⟩
theorem Grew.alloc {base:Nat} {a b:World} {u v:Value} {n:Nat} {xs:List Value} {ks:List (Int × Int)} (h:Grew base a u n xs ks b v) (o:Obj):Grew base a u n xs ks (b.alloc o) v:=⟨h.own.alloc o,h.turns.alloc o,h.moved⟩
theorem Grew.from {base:Nat} {a a' b:World} {u v:Value} {n:Nat} {xs:List Value} {ks:List (Int × Int)} (h:Grew base a' u n xs ks b v) (T:Below a.heap.size a a'):Grew base a u n xs ks b v:=by
  have hz:=T.size
  refine ⟨h.own,⟨h.turns.os.trans T.os,h.turns.tape.trans T.tape,h.turns.output.trans T.output,Nat.le_trans hz h.turns.size,fun i hi hn=>(h.turns.block i (by omega) hn).trans (T.block i hi)⟩,?_⟩
  rcases h.moved with e | ⟨g,e,hg⟩
  · exact .inl e
  · exact .inr ⟨g,e,by omega⟩
theorem Grew.put {base:Nat} {a b:World} {u v:Value} {n:Nat} {xs:List Value} {k:Int × Int} (ho:b.ownsRow base 123 2 v (n+1) (xs++kcells k)) (hg:a.grownBy b u.ownBlock) (hm:Moved a u v):Grew base a u n xs [k] b v :=
  ⟨by simpa using ho,⟨hg.os,hg.tape,hg.output,hg.size,fun i hi hn=>hg.block i hi (fun e=>hn (by rw [← e];simp))⟩,hm⟩
end Go.Proofs.YtefekboacghnjaaGreat
namespace Go.Proofs.YtefekboacghnjaaGreat
open Go.RowKit
theorem keys_len:∀ t:Tr,t.keys.length=t.size
  | .nil=>rfl
  | .node b l v i lev r=>by rw [Tr.keys,List.length_append,List.length_cons,keys_len l,keys_len r];simp [Tr.size];omega
theorem own_not {w:World} {base:Nat} {e:TypeId} {size n:Nat} {v:Value} {xs:List Value} (h:w.ownsRow base e size v n xs) {x:Nat} (hx:x<base∨w.heap.size≤x):x ∉ v.ownBlock.toList:=by
  intro hm
  cases hv:v.ownBlock with
  | none=>rw [hv] at hm;simp at hm
  | some g =>
    rw [hv] at hm
    simp at hm
    subst hm
    have:=h.lt _ hv
    omega
theorem cell_two_new (w:World) (a b:Value) (t:TypeId):∀ j u,[a,b][j]?=some u→(w.alloc (.cells #[a,b] t)).cell? ((⟨w.heap.size,0,none⟩:Addr).add j)=some u:=by
  intro j u hu
  have hj:j<2:=(List.getElem?_eq_some_iff.1 hu).1
  have h:=Blk.new w #[a,b] t
  rcases (show j=0∨j=1 by omega) with rfl | rfl
  · simp at hu;subst hu;exact Blk.cell h 0
  · simp at hu;subst hu;exact Blk.cell h 1
theorem cell_two_at {w:World} {g:Nat} {a b:Value} (h0:w.cell? ⟨g,0,none⟩=some a) (h1:w.cell? ⟨g,1,none⟩=some b):∀ j u,[a,b][j]?=some u→w.cell? ((⟨g,0,none⟩:Addr).add j)=some u:=by
  intro j u hu
  have hj:j<2:=(List.getElem?_eq_some_iff.1 hu).1
  rcases (show j=0∨j=1 by omega) with rfl | rfl
  · simp at hu;subst hu;exact h0
  · simp at hu;subst hu;exact h1
set_option maxRecDepth 100000 in
set_option maxHeartbeats 8000000 in
theorem walk_any (base:Nat):∀ (t:Tr) (w:World) (vv:Value) (n:Nat) (xs:List Value),IsTr 172 w t→(∀ b,b ∈ t.blocks→b<base)→base≤w.heap.size→w.ownsRow base 123 2 vv n xs→n+t.size≤1000000 →
    Calls Tryz.prog 129 #[.pointer t.ptr,vv] w fun e w'=>∃ v',e=.returned v'∧Grew base w vv n xs t.keys w' v':=by
  intro t
  induction t with
  | nil =>
    intro w vv n xs _ _ _ ho _
    show Calls _ _ #[.pointer none,_] _ fun e w'=>∃ v',e=.returned v'∧Hid (Grew base w vv n xs [] w' v')
    have HO:=Lib.hid (Grew.refl ho)
    clear ho
    go_enter Tryz.func129,Tryz.ntmps129
    go_wp2_with fail
    go_ret
    exact ⟨vv,rfl,HO⟩
  | node b l v i lev r ihl ihr =>
    intro w vv n xs hT hB hbase ho hn
    obtain ⟨i0,hi,iz0,iz1,iz2⟩:=info_parts infoK
    obtain ⟨hb,hl,hr⟩:=hT
    have hbb:b<base:=hB b (by simp [Tr.blocks])
    have hlb:∀ x,x ∈ l.blocks→x<base:=fun x hx=>hB x (by simp [Tr.blocks,hx])
    have hrb:∀ x,x ∈ r.blocks→x<base:=fun x hx=>hB x (by simp [Tr.blocks,hx])
    have hsz:l.keys.length+r.keys.length+1+n≤1000000:=by
      rw [keys_len,keys_len]
      have:(Tr.node b l v i lev r).size=l.size+r.size+1:=rfl
      omega
    obtain ⟨c0,c1,c2,c3,c4,cf⟩:=hb.node
    obtain ⟨KO,hKO⟩:∃ KO:Obj,KO=.cells #[.int .i64 v,.int .i64 i] 123:=⟨_,rfl⟩
    have NF:Hid (∀ W u ks,Grew base w vv n xs ks W u→NodeFacts W b v i lev l.ptr r.ptr):=Lib.hid fun W u ks G=>(hb.turns G.turns (own_not ho (.inl hbb))).node
    have MCL:=Lib.hid (show ∀ W,W=w.drew∨W=w.drew.alloc KO→Calls Tryz.prog 129 #[.pointer l.ptr,vv] W fun e w5=>∃ v5,e=.returned v5∧Hid (Grew base w vv n xs l.keys w5 v5)∧NodeFacts w5 b v i lev l.ptr r.ptr∧NodeFacts (w5.alloc KO) b v i lev l.ptr r.ptr ∧
        (W=w.drew.alloc KO→w5.cell? ⟨w.heap.size,0,none⟩=some (.int .i64 v)∧w5.cell? ⟨w.heap.size,1,none⟩=some (.int .i64 i)) from fun W hW=>by
      have hWb:Below w.heap.size w W:=by
        rcases hW with rfl | rfl
        · exact (Below.refl _ _).drew
        · exact (Below.refl _ _).drew.alloc (Nat.le_refl _) _
      have hoW:W.ownsRow base 123 2 vv n xs:=by
        rcases hW with rfl | rfl
        · exact ho
        · exact World.ownsRow.alloc (w:=w.drew) ho _
      refine (ihl W vv n xs (hl.below hWb) hlb (by have:=hWb.size;omega) hoW (by rw [keys_len,keys_len] at hsz;omega)).mono ?_
      rintro e w5 ⟨v5,rfl,G⟩
      have G2:=G.from hWb
      refine ⟨v5,rfl,G2,NF.out _ _ _ G2,NF.out _ _ _ (G2.alloc KO),?_⟩
      rintro rfl
      have hk:Blk (w.drew.alloc KO) w.heap.size #[.int .i64 v,.int .i64 i] 123:=by rw [hKO];exact Blk.new w.drew _ _
      have hk5:=hk.turns G.turns (own_not ho (.inr (Nat.le_refl _)))
      exact ⟨Blk.cell hk5 0,Blk.cell hk5 1⟩)
    have MCR:=Lib.hid (show ∀ W u,Grew base w vv n xs (l.keys++[(v,i)]) W u→Calls Tryz.prog 129 #[.pointer r.ptr,u] W fun e w5=>∃ v5,e=.returned v5∧Hid (Grew base w vv n xs (Tr.node b l v i lev r).keys w5 v5) from fun W u G=>by
      refine (ihr W u _ _ (hr.turns G.turns (fun x hx=>own_not ho (.inl (hrb x hx)))) hrb (Nat.le_trans hbase G.turns.size) G.own (by rw [keys_len,keys_len] at hsz;simp [keys_len];omega)).mono ?_
      rintro e w5 ⟨v5,rfl,G5⟩
      have:=G.trans G5
      rw [List.append_assoc] at this
      exact ⟨v5,rfl,this⟩)
    obtain ⟨a0,a1,a2,a3,a4,af⟩:=(hb.alloc KO).node
    rw [hKO] at MCL a0 a1 a2 a3 a4 af
    have hbz:=hbase
    clear hKO hB ho ihl ihr hb hl hr hlb hrb hbb
    show Calls _ _ #[.pointer (some ⟨b,0,none⟩),_] _ fun e w'=>∃ v',e=.returned v'∧Hid (Grew base w vv n xs (Tr.node b l v i lev r).keys w' v')
    go_enter Tryz.func129,Tryz.ntmps129
    go_wp2_with fail
    go_region_law (first
      | (refine step_append_where rfl (.tmp 17) (.tmp 22) 147 rfl base 123 i0 _ 2 16 Tryz.underlying147 hi iz0 iz1 iz2 rfl (by decide) v5 (n+l.keys.length) (xs++l.keys.flatMap kcells) rfl (G5.out.own.alloc _) ⟨w5.heap.size,0,none⟩ 1 1 (kcells (v,i)) rfl rfl (cell_two_new _ _ _ _) (by simp [kcells,Value.oneCell']) (by unfold maxLen;omega) (by omega) (by have:=G5.out.turns.size;simp;omega) ?_
         intro v7 w7 hown7 hg7 hm7
         have G7:=Lib.hid (G5.out.trans ((Grew.put hown7 hg7 hm7).from ((Below.refl _ _).alloc (Nat.le_refl _) _)))
         obtain ⟨z0,z1,z2,z3,z4,zf⟩:=NF.out _ _ _ G7.out
         clear hown7 hg7 hm7)
      | (refine step_append_where rfl (.tmp 17) (.tmp 22) 147 rfl base 123 i0 _ 2 16 Tryz.underlying147 hi iz0 iz1 iz2 rfl (by decide) v5 (n+l.keys.length) (xs++l.keys.flatMap kcells) rfl (G5.out.own) ⟨w.heap.size,0,none⟩ 1 1 (kcells (v,i)) rfl rfl (cell_two_at hcc.1 hcc.2) (by simp [kcells,Value.oneCell']) (by unfold maxLen;omega) (by omega) (by have:=G5.out.turns.size;omega) ?_
         intro v7 w7 hown7 hg7 hm7
         have G7:=Lib.hid (G5.out.trans (Grew.put hown7 hg7 hm7))
         obtain ⟨z0,z1,z2,z3,z4,zf⟩:=NF.out _ _ _ G7.out
         clear hown7 hg7 hm7)
      | (go_simp;go_at_call_of 129 (Value.pointer l.ptr);refine (MCL.out _ (by first | exact .inr rfl | exact .inl rfl)).mono ?_;rintro e w5 ⟨v5,rfl,G5,⟨y0,y1,y2,y3,y4,yf⟩,⟨x0,x1,x2,x3,x4,xf⟩,hcell⟩;first | (have hcc:=hcell rfl;clear hcell) | skip)
      | (go_simp;go_at_call_of 129 (Value.pointer r.ptr);refine (MCR.out _ _ G7.out).mono ?_;rintro e w9 ⟨v9,rfl,G9⟩))
    all_goals
      go_wp2_with fail
      go_ret
      exact ⟨v9,rfl,G9⟩
end Go.Proofs.YtefekboacghnjaaGreat
namespace Go.Proofs.YtefekboacghnjaaGreat
open Go.RowKit
structure TreeAt (w:World) (p:Nat) (S:List Nat) (ks:List (Int × Int)) (K:Int):Prop where
  ex:∃ (t:Tr) (m:Int),Blk w p #[.pointer t.ptr,.int .i64 m] 136∧S=p::t.blocks∧IsTr 172 w t∧t.blocks.Nodup∧t.keys=ks∧Lv K t
  up:Up ks
theorem node_size {w:World}:∀ {t:Tr},IsTr 172 w t→∀ b,b ∈ t.blocks→∃ cs,Blk w b cs 172∧cs.size=5
  | .nil,_,b,hb=>by simp [Tr.blocks] at hb
  | .node b l v i lev r,h,x,hx=>by
    simp only [Tr.blocks,List.mem_cons,List.mem_append] at hx
    rcases hx with rfl | hx | hx
    · exact ⟨_,h.1,rfl⟩
    · exact node_size h.2.1 x hx
    · exact node_size h.2.2 x hx
theorem not_node {w:World} {t:Tr} (h:IsTr 172 w t) {p:Nat} {cs:Array Value} {ty:TypeId} (hb:Blk w p cs ty) (hs:cs.size≠5):p ∉ t.blocks:=fun hm=>by
  obtain ⟨ds,hd,h5⟩:=node_size h p hm
  have:=hb.symm.trans hd
  simp at this
  rw [this.1] at hs
  exact hs h5
theorem TreeAt.of {w w':World} {p:Nat} {S:List Nat} {ks:List (Int × Int)} {K:Int} (h:TreeAt w p S ks K) (e:∀ b,b ∈ S→w'.heap[b]?=w.heap[b]?):TreeAt w' p S ks K:=by
  obtain ⟨⟨t,m,h1,rfl,h3,h4,h5,h6⟩,hu⟩:=h
  exact ⟨⟨t,m,h1.of (e p (by simp)),rfl,h3.of (fun b hb=>e b (by simp [hb])),h4,h5,h6⟩,hu⟩
theorem TreeAt.lt {w:World} {p:Nat} {S:List Nat} {ks:List (Int × Int)} {K:Int} (h:TreeAt w p S ks K):∀ b,b ∈ S→b<w.heap.size:=by
  obtain ⟨⟨t,m,h1,rfl,h3,h4,h5,h6⟩,hu⟩:=h
  intro b hb
  rw [List.mem_cons] at hb
  rcases hb with rfl | hb
  · exact h1.lt
  · exact h3.lt b hb
theorem TreeAt.below {w w':World} {p:Nat} {S:List Nat} {ks:List (Int × Int)} {K:Int} (h:TreeAt w p S ks K) (k:Below w.heap.size w w'):TreeAt w' p S ks K:=h.of fun b hb=>k.block b (h.lt b hb)
theorem TreeAt.mono {w:World} {p:Nat} {S:List Nat} {ks:List (Int × Int)} {K K':Int} (h:TreeAt w p S ks K) (hK:K≤K'):TreeAt w p S ks K':=by
  obtain ⟨⟨t,m,h1,h2,h3,h4,h5,h6⟩,hu⟩:=h
  exact ⟨⟨t,m,h1,h2,h3,h4,h5,h6.mono hK⟩,hu⟩
theorem TreeAt.not {w:World} {p:Nat} {S:List Nat} {ks:List (Int × Int)} {K:Int} (h:TreeAt w p S ks K) {b:Nat} {cs:Array Value} {ty:TypeId} (hb:Blk w b cs ty) (h2:cs.size≠2) (h5:cs.size≠5):b ∉ S:=by
  obtain ⟨⟨t,m,a1,rfl,a3,_⟩,hu⟩:=h
  intro hm
  rw [List.mem_cons] at hm
  rcases hm with rfl | hm
  · have:=hb.symm.trans a1
    simp at this
    rw [this.1] at h2
    exact h2 rfl
  · exact not_node a3 hb h5 hm
structure TreeTurned (w:World) (S:List Nat) (p:Nat) (ks:List (Int × Int)) (K:Int) (w':World) (S':List Nat):Prop where
  at_:TreeAt w' p S' ks K
  turns:Turns S w w'
  sub:∀ b,b ∈ S'→b ∈ S∨w.heap.size≤b
theorem tree_end {w w1 w5:World} {p:Nat} {t t':Tr} {m m':Int} {ks:List (Int × Int)} {K:Int} (hp:Blk w p #[.pointer t.ptr,.int .i64 m] 136) (ht:IsTr 172 w t) (hb:Below w.heap.size w w1)
    (hM:Mid 172 w1 t.blocks ks K w5 t') (hu:Up ks) :
    Blk w5 p #[.pointer t.ptr,.int .i64 m] 136∧TreeTurned w (p::t.blocks) p ks K (w5.setCell ⟨p,0,none⟩ (.pointer t'.ptr)) (p::t'.blocks)∧TreeTurned w (p::t.blocks) p ks K ((w5.setCell ⟨p,0,none⟩ (.pointer t'.ptr)).setCell ⟨p,1,none⟩ (.int .i64 m')) (p::t'.blocks):=by
  have hn:p ∉ t.blocks:=not_node ht hp (by simp)
  have hp1:=hp.below hb hp.lt
  have hp5:=hp1.turns hM.turns hn
  have hn5:p ∉ t'.blocks:=not_node hM.tr hp5 (by simp)
  have s1:Blk (w5.setCell ⟨p,0,none⟩ (.pointer t'.ptr)) p #[.pointer t'.ptr,.int .i64 m] 136:=Blk.set hp5 0 (.pointer t'.ptr)
  have s2:Blk ((w5.setCell ⟨p,0,none⟩ (.pointer t'.ptr)).setCell ⟨p,1,none⟩ (.int .i64 m')) p #[.pointer t'.ptr,.int .i64 m'] 136:=Blk.set s1 1 (.int .i64 m')
  have T0:Turns (p::t.blocks) w w5:=(Turns.of_below hb).trans ((hM.turns.mono (fun x hx=>by simp [hx])) |> fun T=>(Turns.refl _ _).then T (fun x hx _=>hx))
  have sub:∀ b,b ∈ p::t'.blocks→b ∈ p::t.blocks∨w.heap.size≤b:=fun b hb2=>by
    rw [List.mem_cons] at hb2
    rcases hb2 with rfl | hb2
    · exact .inl (by simp)
    · rcases hM.sub b hb2 with e | e
      · exact .inl (by simp [e])
      · exact .inr (Nat.le_trans hb.size e)
  refine ⟨hp5,⟨⟨⟨t',m,s1,rfl,hM.tr.setCell _ hn5,hM.nodup,hM.keys,hM.lv⟩,hu⟩,T0.setCell (.inl (by simp)) _,sub⟩,⟨⟨⟨t',m',s2,rfl,(hM.tr.setCell _ hn5).setCell _ hn5,hM.nodup,hM.keys,hM.lv⟩,hu⟩,(T0.setCell (.inl (by simp)) _).setCell (.inl (by simp)) _,sub⟩⟩
set_option maxRecDepth 100000 in
set_option maxHeartbeats 4000000 in
theorem insert_any (p:Nat) (S:List Nat) (ks:List (Int × Int)) (K k1 k2:Int) (w:World) (h:TreeAt w p S ks K) (hK1:1≤K) (hK:K+ks.length≤9223372036854775000) :
    Calls Tryz.prog 81 #[.pointer (some ⟨p,0,none⟩),keyV (k1,k2)] w fun e w'=>∃ S',e=.returned (.bool (decide ((k1,k2) ∉ ks)))∧TreeTurned w S p (insK (k1,k2) ks) (K+ks.length+1) w' S':=by
  obtain ⟨⟨t,m,hp,rfl,ht,hn,rfl,hl⟩,hu⟩:=h
  have hlen:=keys_len t
  obtain ⟨W1,hW1⟩:∃ W1,W1=w.alloc (.cells #[.int .i64 k1,.int .i64 k2] 123):=⟨_,rfl⟩
  have hb1:Below w.heap.size w W1:=by rw [hW1];exact (Below.refl _ _).alloc (Nat.le_refl _) _
  have hq:Blk W1 w.heap.size #[.int .i64 k1,.int .i64 k2] 123:=by rw [hW1];exact Blk.new _ _ _
  have q0:W1.cell? ⟨w.heap.size,0,none⟩=some (.int .i64 k1):=Blk.cell hq 0
  have q1:W1.cell? ⟨w.heap.size,1,none⟩=some (.int .i64 k2):=Blk.cell hq 1
  have hp1:=hp.below hb1 hp.lt
  have p0:W1.cell? ⟨p,0,none⟩=some (.pointer t.ptr):=Blk.cell hp1 0
  obtain ⟨m2,hm2⟩:∃ m2,m2=IntKind.i64.wrap (m+1):=⟨_,rfl⟩
  have e1:IntKind.i64.wrap (m+1)=m2:=hm2.symm
  obtain ⟨lv,hlv⟩:∃ x,x=decide ((k1,k2) ∉ t.keys):=⟨_,rfl⟩
  have MC:=Lib.hid (show ∀ W,W=W1∨W=W1.drew→Calls Tryz.prog 110 #[.pointer t.ptr,.agg #[.int .i64 k1,.int .i64 k2]] W fun e w5=>∃ t':Tr,e=.returned (.tuple #[.pointer t'.ptr,.bool lv]) ∧
      (w5.cell? ⟨p,0,none⟩=some (.pointer t.ptr)∧w5.cell? ⟨p,1,none⟩=some (.int .i64 m)∧w5.frozen? ⟨p,0,none⟩=false∧w5.frozen? ⟨p,1,none⟩=false) ∧
      Hid (TreeTurned w (p::t.blocks) p (insK (k1,k2) t.keys) (K+t.keys.length+1) (w5.setCell ⟨p,0,none⟩ (.pointer t'.ptr)) (p::t'.blocks)∧TreeTurned w (p::t.blocks) p (insK (k1,k2) t.keys) (K+t.keys.length+1) ((w5.setCell ⟨p,0,none⟩ (.pointer t'.ptr)).setCell ⟨p,1,none⟩ (.int .i64 m2)) (p::t'.blocks)) from fun W hW=>by
    have hbW:Below w.heap.size w W:=by
      rcases hW with rfl | rfl
      · exact hb1
      · exact hb1.drew
    refine (with_any k1 k2 t W K (ht.below hbW) hn hl hK1 (by rw [← hlen];omega) hu).mono ?_
    rintro e w5 ⟨t',rfl,hM⟩
    rw [← hlen] at hM
    have hend:=tree_end hp ht hbW hM (insK_up _ _ hu) (m':=m2)
    exact ⟨t',by rw [hlv],⟨Blk.cell hend.1 0,Blk.cell hend.1 1,Blk.frozen hend.1 0,Blk.frozen hend.1 1⟩,hend.2⟩)
  rw [← hlv]
  have HW1:=Lib.hid hW1
  clear hW1 hlv hm2 hp ht hn hl hu hq hp1 hb1
  go_enter Tryz.func81,Tryz.ntmps81
  go_wp2_with fail
  rw [← HW1.out]
  clear HW1
  cases lv
  all_goals
    go_region_with (go_at_call 110;refine (MC.out _ (by first | exact .inr rfl | exact .inl rfl)).mono ?_;rintro e w5 ⟨t5,rfl,⟨y0,y1,y2,y3⟩,hT⟩)
  all_goals
    go_wp2_with fail
    go_ret
    first
    | exact ⟨_,rfl,hT.out.1⟩
    | exact ⟨_,rfl,hT.out.2⟩
set_option maxRecDepth 100000 in
set_option maxHeartbeats 4000000 in
theorem delete_any (p:Nat) (S:List Nat) (ks:List (Int × Int)) (K k1 k2:Int) (w:World) (h:TreeAt w p S ks K) (hK1:1≤K) (hK:K+2*ks.length≤9223372036854775000) :
    Calls Tryz.prog 89 #[.pointer (some ⟨p,0,none⟩),keyV (k1,k2)] w fun e w'=>∃ S',e=.returned (.bool (decide ((k1,k2) ∈ ks)))∧TreeTurned w S p (ks.filter (fun y=>decide (y≠(k1,k2)))) (K+2*ks.length) w' S':=by
  obtain ⟨⟨t,m,hp,rfl,ht,hn,rfl,hl⟩,hu⟩:=h
  have hlen:=keys_len t
  obtain ⟨W1,hW1⟩:∃ W1,W1=w.alloc (.cells #[.int .i64 k1,.int .i64 k2] 123):=⟨_,rfl⟩
  have hb1:Below w.heap.size w W1:=by rw [hW1];exact (Below.refl _ _).alloc (Nat.le_refl _) _
  have hq:Blk W1 w.heap.size #[.int .i64 k1,.int .i64 k2] 123:=by rw [hW1];exact Blk.new _ _ _
  have q0:W1.cell? ⟨w.heap.size,0,none⟩=some (.int .i64 k1):=Blk.cell hq 0
  have q1:W1.cell? ⟨w.heap.size,1,none⟩=some (.int .i64 k2):=Blk.cell hq 1
  have hp1:=hp.below hb1 hp.lt
  have p0:W1.cell? ⟨p,0,none⟩=some (.pointer t.ptr):=Blk.cell hp1 0
  obtain ⟨m2,hm2⟩:∃ m2,m2=IntKind.i64.wrap (m - 1):=⟨_,rfl⟩
  have e1:IntKind.i64.wrap (m - 1)=m2:=hm2.symm
  obtain ⟨lv,hlv⟩:∃ x,x=decide ((k1,k2) ∈ t.keys):=⟨_,rfl⟩
  have MC:=Lib.hid (show ∀ W,W=W1∨W=W1.drew→Calls Tryz.prog 115 #[.pointer t.ptr,.agg #[.int .i64 k1,.int .i64 k2]] W fun e w5=>∃ t':Tr,e=.returned (.tuple #[.pointer t'.ptr,.bool lv]) ∧
      (w5.cell? ⟨p,0,none⟩=some (.pointer t.ptr)∧w5.cell? ⟨p,1,none⟩=some (.int .i64 m)∧w5.frozen? ⟨p,0,none⟩=false∧w5.frozen? ⟨p,1,none⟩=false) ∧
      Hid (TreeTurned w (p::t.blocks) p (t.keys.filter (fun y=>decide (y≠(k1,k2)))) (K+2*t.keys.length) (w5.setCell ⟨p,0,none⟩ (.pointer t'.ptr)) (p::t'.blocks)∧TreeTurned w (p::t.blocks) p (t.keys.filter (fun y=>decide (y≠(k1,k2)))) (K+2*t.keys.length) ((w5.setCell ⟨p,0,none⟩ (.pointer t'.ptr)).setCell ⟨p,1,none⟩ (.int .i64 m2)) (p::t'.blocks)) from fun W hW=>by
    have hbW:Below w.heap.size w W:=by
      rcases hW with rfl | rfl
      · exact hb1
      · exact hb1.drew
    refine (without_any t k1 k2 W K (ht.below hbW) hn hl hK1 (by rw [← hlen];omega) hu).mono ?_
    rintro e w5 ⟨t',rfl,hM⟩
    rw [← hlen] at hM
    have hend:=tree_end hp ht hbW hM (hu.filter _) (m':=m2)
    exact ⟨t',by rw [hlv],⟨Blk.cell hend.1 0,Blk.cell hend.1 1,Blk.frozen hend.1 0,Blk.frozen hend.1 1⟩,hend.2⟩)
  rw [← hlv]
  have HW1:=Lib.hid hW1
  clear hW1 hlv hm2 hp ht hn hl hu hq hp1 hb1
  go_enter Tryz.func89,Tryz.ntmps89
  go_wp2_with fail
  rw [← HW1.out]
  clear HW1
  cases lv
  all_goals
    go_region_with (go_at_call 115;refine (MC.out _ (by first | exact .inr rfl | exact .inl rfl)).mono ?_;rintro e w5 ⟨t5,rfl,⟨y0,y1,y2,y3⟩,hT⟩)
  all_goals
    go_wp2_with fail
    go_ret
    first
    | exact ⟨_,rfl,hT.out.1⟩
    | exact ⟨_,rfl,hT.out.2⟩
set_option maxRecDepth 100000 in
theorem tnewt_any (w:World) :
    Calls Tryz.prog 52 #[] w fun e w'=>e=.returned (.pointer (some ⟨w.heap.size,0,none⟩))∧Hid (TreeAt w' w.heap.size [w.heap.size] [] 1)∧Below w.heap.size w w':=by
  go_enter Tryz.func52,Tryz.ntmps52
  go_wp2_with fail
  go_ret
  exact ⟨rfl,⟨⟨.nil,0,Blk.new _ _ _,rfl,trivial,by simp [Tr.blocks],rfl,trivial⟩,List.Pairwise.nil⟩,(Below.refl _ _).alloc (Nat.le_refl _) _⟩
set_option maxRecDepth 100000 in
theorem twalk_any (p:Nat) (S:List Nat) (ks:List (Int × Int)) (K:Int) (w:World) (h:TreeAt w p S ks K) (hK:ks.length≤1000000) :
    Calls Tryz.prog 106 #[.pointer (some ⟨p,0,none⟩)] w fun e w'=>∃ v',e=.returned v'∧Hid (w'.ownsRow w.heap.size 123 2 v' ks.length (ks.flatMap kcells)∧Below w.heap.size w w'):=by
  obtain ⟨⟨t,m,hp,rfl,ht,hn,rfl,hl⟩,hu⟩:=h
  have p0:w.cell? ⟨p,0,none⟩=some (.pointer t.ptr):=Blk.cell hp 0
  have MW:=Lib.hid (walk_any w.heap.size t w (.slice none 0 0) 0 [] ht ht.lt (Nat.le_refl _) (World.ownsRow_nil _ _ _ _) (by rw [← keys_len];omega))
  clear hp ht hn hl hu
  go_enter Tryz.func106,Tryz.ntmps106
  go_wp2_with fail
  refine MW.out.mono ?_
  rintro e w' ⟨v',rfl,G⟩
  have HG:=Lib.hid G
  clear G
  go_wp2_with fail
  go_ret
  refine ⟨v',rfl,?_⟩
  have G:=HG.out
  refine ⟨by have:=G.own;simpa using this,⟨G.turns.os,G.turns.tape,G.turns.output,G.turns.size,fun i hi=>G.turns.block i hi (by simp [Value.ownBlock])⟩⟩
end Go.Proofs.YtefekboacghnjaaGreat
namespace Go.Proofs.YtefekboacghnjaaGreat
open Go.RowKit
def keyOpt:Option (Int × Int)→Value
  | none=>.tuple #[keyV (0,0),.bool false]
  | some k=>.tuple #[keyV k,.bool true]
set_option maxRecDepth 100000 in
theorem tend_any (p:Nat) (S:List Nat) (ks:List (Int × Int)) (K:Int) (w:World) (h:TreeAt w p S ks K) :
    Calls Tryz.prog 130 #[.pointer (some ⟨p,0,none⟩),.func (Fn.func 131) #[] #[]] w fun e w'=>e=.returned (keyOpt ks.head?)∧Below w.heap.size w w':=by
  obtain ⟨⟨t,m,hp,rfl,ht,hn,rfl,hl⟩,hu⟩:=h
  have hal:Below w.heap.size w (w.alloc (.cells #[.int .i64 0,.int .i64 0] 123)):=(Below.refl _ _).alloc (Nat.le_refl _) _
  have p0:(w.alloc (.cells #[.int .i64 0,.int .i64 0] 123)).cell? ⟨p,0,none⟩=some (.pointer t.ptr):=Blk.cell (hp.below hal hp.lt) 0
  cases t with
  | nil =>
    have p0':(w.alloc (.cells #[.int .i64 0,.int .i64 0] 123)).cell? ⟨p,0,none⟩=some (.pointer none):=p0
    show Calls _ _ _ _ fun e w'=>e=.returned (.tuple #[keyV (0,0),.bool false])∧_
    clear hp ht hn hl hu p0 hal
    go_enter Tryz.func130,Tryz.ntmps130
    go_wp2_with fail
    refine bodyPost_ret (v:=.tuple #[keyV (0,0),.bool false]) (by simp [results,Tryz.results130,go_sem]) rfl ?_
    exact ⟨rfl,(Below.refl _ _).alloc (Nat.le_refl _) _⟩
  | node b l v i lev r =>
    have p0':(w.alloc (.cells #[.int .i64 0,.int .i64 0] 123)).cell? ⟨p,0,none⟩=some (.pointer (some ⟨b,0,none⟩)):=p0
    have MF:=Lib.hid (first_any b l r v i lev _ (ht.below hal) hn)
    have HAL:=Lib.hid hal
    clear hp ht hn hl hu p0 hal
    go_enter Tryz.func130,Tryz.ntmps130
    go_wp2_with fail
    refine MF.out.mono ?_
    rintro e w1 ⟨bq,v',i',rfl,hend,g0,g1,_,rfl⟩
    have HEND:=Lib.hid hend
    clear MF hend
    go_wp2_with fail
    refine bodyPost_ret (v:=.tuple #[keyV (v',i'),.bool true]) (by simp [results,Tryz.results130,go_sem]) rfl ?_
    exact ⟨by rw [HEND.out];rfl,by
      first
      | exact HAL.out
      | exact (HAL.out.setCell (by simp) _).setCell (by simp) _
      | exact (Below.refl _ _).alloc (Nat.le_refl _) _⟩
set_option maxRecDepth 100000 in
theorem tmin_any (p:Nat) (S:List Nat) (ks:List (Int × Int)) (K:Int) (w:World) (h:TreeAt w p S ks K) :
    Calls Tryz.prog 108 #[.pointer (some ⟨p,0,none⟩)] w fun e w'=>e=.returned (keyOpt ks.head?)∧Below w.heap.size w w':=by
  have hal:Below w.heap.size w (w.alloc (.cells #[.int .i64 0,.int .i64 0] 123)):=(Below.refl _ _).alloc (Nat.le_refl _) _
  have ME:=Lib.hid (tend_any p S ks K _ (h.below hal))
  have HAL:=Lib.hid hal
  clear h hal
  go_enter Tryz.func108,Tryz.ntmps108
  go_wp2_with fail
  refine ME.out.mono ?_
  rintro e w1 ⟨he,hb⟩
  have hz:(w.alloc (.cells #[.int .i64 0,.int .i64 0] 123)).heap.size=w.heap.size+1:=by simp
  have hB1:Blk w1 w.heap.size #[.int .i64 0,.int .i64 0] 123:=(Blk.new w _ _).below hb (by rw [hz];omega)
  have hbw:Below w.heap.size w w1:=HAL.out.trans (hb.mono (by rw [hz];omega))
  have HBW:=Lib.hid hbw
  have f0:=Blk.frozen hB1 0
  have f1:=Blk.frozen hB1 1
  have x0:w1.cell? ⟨w.heap.size,0,none⟩=some (.int .i64 0):=Blk.cell hB1 0
  have x1:w1.cell? ⟨w.heap.size,1,none⟩=some (.int .i64 0):=Blk.cell hB1 1
  clear hb hz hB1 hbw
  cases ho:ks.head? with
  | none =>
    rw [ho] at he
    replace he:e=.returned (.tuple #[.agg #[.int .i64 0,.int .i64 0],.bool false]):=he
    subst he
    have HO:=Lib.hid ho
    clear ho ME
    go_wp2_with fail
    refine bodyPost_ret (v:=.tuple #[keyV (0,0),.bool false]) (by simp [results,Tryz.results108,go_sem,x0,x1]) rfl ?_
    exact ⟨by rw [HO.out];rfl,by
      first
      | exact HBW.out
      | exact (HBW.out.setCell (Nat.le_refl _) _).setCell (Nat.le_refl _) _⟩
  | some k =>
    obtain ⟨k1,k2⟩:=k
    rw [ho] at he
    replace he:e=.returned (.tuple #[.agg #[.int .i64 k1,.int .i64 k2],.bool true]):=he
    subst he
    have HO:=Lib.hid ho
    clear ho ME
    go_wp2_with fail
    refine bodyPost_ret (v:=.tuple #[keyV (k1,k2),.bool true]) (by simp [results,Tryz.results108,go_sem,x0,x1]) rfl ?_
    exact ⟨by rw [HO.out];rfl,by
      first
      | exact HBW.out
      | exact (HBW.out.setCell (Nat.le_refl _) _).setCell (Nat.le_refl _) _⟩
theorem Tr.Sub.up {s:Tr}:∀ {t:Tr},s.Sub t→Up t.keys→Up s.keys
  | .nil,h,_=>by rw [show s=.nil from h];exact List.Pairwise.nil
  | .node b l v i lev r,h,hu=>by
    rcases h with rfl | h | h
    · exact hu
    · exact h.up hu.parts.1
    · exact h.up hu.parts.2.1
theorem find_right {k x:Int × Int} {l r:List (Int × Int)} (hx:¬ keyLt k x) (hl:∀ y,y ∈ l→keyLt y x):(l++x::r).find? (fun y=>decide (keyLt k y))=r.find? (fun y=>decide (keyLt k y)):=by
  rw [List.find?_append,List.find?_eq_none.2 (fun y hy=>by simpa using fun h=>hx (keyLt_trans h (hl y hy)))]
  simp [hx]
theorem find_left {k x:Int × Int} {l r:List (Int × Int)} (hx:keyLt k x):(l++x::r).find? (fun y=>decide (keyLt k y))=(l.find? (fun y=>decide (keyLt k y))).or (some x):=by
  rw [List.find?_append]
  simp [hx]
def Found (t0:Tr):Value→Option (Int × Int)→Prop
  | .pointer none,none=>True
  | .pointer (some a),some k=>∃ (c:Nat) (l r:Tr) (lev:Int),a=⟨c,0,none⟩∧(Tr.node c l k.1 k.2 lev r).Sub t0
  | _,_=>False
set_option maxRecDepth 100000 in
set_option maxHeartbeats 4000000 in
theorem tnext_any (p:Nat) (S:List Nat) (ks:List (Int × Int)) (K k1 k2:Int) (w:World) (h:TreeAt w p S ks K) :
    Calls Tryz.prog 113 #[.pointer (some ⟨p,0,none⟩),keyV (k1,k2)] w fun e w'=>e=.returned (keyOpt (ks.find? fun y=>decide (keyLt (k1,k2) y)))∧Below w.heap.size w w':=by
  obtain ⟨⟨t,m,hp,rfl,ht,hn,rfl,hl⟩,hu⟩:=h
  obtain ⟨W1,hW1⟩:∃ W1,W1=(w.alloc (.cells #[.int .i64 k1,.int .i64 k2] 123)).alloc (.cells #[.int .i64 0,.int .i64 0] 123):=⟨_,rfl⟩
  have hb1:Below w.heap.size w W1:=by rw [hW1];exact ((Below.refl _ _).alloc (Nat.le_refl _) _).alloc (by simp) _
  have hq:Blk W1 w.heap.size #[.int .i64 k1,.int .i64 k2] 123:=by rw [hW1];exact (Blk.new _ _ _).alloc _
  have hz:Blk W1 (w.heap.size+1) #[.int .i64 0,.int .i64 0] 123:=by
    rw [hW1]
    have:=Blk.new (w.alloc (.cells #[.int .i64 k1,.int .i64 k2] 123)) #[.int .i64 0,.int .i64 0] 123
    rw [World.size_alloc] at this
    exact this
  have ht1:=ht.below hb1
  have p0:W1.cell? ⟨p,0,none⟩=some (.pointer t.ptr):=Blk.cell (hp.below hb1 hp.lt) 0
  have p0':=p0
  rw [hW1] at p0'
  have HW1:=Lib.hid hW1
  have HT:=Lib.hid (And.intro ht1 (And.intro hn hu))
  have HQ:=Lib.hid (And.intro hq (And.intro hz hb1))
  clear hp ht hn hl hu hq hz hb1 hW1 ht1
  go_enter Tryz.func113,Tryz.ntmps113
  go_wp2_with fail
  rw [← HW1.out]
  clear HW1
  go_loopw [6,7] (fun s6 s7 wr=>∃ (s:Tr) (fo:Option (Int × Int)) (po:Option Addr),s7=.pointer po∧Hid (po=s.ptr)∧Hid (s.Sub t∨s=.nil)∧Hid (Found t s6 fo)∧Hid (t.keys.find? (fun y=>decide (keyLt (k1,k2) y))=(s.keys.find? (fun y=>decide (keyLt (k1,k2) y))).or fo)∧Below W1.heap.size W1 wr) (fun _ s7 _=>ptrSize t s7)
  case atStart=>exact ⟨t,none,t.ptr,rfl,rfl,.inl (Tr.Sub.refl _),trivial,by simp [Hid],Below.refl _ _⟩
  case round =>
    obtain ⟨s,fo,po,rfl,HP,HSub,HF,HE,hB⟩:=hrel
    cases s with
    | nil =>
      obtain rfl:po=none:=HP.out
      have HX:=Lib.hid (HQ.out.2.2.trans (hB.mono HQ.out.2.2.size))
      have hz:=HQ.out.2.1.below hB HQ.out.2.1.lt
      have x0:wr.cell? ⟨w.heap.size+1,0,none⟩=some (.int .i64 0):=Blk.cell hz 0
      have x1:wr.cell? ⟨w.heap.size+1,1,none⟩=some (.int .i64 0):=Blk.cell hz 1
      have xf:=Blk.frozen hz
      have HE2:Hid (t.keys.find? (fun y=>decide (keyLt (k1,k2) y))=fo):=Lib.hid (HE.out.trans (by simp [Tr.keys]))
      cases fo with
      | none =>
        have hs6:∃ u,u6=u:=⟨_,rfl⟩
        cases u6 with
        | pointer pp =>
          cases pp with
          | none =>
            clear hB hz hs6
            go_wp2_with fail
            refine bodyPost_ret (v:=.tuple #[keyV (0,0),.bool false]) (by simp [results,Tryz.results113,go_sem,x0,x1]) rfl ?_
            exact ⟨by rw [HE2.out];rfl,by
              first
              | exact HX.out
              | exact (HX.out.setCell (by simp) _).setCell (by simp) _⟩
          | some a=>exact absurd HF.out (by simp [Found])
        | _=>exact absurd HF.out (by simp [Found])
      | some k =>
        cases u6 with
        | pointer pp =>
          cases pp with
          | none=>exact absurd HF.out (by simp [Found])
          | some a =>
            obtain ⟨c,l,r,lev,rfl,hs⟩:=HF.out
            have hT:=(hs.tr HT.out.1).below hB
            obtain ⟨c0,c1,c2,c3,c4,cf⟩:=hT.1.node
            obtain ⟨a1,a2⟩:=k
            clear hB hz hs hT
            go_wp2_with fail
            refine bodyPost_ret (v:=.tuple #[keyV (a1,a2),.bool true]) (by simp [results,Tryz.results113,go_sem,x0,x1]) rfl ?_
            exact ⟨by rw [HE2.out];rfl,by
              first
              | exact HX.out
              | exact (HX.out.setCell (by simp) _).setCell (by simp) _⟩
        | _=>exact absurd HF.out (by simp [Found])
    | node c l v i lev r =>
      obtain rfl:po=some ⟨c,0,none⟩:=HP.out
      have hsub:(Tr.node c l v i lev r).Sub t:=HSub.out.resolve_right (by simp)
      have hT:=(hsub.tr HT.out.1).below hB
      obtain ⟨c0,c1,c2,c3,c4,cf⟩:=hT.1.node
      have y0:wr.cell? ⟨w.heap.size,0,none⟩=some (.int .i64 k1):=Blk.cell (HQ.out.1.below hB HQ.out.1.lt) 0
      have y1:wr.cell? ⟨w.heap.size,1,none⟩=some (.int .i64 k2):=Blk.cell (HQ.out.1.below hB HQ.out.1.lt) 1
      have hup:=(hsub.up HT.out.2.2).parts
      have HSS:=Lib.hid (And.intro hsub hup)
      have HTT:=Lib.hid hT
      have HBB:=Lib.hid hB
      have MCMP:=Lib.hid fun W=>compare_any v i k1 k2 W
      obtain ⟨cc,hcc⟩:∃ cc,cc=cmpK (v,i) (k1,k2):=⟨_,rfl⟩
      rw [← hcc] at MCMP
      have HCC:=Lib.hid hcc
      have hz1:=Nat.le_refl wr.heap.size
      have SO:=Lib.hid fun w' (h:Below wr.heap.size wr w')=>(⟨h,(hT.below h).1.node,Blk.cell ((HQ.out.1.below hB HQ.out.1.lt).below h (HQ.out.1.below hB HQ.out.1.lt).lt) 0,Blk.cell ((HQ.out.1.below hB HQ.out.1.lt).below h (HQ.out.1.below hB HQ.out.1.lt).lt) 1⟩ :
        Below wr.heap.size wr w'∧NodeFacts w' c v i lev l.ptr r.ptr∧w'.cell? ⟨w.heap.size,0,none⟩=some (.int .i64 k1)∧w'.cell? ⟨w.heap.size,1,none⟩=some (.int .i64 k2))
      clear hcc hsub hup hT hB
      go_wp2_with fail
      go_region_held3 (fun w'=>Below wr.heap.size wr w'∧NodeFacts w' c v i lev l.ptr r.ptr∧w'.cell? ⟨w.heap.size,0,none⟩=some (.int .i64 k1)∧w'.cell? ⟨w.heap.size,1,none⟩=some (.int .i64 k2))
        (first | exact SO.out _ (kp_drew (by assumption)) | exact SO.out _ (kp_call (by assumption) (by assumption) hz1) | exact SO.out _ (kp_same (by assumption)) | exact SO.out _ (kp_start _ _))
        (first | (go_at_call 133;refine (MCMP.out _).mono ?_;rintro e w' ⟨rfl,hc1⟩))
      rename_i hHeld
      obtain ⟨w2,hw2⟩:∃ W,W=w':=⟨_,rfl⟩
      rw [← hw2] at hHeld ⊢
      clear hw2
      obtain ⟨hbw,⟨d0,d1,d2,d3,d4,df⟩,z0,z1⟩:=hHeld
      have HB2:Hid (Below W1.heap.size W1 w2):=Lib.hid (HBB.out.trans (hbw.mono HBB.out.size))
      clear hbw SO MCMP c0 c1 c2 c3 c4 cf y0 y1
      by_cases hlt:keyLt (k1,k2) (v,i)
      · obtain rfl:cc=1:=HCC.out.trans (cmpK_gt hlt)
        have HLT:=Lib.hid hlt
        clear hlt
        go_wp2_with fail
        go_big_quiet (fail)
        go_wp2_with fail
        go_roundw
        case rel=>exact ⟨l,some (v,i),l.ptr,rfl,rfl,.inl HSS.out.1.left,⟨c,l,r,lev,rfl,HSS.out.1⟩,by
          show t.keys.find? _=_
          rw [HE.out,Tr.keys,find_left HLT.out]
          cases List.find? (fun y=>decide (keyLt (k1,k2) y)) l.keys <;> rfl,below_drewN HB2.out _⟩
        case measure =>
          show ptrSize t (.pointer l.ptr)<t.sizeAt c
          rw [HSS.out.1.size HT.out.2.1]
          cases l with
          | nil=>show 0<_;omega
          | node cl ll vl il levl rl =>
            show t.sizeAt cl<_
            rw [HSS.out.1.left.size HT.out.2.1]
            simp [Tr.size];omega
      · rcases keyLt_total (v,i) (k1,k2) with h | h | h
        · obtain rfl:cc = -1:=HCC.out.trans (cmpK_lt h)
          have HLT:=Lib.hid hlt
          clear hlt h HCC
          go_wp2_with fail
          refine ⟨⟨r,fo,r.ptr,rfl,rfl,.inl HSS.out.1.right,HF,by
            show t.keys.find? _=_
            rw [HE.out,Tr.keys,find_right HLT.out HSS.out.2.2.2.1],HB2.out⟩,?_⟩
          show ptrSize t (.pointer r.ptr)<t.sizeAt c
          rw [HSS.out.1.size HT.out.2.1]
          cases r with
          | nil=>show 0<_;omega
          | node cl ll vl il levl rl =>
            show t.sizeAt cl<_
            rw [HSS.out.1.right.size HT.out.2.1]
            simp [Tr.size];omega
        · obtain rfl:cc=0:=HCC.out.trans (by rw [h,cmpK_eq])
          have HLT:=Lib.hid hlt
          clear hlt h HCC
          go_wp2_with fail
          refine ⟨⟨r,fo,r.ptr,rfl,rfl,.inl HSS.out.1.right,HF,by
            show t.keys.find? _=_
            rw [HE.out,Tr.keys,find_right HLT.out HSS.out.2.2.2.1],HB2.out⟩,?_⟩
          show ptrSize t (.pointer r.ptr)<t.sizeAt c
          rw [HSS.out.1.size HT.out.2.1]
          cases r with
          | nil=>show 0<_;omega
          | node cl ll vl il levl rl =>
            show t.sizeAt cl<_
            rw [HSS.out.1.right.size HT.out.2.1]
            simp [Tr.size];omega
        · exact absurd h hlt
end Go.Proofs.YtefekboacghnjaaGreat
namespace Go.Proofs.YtefekboacghnjaaGreat
open Go.RowKit Go.Maps
def readP:Value→Option (DataW Unit × List MemPlace)
  | .pointer none=>some (.lit (.int .i64 (-1)),[])
  | .pointer (some ⟨b,0,none⟩)=>some (.lit (.int .i64 (b:Int)),[])
  | _=>none
def ptrV (n:Int):Value:=if n<0 then .pointer none else .pointer (some ⟨n.toNat,0,none⟩)
theorem readP_inv {v:Value} {n:Int} {ps:List MemPlace} (h:readP v=some (.lit (.int .i64 n),ps)):v=ptrV n:=by
  unfold readP at h
  split at h
  · simp at h
    obtain ⟨rfl,_⟩:=h
    rfl
  · simp at h
    obtain ⟨rfl,_⟩:=h
    unfold ptrV
    rw [if_neg (by omega)]
    simp
  · simp at h
def MapP (w:World) (b n:Nat) (f:Int→Int):Prop :=
  ∃ D:DataW Unit,w.ownsMap Tryz.prog 3 readP b n D∧(∀ k,D.atKey (.int .i64 k) (.lit (.int .i64 (-1)))=.lit (.int .i64 (f k)))∧(∀ k,has D (.int .i64 k)=decide (f k ≠ -1))∧size D=n
theorem MapP.of {w w':World} {b n:Nat} {f:Int→Int} (h:MapP w b n f) (e:w'.heap[b]?=w.heap[b]?):MapP w' b n f:=by
  obtain ⟨D,⟨es,clock,hb,r⟩,hf⟩:=h
  exact ⟨D,⟨es,clock,e.trans hb,r⟩,hf⟩
theorem MapP.lt {w:World} {b n:Nat} {f:Int→Int} (h:MapP w b n f):b<w.heap.size:=by
  obtain ⟨D,⟨es,clock,hb,r⟩,hf⟩:=h
  exact (Array.getElem?_eq_some_iff.1 hb).1
theorem MapP.not_blk {w:World} {b n:Nat} {f:Int→Int} (k:MapP w b n f) {p:Nat} {cs:Array Value} {ty:TypeId} (h:Blk w p cs ty):b≠p:=by
  rintro rfl
  obtain ⟨D,⟨es,clock,hb,r⟩,hf⟩:=k
  have:=h.symm.trans hb
  simp at this
theorem zeroP (w:World):(zeroValue 120).run Tryz.prog w=.ok (.pointer none) w:=by kernel_rfl
set_option maxRecDepth 100000 in
theorem MapP.look {w:World} {b n:Nat} {f:Int→Int} (h:MapP w b n f) {k:Int} (hk:(Lit.int .i64 k).wf=true):(Instr.lookup 93 (.map (some b)) (.int .i64 k) false).run Tryz.prog w=.ok (ptrV (f k)) w:=by
  obtain ⟨D,ho,hf,hh,hs⟩:=h
  obtain ⟨v,ps,hrun,hv⟩:=ho.lookup lawI Tryz.underlying93 (zeroP _) (zd:=.lit (.int .i64 (-1))) (zp:=[]) rfl (key64 hk)
  rw [hf k] at hv
  rw [readP_inv hv] at hrun
  exact hrun
theorem MapP.made (w:World):MapP (w.alloc (.map #[] 0)) w.heap.size 0 fun _=>-1:=⟨_,World.ownsMap_made _ _ _ _,fun _=>rfl,fun _=>by simp [has],rfl⟩
theorem ownsMap_fit {w:World} {b n m:Nat} {D:DataW Unit} (h:w.ownsMap Tryz.prog 3 readP b n D) (hs:size D=m):w.ownsMap Tryz.prog 3 readP b m D:=by
  obtain ⟨es,clock,hb,F,_,rfl⟩:=h
  refine ⟨es,clock,hb,F,?_,rfl⟩
  have:Maps.size (DataW.map ((es.toList.map (WideElems.rg Tryz.prog 3 readP)).foldr DataW.insert []))=es.size:=by simp [Maps.size,length_sorted]
  omega
theorem MapP.put {w w':World} {b n:Nat} {f:Int→Int} {D:DataW Unit} (ho:w.ownsMap Tryz.prog 3 readP b n D) (hf:∀ k,D.atKey (.int .i64 k) (.lit (.int .i64 (-1)))=.lit (.int .i64 (f k))) (hh:∀ k,has D (.int .i64 k)=decide (f k ≠ -1)) (hs:size D=n)
    {k:Int} {v:Nat} (hnew:f k = -1) (ho':w'.ownsMap Tryz.prog 3 readP b (n+1) (D.put (.int .i64 k) (.lit (.int .i64 (v:Int))))):MapP w' b (n+1) (upd f k v):=by
  have ht:=ho.tidy lawI
  refine ⟨_,ho',fun x=>?_,fun x=>?_,?_⟩
  · by_cases e:x=k
    · subst e
      rw [upd_same,atKey_put_same ht.isMap (show WideAt.IsKeyLit (.int .i64 x) from trivial)]
    · rw [upd_other f _ e,atKey_put_other (by intro h;injection h with _ h;exact e h)]
      exact hf x
  · by_cases e:x=k
    · subst e
      rw [upd_same,has_put_same ht.isMap (show WideAt.IsKeyLit (.int .i64 x) from trivial)]
      exact (decide_eq_true (by omega)).symm
    · rw [upd_other f _ e,has_put_other (by intro h;injection h with _ h;exact e h)]
      exact hh x
  · rw [size_put ht,hh k,hnew,hs]
    simp
theorem MapP.del {w w':World} {b n:Nat} {f:Int→Int} {D:DataW Unit} (ho:w.ownsMap Tryz.prog 3 readP b (n+1) D) (hf:∀ k,D.atKey (.int .i64 k) (.lit (.int .i64 (-1)))=.lit (.int .i64 (f k))) (hh:∀ k,has D (.int .i64 k)=decide (f k ≠ -1)) (hs:size D=n+1)
    {k:Int} (hold:f k ≠ -1) (ho':w'.ownsMap Tryz.prog 3 readP b (n+1) (D.del (.int .i64 k))):MapP w' b n (upd f k (-1)):=by
  have ht:=ho.tidy lawI
  have hsz:=size_del (k:=.int .i64 k) ht
  rw [hh k,decide_eq_true hold,hs,if_pos rfl] at hsz
  refine ⟨_,ownsMap_fit ho' (by omega),fun x=>?_,fun x=>?_,by omega⟩
  · by_cases e:x=k
    · subst e
      rw [upd_same,atKey_del_same]
    · rw [upd_other f _ e,atKey_del_other (by intro h;injection h with _ h;exact e h)]
      exact hf x
  · by_cases e:x=k
    · subst e
      rw [upd_same,has_del_same]
      rfl
    · rw [upd_other f _ e,has_del_other (by intro h;injection h with _ h;exact e h)]
      exact hh x
end Go.Proofs.YtefekboacghnjaaGreat
namespace Go.Proofs.YtefekboacghnjaaGreat
open Go.RowKit Go.Maps
structure En where
  id:Int
  wt:Nat
  v:Int
  rem:Nat
deriving DecidableEq
def En.key (e:En):Int × Int:=(e.v,e.id)
abbrev ecells (e:En):Array Value:=#[.int .i64 e.id,.int .u64 e.wt,.int .i64 e.v,.int .u64 e.rem]
abbrev enV (e:En):Value:=.agg #[.int .i64 e.id,.int .u64 e.wt,.int .i64 e.v,.int .u64 e.rem]
def ksOf (L:List En):List (Int × Int):=L.foldl (fun a e=>insK e.key a) []
theorem ksOf_snoc (L:List En) (e:En):ksOf (L++[e])=insK e.key (ksOf L):=by simp [ksOf,List.foldl_append]
theorem fold_up:∀ (L:List En) (a:List (Int × Int)),Up a→Up (L.foldl (fun a e=>insK e.key a) a)
  | [],_,h=>h
  | _::L,_,h=>fold_up L _ (insK_up _ _ h)
theorem fold_mem (x:Int × Int):∀ (L:List En) (a:List (Int × Int)),x ∈ L.foldl (fun a e=>insK e.key a) a ↔ x ∈ a∨x ∈ L.map En.key
  | [],a=>by simp
  | e::L,a=>by
    rw [List.foldl_cons,fold_mem x L,insK_mem,List.map_cons,List.mem_cons]
    constructor
    · rintro ((h | h) | h)
      · exact .inr (.inl h)
      · exact .inl h
      · exact .inr (.inr h)
    · rintro (h | h | h)
      · exact .inl (.inr h)
      · exact .inl (.inl h)
      · exact .inr h
theorem ksOf_up (L:List En):Up (ksOf L):=fold_up L [] List.Pairwise.nil
theorem ksOf_mem (L:List En) (x:Int × Int):x ∈ ksOf L ↔ x ∈ L.map En.key:=by
  rw [ksOf,fold_mem]
  simp
theorem up_unique:∀ {l m:List (Int × Int)},Up l→Up m→(∀ x,x ∈ l ↔ x ∈ m)→l=m
  | [],[],_,_,_=>rfl
  | [],b::m,_,_,h=>by have:=(h b).2 (by simp);simp at this
  | a::l,[],_,_,h=>by have:=(h a).1 (by simp);simp at this
  | a::l,b::m,hl,hm,h=>by
    rw [Up,List.pairwise_cons] at hl hm
    have e:a=b:=by
      rcases (List.mem_cons.1 ((h a).1 (by simp))) with e | e
      · exact e
      · rcases (List.mem_cons.1 ((h b).2 (by simp))) with e2 | e2
        · exact e2.symm
        · exact absurd (keyLt_trans (hl.1 b e2) (hm.1 a e)) (keyLt_irrefl a)
    subst e
    rw [up_unique hl.2 hm.2 (fun x=>by
      constructor
      · intro hx
        rcases List.mem_cons.1 ((h x).1 (by simp [hx])) with e | e
        · subst e;exact absurd (hl.1 x hx) (keyLt_irrefl x)
        · exact e
      · intro hx
        rcases List.mem_cons.1 ((h x).2 (by simp [hx])) with e | e
        · subst e;exact absurd (hm.1 x hx) (keyLt_irrefl x)
        · exact e)]
theorem ksOf_len (L:List En):(ksOf L).length≤L.length:=by
  have:∀ (L:List En) (a:List (Int × Int)),(L.foldl (fun a e=>insK e.key a) a).length≤a.length+L.length:=by
    intro L
    induction L with
    | nil=>intro a;simp
    | cons e L ih =>
      intro a
      refine Nat.le_trans (ih _) ?_
      have:(insK e.key a).length≤a.length+1:=by
        generalize e.key=k
        induction a with
        | nil=>simp [insK]
        | cons y a iha =>
          unfold insK
          split
          · simp
          · split
            · simp
            · simp;omega
      simp
      omega
  simpa [ksOf] using this L []
structure QS where
  L:List En
  cur:Int
  mn:Int
  over:Bool
def loadL:List En→Nat
  | []=>0
  | e::L=>e.wt+loadL L
theorem loadL_append (l m:List En):loadL (l++m)=loadL l+loadL m:=by
  induction l with
  | nil=>simp [loadL]
  | cons e l ih=>simp [loadL,ih];omega
def QS.get (X:QS) (i:Int):Option En:=X.L.find? fun e=>e.id == i
structure En.ok (e:En):Prop where
  i1:0≤e.id
  i2:e.id≤9223372036854775807
  w1:2≤e.wt
  w2:e.wt≤262144
  v1:-9223372036854775808≤e.v
  v2:e.v≤9223372036854775807
  r:e.rem<e.wt
structure QS.ok (X:QS):Prop where
  ents:∀ e,e ∈ X.L→e.ok
  ids:(X.L.map (·.id)).Nodup
  len:X.L.length≤128
  cur:X.cur = -1∨∃ e,e ∈ X.L∧e.id=X.cur
  m1:-9223372036854775808≤X.mn
  m2:X.mn≤9223372036854775807
theorem load_le:∀ L:List En,(∀ e,e ∈ L→e.ok)→loadL L≤262144*L.length
  | [],_=>by simp [loadL]
  | e::L,h=>by
    have:=load_le L (fun x hx=>h x (by simp [hx]))
    have:=(h e (by simp)).w2
    simp [loadL]
    omega
theorem QS.ok.load {X:QS} (h:X.ok):loadL X.L≤33554432:=by
  have:=load_le X.L h.ents
  have:=h.len
  omega
abbrev qcells (bm bt:Nat) (cur mn:Int) (load:Nat) (over:Bool):Array Value:=#[.map (some bm),.pointer (some ⟨bt,0,none⟩),.int .i64 cur,.int .i64 mn,.int .u64 load,.bool over]
def place (L:List En) (g:Int→Nat) (i:Int):Int:=if i ∈ L.map (·.id) then (g i:Int) else -1
structure QMem (w:World) (q bm bt:Nat) (S:List Nat) (g:Int→Nat) (X:QS) (K:Int):Prop where
  blk:Blk w q (qcells bm bt X.cur X.mn (loadL X.L) X.over) 97
  map:MapP w bm X.L.length (place X.L g)
  ents:∀ e,e ∈ X.L→Blk w (g e.id) (ecells e) 34
  tree:TreeAt w bt S (ksOf X.L) K
  ok:X.ok
  k1:1≤K
  k2:K≤1000000000000000
def qblocks (q bm:Nat) (S:List Nat) (g:Int→Nat) (X:QS):List Nat:=q::bm::(S++X.L.map fun e=>g e.id)
structure QAt (w:World) (q:Nat) (F:List Nat) (X:QS) (K:Int):Prop where
  ex:∃ bm bt S g,QMem w q bm bt S g X K∧F=qblocks q bm S g X
theorem Blk.apart {w:World} {a b:Nat} {cs ds:Array Value} {t u:TypeId} (h:Blk w a cs t) (k:Blk w b ds u) (hn:cs≠ds):a≠b:=by
  rintro rfl
  have:=h.symm.trans k
  simp at this
  exact hn this.1
section
variable {w w':World} {q bm bt:Nat} {S F:List Nat} {g:Int→Nat} {X:QS} {K K':Int}
theorem QMem.cells (h:QMem w q bm bt S g X K):w.cell? ⟨q,0,none⟩=some (.map (some bm))∧w.cell? ⟨q,1,none⟩=some (.pointer (some ⟨bt,0,none⟩))∧w.cell? ⟨q,2,none⟩=some (.int .i64 X.cur)∧w.cell? ⟨q,3,none⟩=some (.int .i64 X.mn) ∧
    w.cell? ⟨q,4,none⟩=some (.int .u64 (loadL X.L:Nat))∧w.cell? ⟨q,5,none⟩=some (.bool X.over)∧∀ j,w.frozen? ⟨q,j,none⟩=false :=
  ⟨Blk.cell h.blk 0,Blk.cell h.blk 1,Blk.cell h.blk 2,Blk.cell h.blk 3,Blk.cell h.blk 4,Blk.cell h.blk 5,Blk.frozen h.blk⟩
theorem QMem.of (h:QMem w q bm bt S g X K) (e:∀ b,b ∈ qblocks q bm S g X→w'.heap[b]?=w.heap[b]?):QMem w' q bm bt S g X K :=
  ⟨h.blk.of (e q (by simp [qblocks])),h.map.of (e bm (by simp [qblocks])),fun x hx=>(h.ents x hx).of (e _ (by
    simp only [qblocks,List.mem_cons,List.mem_append,List.mem_map]
    exact .inr (.inr (.inr ⟨x,hx,rfl⟩)))),h.tree.of (fun b hb=>e b (by simp [qblocks,hb])),h.ok,h.k1,h.k2⟩
theorem QMem.lt (h:QMem w q bm bt S g X K):∀ b,b ∈ qblocks q bm S g X→b<w.heap.size:=by
  intro b hb
  simp only [qblocks,List.mem_cons,List.mem_append,List.mem_map] at hb
  rcases hb with rfl | rfl | hb | ⟨x,hx,rfl⟩
  · exact h.blk.lt
  · exact h.map.lt
  · exact h.tree.lt b hb
  · exact (h.ents x hx).lt
theorem QMem.below (h:QMem w q bm bt S g X K) (k:Below w.heap.size w w'):QMem w' q bm bt S g X K:=h.of fun b hb=>k.block b (h.lt b hb)
theorem QMem.mono (h:QMem w q bm bt S g X K) (hK:K≤K') (h2:K'≤1000000000000000):QMem w q bm bt S g X K':=⟨h.blk,h.map,h.ents,h.tree.mono hK,h.ok,by have:=h.k1;omega,h2⟩
theorem QAt.lt (h:QAt w q F X K):∀ b,b ∈ F→b<w.heap.size:=by
  obtain ⟨bm,bt,S,g,hM,rfl⟩:=h.ex
  exact hM.lt
theorem QAt.of (h:QAt w q F X K) (e:∀ b,b ∈ F→w'.heap[b]?=w.heap[b]?):QAt w' q F X K:=by
  obtain ⟨bm,bt,S,g,hM,rfl⟩:=h.ex
  exact ⟨bm,bt,S,g,hM.of e,rfl⟩
theorem QAt.below (h:QAt w q F X K) (k:Below w.heap.size w w'):QAt w' q F X K:=h.of fun b hb=>k.block b (h.lt b hb)
theorem QAt.ok (h:QAt w q F X K):X.ok:=by
  obtain ⟨bm,bt,S,g,hM,rfl⟩:=h.ex
  exact hM.ok
theorem QAt.mono (h:QAt w q F X K) (hK:K≤K') (h2:K'≤1000000000000000):QAt w q F X K':=by
  obtain ⟨bm,bt,S,g,hM,rfl⟩:=h.ex
  exact ⟨bm,bt,S,g,hM.mono hK h2,rfl⟩
theorem place_in {L:List En} {e:En} (h:e ∈ L):place L g e.id=(g e.id:Int):=if_pos (List.mem_map.2 ⟨e,h,rfl⟩)
theorem place_out {L:List En} {i:Int} (h:i ∉ L.map (·.id)):place L g i = -1:=if_neg h
theorem TreeAt.not_map {p:Nat} {ks:List (Int × Int)} (h:TreeAt w p S ks K) {b n:Nat} {f:Int→Int} (hm:MapP w b n f):b ∉ S:=by
  obtain ⟨⟨t,m,a1,rfl,a3,_⟩,hu⟩:=h
  intro hb
  rw [List.mem_cons] at hb
  rcases hb with rfl | hb
  · exact hm.not_blk a1 rfl
  · obtain ⟨cs,hc,_⟩:=node_size a3 b hb
    exact hm.not_blk hc rfl
theorem QMem.apart (h:QMem w q bm bt S g X K):bm≠q∧q ∉ S∧bm ∉ S∧(∀ e,e ∈ X.L→g e.id≠q∧g e.id≠bm∧g e.id ∉ S)∧∀ e,e ∈ X.L→∀ f,f ∈ X.L→e.id≠f.id→g e.id≠g f.id:=by
  refine ⟨h.map.not_blk h.blk,h.tree.not h.blk (by simp) (by simp),h.tree.not_map h.map,fun e he=>⟨Blk.apart (h.ents e he) h.blk (by simp),fun hb=>h.map.not_blk (h.ents e he) hb.symm,h.tree.not (h.ents e he) (by simp) (by simp)⟩,fun e he f hf hne=>Blk.apart (h.ents e he) (h.ents f hf) ?_⟩
  simp [hne]
end
set_option maxRecDepth 100000 in
theorem qnew_any (w:World) :
    Calls Tryz.prog 15 #[] w fun e w'=>∃ q F,e=.returned (.pointer (some ⟨q,0,none⟩))∧Hid (QAt w' q F ⟨[],-1,0,false⟩ 1∧Below w.heap.size w w'∧w.heap.size≤q∧∀ b,b ∈ F→w.heap.size≤b):=by
  have hmm:=@run_makeMap Tryz.prog
  go_enter Tryz.func15,Tryz.ntmps15
  go_wp2_with fail
  refine (tnewt_any _).mono ?_
  rintro e w1 ⟨rfl,HT,hb⟩
  have HB:=Lib.hid hb
  clear hb
  go_wp2_with fail
  go_ret
  have T:=HT.out
  have B:=HB.out
  have hs1:=B.size
  rw [World.size_alloc] at T hs1
  have h0:MapP w1 w.heap.size 0 (fun _=>-1):=(MapP.made w).of (B.block _ (by simp))
  have hB:Below w.heap.size w w1:=((Below.refl _ _).alloc (Nat.le_refl _) _).trans (B.mono (by simp))
  refine ⟨w1.heap.size,_,rfl,⟨⟨w.heap.size,w.heap.size+1,[w.heap.size+1],fun _=>0,⟨Blk.new _ _ _,h0.of (Below.heap_alloc _ _ _ h0.lt),by simp,T.of (fun b hb=>Below.heap_alloc _ _ _ (T.lt b hb)),⟨by simp,by simp,by simp,.inl rfl,by simp,by simp⟩,by omega,by omega⟩,rfl⟩,hB.alloc (by omega) _,by omega,fun b hb=>?_⟩⟩
  simp [qblocks] at hb
  omega
section
variable {w:World} {q:Nat} {F:List Nat} {X:QS} {K:Int}
theorem qcur_any (h:QAt w q F X K):Calls Tryz.prog 49 #[.pointer (some ⟨q,0,none⟩)] w fun e w'=>e=.returned (.int .i64 X.cur)∧w=w':=by
  obtain ⟨bm,bt,S,g,hM,rfl⟩:=h.ex
  obtain ⟨c0,c1,c2,c3,c4,c5,cf⟩:=hM.cells
  clear hM h
  go_enter Tryz.func49,Tryz.ntmps49
  go_wp2_with fail
  go_ret
  exact ⟨rfl,rfl⟩
theorem qmin_any (h:QAt w q F X K):Calls Tryz.prog 76 #[.pointer (some ⟨q,0,none⟩)] w fun e w'=>e=.returned (.int .i64 X.mn)∧w=w':=by
  obtain ⟨bm,bt,S,g,hM,rfl⟩:=h.ex
  obtain ⟨c0,c1,c2,c3,c4,c5,cf⟩:=hM.cells
  clear hM h
  go_enter Tryz.func76,Tryz.ntmps76
  go_wp2_with fail
  go_ret
  exact ⟨rfl,rfl⟩
theorem qload_any (h:QAt w q F X K):Calls Tryz.prog 77 #[.pointer (some ⟨q,0,none⟩)] w fun e w'=>e=.returned (.int .u64 (loadL X.L:Nat))∧w=w':=by
  obtain ⟨bm,bt,S,g,hM,rfl⟩:=h.ex
  obtain ⟨c0,c1,c2,c3,c4,c5,cf⟩:=hM.cells
  clear hM h
  go_enter Tryz.func77,Tryz.ntmps77
  go_wp2_with fail
  go_ret
  exact ⟨rfl,rfl⟩
theorem qflag_any (h:QAt w q F X K):Calls Tryz.prog 73 #[.pointer (some ⟨q,0,none⟩)] w fun e w'=>e=.returned (.bool X.over)∧w=w':=by
  obtain ⟨bm,bt,S,g,hM,rfl⟩:=h.ex
  obtain ⟨c0,c1,c2,c3,c4,c5,cf⟩:=hM.cells
  clear hM h
  go_enter Tryz.func73,Tryz.ntmps73
  go_wp2_with fail
  go_ret
  exact ⟨rfl,rfl⟩
end
end Go.Proofs.YtefekboacghnjaaGreat
namespace Go.Proofs.YtefekboacghnjaaGreat
open Go.RowKit Go.Maps
section
variable {X:QS} {L:List En} {e e':En}
theorem En.same (hn:(L.map (·.id)).Nodup) {x y:En} (hx:x ∈ L) (hy:y ∈ L) (h:x.id=y.id):x=y:=by
  induction L with
  | nil=>simp at hx
  | cons a L ih =>
    rw [List.map_cons,List.nodup_cons] at hn
    rw [List.mem_cons] at hx hy
    rcases hx with rfl | hx <;> rcases hy with rfl | hy
    · rfl
    · exact absurd (List.mem_map.2 ⟨y,hy,h.symm⟩) hn.1
    · exact absurd (List.mem_map.2 ⟨x,hx,h⟩) hn.1
    · exact ih hn.2 hx hy
theorem QS.get_some {i:Int} (h:X.get i=some e):e ∈ X.L∧e.id=i:=⟨List.mem_of_find?_eq_some h,by simpa using List.find?_some h⟩
theorem QS.get_none {i:Int} (h:X.get i=none):i ∉ X.L.map (·.id):=by
  intro hm
  obtain ⟨x,hx,rfl⟩:=List.mem_map.1 hm
  have:=List.find?_eq_none.1 h x hx
  simp at this
theorem QS.ok.get (h:X.ok) (he:e ∈ X.L):X.get e.id=some e:=by
  cases hg:X.get e.id with
  | none=>exact absurd (List.mem_map.2 ⟨e,he,rfl⟩) (QS.get_none hg)
  | some x =>
    obtain ⟨hx,hi⟩:=QS.get_some hg
    rw [En.same h.ids hx he hi]
theorem head_mem {k:Int × Int} (h:(ksOf L).head?=some k):∃ x,x ∈ L∧x.key=k:=by
  have:=(ksOf_mem L k).1 (List.mem_of_mem_head? (by rw [h];rfl))
  simpa using List.mem_map.1 this
theorem ksOf_ent {k:Int × Int} (h:k ∈ ksOf L):∃ x,x ∈ L∧x.key=k:=List.mem_map.1 ((ksOf_mem L k).1 h)
def QS.raise (X:QS):QS:={ X with mn:=match (ksOf X.L).head? with | none=>X.mn | some k=>max X.mn k.1 }
theorem QS.ok.raise (h:X.ok):X.raise.ok:=by
  refine ⟨h.ents,h.ids,h.len,h.cur,?_,?_⟩
  · show _≤(match (ksOf X.L).head? with | none=>X.mn | some k=>max X.mn k.1)
    have:=h.m1
    split
    · exact this
    · exact Int.le_trans this (Int.le_max_left _ _)
  · show (match (ksOf X.L).head? with | none=>X.mn | some k=>max X.mn k.1)≤_
    have:=h.m2
    split
    · omega
    · rename_i k hk
      obtain ⟨x,hx,rfl⟩:=head_mem hk
      have:=(h.ents x hx).v2
      show max X.mn x.v≤_
      omega
def QS.add (X:QS) (e:En):QS:={ X with L:=X.L++[e] }
theorem QS.ok.add (h:X.ok) (he:e.ok) (hn:e.id ∉ X.L.map (·.id)) (hl:X.L.length<128):(X.add e).ok:=by
  refine ⟨fun x hx=>?_,?_,?_,?_,h.m1,h.m2⟩
  · rcases List.mem_append.1 hx with hx | hx
    · exact h.ents x hx
    · rw [List.mem_singleton.1 hx];exact he
  · show ((X.L++[e]).map _).Nodup
    rw [List.map_append,List.nodup_append]
    refine ⟨h.ids,by simp,fun a ha b hb=>?_⟩
    rw [List.map_cons,List.map_nil,List.mem_singleton] at hb
    subst hb
    rintro rfl
    exact hn ha
  · show (X.L++[e]).length≤128
    rw [List.length_append];simp;omega
  · rcases h.cur with hc | ⟨x,hx,hc⟩
    · exact .inl hc
    · exact .inr ⟨x,List.mem_append_left _ hx,hc⟩
def lessL (L:List En) (i:Int):List En:=L.filter fun x=>decide (x.id≠i)
theorem lessL_mem {i:Int} {x:En}:x ∈ lessL L i ↔ x ∈ L∧x.id≠i:=by simp [lessL]
def QS.drop (X:QS) (i:Int):QS:={ X with L:=lessL X.L i,cur:=if X.cur=i then -1 else X.cur }
theorem QS.ok.drop (h:X.ok) (i:Int):(X.drop i).ok:=by
  refine ⟨fun x hx=>h.ents x (lessL_mem.1 hx).1,?_,?_,?_,h.m1,h.m2⟩
  · exact (List.filter_sublist.map _).nodup h.ids
  · exact Nat.le_trans (List.length_filter_le _ _) h.len
  · show (if X.cur=i then -1 else X.cur) = -1∨∃ x,x ∈ lessL X.L i∧x.id=(if X.cur=i then -1 else X.cur)
    by_cases hc:X.cur=i
    · rw [if_pos hc];exact .inl rfl
    · rw [if_neg hc]
      rcases h.cur with hx | ⟨x,hx,hxc⟩
      · exact .inl hx
      · exact .inr ⟨x,lessL_mem.2 ⟨hx,by rw [hxc];exact hc⟩,hxc⟩
def setL (L:List En) (e:En):List En:=L.map fun x=>if x.id=e.id then e else x
theorem setL_ids (L:List En) (e:En):(setL L e).map (·.id)=L.map (·.id):=by
  rw [setL,List.map_map]
  refine List.map_congr_left fun x _=>?_
  show (if x.id=e.id then e else x).id=x.id
  split
  · rename_i h;exact h.symm
  · rfl
theorem setL_mem {x:En} (h:x ∈ setL L e):x=e∨x ∈ L∧x.id≠e.id:=by
  obtain ⟨y,hy,rfl⟩:=List.mem_map.1 h
  by_cases hc:y.id=e.id
  · rw [if_pos hc];exact .inl rfl
  · rw [if_neg hc];exact .inr ⟨hy,hc⟩
theorem setL_has {x:En} (h:x ∈ L) (hc:x.id≠e.id):x ∈ setL L e:=List.mem_map.2 ⟨x,h,if_neg hc⟩
theorem setL_self (h:e ∈ L) (hi:e'.id=e.id):e' ∈ setL L e':=List.mem_map.2 ⟨e,h,if_pos hi.symm⟩
theorem setL_len (L:List En) (e:En):(setL L e).length=L.length:=by simp [setL]
def QS.set (X:QS) (e:En):QS:={ X with L:=setL X.L e }
theorem QS.ok.set (h:X.ok) (he:e'.ok):(X.set e').ok:=by
  refine ⟨fun x hx=>?_,?_,?_,?_,h.m1,h.m2⟩
  · rcases setL_mem hx with rfl | hx
    · exact he
    · exact h.ents x hx.1
  · show ((setL X.L e').map _).Nodup
    rw [setL_ids];exact h.ids
  · show (setL X.L e').length≤128
    rw [setL_len];exact h.len
  · rcases h.cur with hc | ⟨x,hx,hc⟩
    · exact .inl hc
    · by_cases hi:x.id=e'.id
      · exact .inr ⟨e',setL_self hx hi.symm,by rw [← hi];exact hc⟩
      · exact .inr ⟨x,setL_has hx hi,hc⟩
/-! the keys -/
theorem up_filter {l:List (Int × Int)} (h:Up l) (p:Int × Int→Bool):Up (l.filter p):=h.filter _
theorem ksOf_less (hn:(L.map (·.id)).Nodup) (he:e ∈ L):ksOf (lessL L e.id)=(ksOf L).filter (fun y=>decide (y≠e.key)):=by
  refine up_unique (ksOf_up _) (up_filter (ksOf_up _) _) fun x=>?_
  rw [List.mem_filter,ksOf_mem,ksOf_mem,List.mem_map,List.mem_map,decide_eq_true_eq]
  constructor
  · rintro ⟨y,hy,rfl⟩
    obtain ⟨h1,h2⟩:=lessL_mem.1 hy
    exact ⟨⟨y,h1,rfl⟩,fun h=>h2 (congrArg Prod.snd h)⟩
  · rintro ⟨⟨y,hy,rfl⟩,h⟩
    exact ⟨y,lessL_mem.2 ⟨hy,fun hi=>h (by rw [En.same hn hy he hi])⟩,rfl⟩
theorem ksOf_set (hn:(L.map (·.id)).Nodup) (he:e ∈ L) (hi:e'.id=e.id):ksOf (setL L e')=insK e'.key ((ksOf L).filter (fun y=>decide (y≠e.key))):=by
  refine up_unique (ksOf_up _) (insK_up _ _ (up_filter (ksOf_up _) _)) fun x=>?_
  rw [insK_mem,List.mem_filter,ksOf_mem,ksOf_mem,List.mem_map,List.mem_map,decide_eq_true_eq]
  constructor
  · rintro ⟨y,hy,rfl⟩
    rcases setL_mem hy with rfl | ⟨h1,h2⟩
    · exact .inl rfl
    · exact .inr ⟨⟨y,h1,rfl⟩,fun h=>h2 (by rw [hi];exact congrArg Prod.snd h)⟩
  · rintro (rfl | ⟨⟨y,hy,rfl⟩,h⟩)
    · exact ⟨e',setL_self he hi,rfl⟩
    · exact ⟨y,setL_has hy (fun hc=>h (by rw [En.same hn hy he (hc.trans hi)])),rfl⟩
theorem ksOf_set_same (hn:(L.map (·.id)).Nodup) (he:e ∈ L) (hk:e'.key=e.key):ksOf (setL L e')=ksOf L:=by
  have hi:e'.id=e.id:=congrArg Prod.snd hk
  refine up_unique (ksOf_up _) (ksOf_up _) fun x=>?_
  rw [ksOf_mem,ksOf_mem,List.mem_map,List.mem_map]
  constructor
  · rintro ⟨y,hy,rfl⟩
    rcases setL_mem hy with rfl | ⟨h1,h2⟩
    · exact ⟨e,he,hk.symm⟩
    · exact ⟨y,h1,rfl⟩
  · rintro ⟨y,hy,rfl⟩
    by_cases hc:y.id=e'.id
    · rw [En.same hn hy he (hc.trans hi)]
      exact ⟨e',setL_self he hi,hk⟩
    · exact ⟨y,setL_has hy hc,rfl⟩
theorem load_less (hn:(L.map (·.id)).Nodup) (he:e ∈ L):loadL L=e.wt+loadL (lessL L e.id):=by
  induction L with
  | nil=>simp at he
  | cons a L ih =>
    rw [List.map_cons,List.nodup_cons] at hn
    by_cases hc:a.id=e.id
    · have ha:a=e:=by
        rcases List.mem_cons.1 he with h | h
        · exact h.symm
        · exact absurd (List.mem_map.2 ⟨e,h,hc.symm⟩) hn.1
      subst ha
      have e2:lessL (a::L) a.id=L:=by
        unfold lessL
        rw [List.filter_cons]
        simp only [ne_eq,not_true_eq_false,decide_false,Bool.false_eq_true,if_false]
        refine List.filter_eq_self.2 fun x hx=>?_
        simp only [decide_eq_true_eq]
        exact fun h=>hn.1 (List.mem_map.2 ⟨x,hx,h⟩)
      rw [e2]
      rfl
    · have hl:e ∈ L:=by
        rcases List.mem_cons.1 he with h | h
        · exact absurd (by rw [h]) hc
        · exact h
      have e2:lessL (a::L) e.id=a::lessL L e.id:=by
        unfold lessL
        rw [List.filter_cons,if_pos (by simpa using hc)]
      rw [e2]
      have:=ih hn.2 hl
      simp only [loadL]
      omega
theorem len_less (hn:(L.map (·.id)).Nodup) (he:e ∈ L):L.length=(lessL L e.id).length+1:=by
  induction L with
  | nil=>simp at he
  | cons a L ih =>
    rw [List.map_cons,List.nodup_cons] at hn
    by_cases hc:a.id=e.id
    · have e2:lessL (a::L) e.id=L:=by
        unfold lessL
        rw [List.filter_cons,if_neg (by simpa using hc)]
        refine List.filter_eq_self.2 fun x hx=>?_
        simp only [ne_eq,decide_eq_true_eq]
        exact fun h=>hn.1 (List.mem_map.2 ⟨x,hx,by rw [h,hc]⟩)
      rw [e2]
      rfl
    · have hl:e ∈ L:=by
        rcases List.mem_cons.1 he with h | h
        · exact absurd (by rw [h]) hc
        · exact h
      have e2:lessL (a::L) e.id=a::lessL L e.id:=by
        unfold lessL
        rw [List.filter_cons,if_pos (by simpa using hc)]
      rw [e2,List.length_cons,List.length_cons,ih hn.2 hl]
theorem load_set (hn:(L.map (·.id)).Nodup) (he:e ∈ L) (hi:e'.id=e.id):loadL (setL L e')+e.wt=loadL L+e'.wt:=by
  have h1:=load_less hn he
  have h2:loadL (setL L e')=e'.wt+loadL (lessL (setL L e') e'.id):=load_less (by rw [setL_ids];exact hn) (setL_self he hi)
  have h3:lessL (setL L e') e'.id=lessL L e.id:=by
    rw [hi]
    unfold lessL setL
    rw [List.filter_map]
    have:∀ (M:List En),(M.filter ((fun x=>decide (x.id≠e.id)) ∘ fun x=>if x.id=e'.id then e' else x)).map (fun x=>if x.id=e'.id then e' else x)=M.filter fun x=>decide (x.id≠e.id):=by
      intro M
      induction M with
      | nil=>rfl
      | cons a M ih =>
        by_cases hc:a.id=e.id
        · rw [List.filter_cons,List.filter_cons,if_neg (by simp [hi,hc]),if_neg (by simp [hc]),ih]
        · rw [List.filter_cons,List.filter_cons,if_pos (by simp [hi,hc]),if_pos (by simp [hc]),List.map_cons,ih,if_neg (by rw [hi];exact hc)]
    exact this L
  rw [h3] at h2
  omega
/-! the first of all but the current one -/
def QS.firstK (X:QS):Option (Int × Int):=(ksOf X.L).find? fun k=>decide (k.2≠X.cur)
theorem QS.ok.ids_ks (h:X.ok) {a b:Int × Int} (ha:a ∈ ksOf X.L) (hb:b ∈ ksOf X.L) (hab:a.2=b.2):a=b:=by
  obtain ⟨x,hx,rfl⟩:=ksOf_ent ha
  obtain ⟨y,hy,rfl⟩:=ksOf_ent hb
  rw [En.same h.ids hx hy hab]
theorem QS.ok.firstK_none (_h:X.ok) (hh:(ksOf X.L).head?=none):X.firstK=none:=by
  rw [List.head?_eq_none_iff] at hh
  unfold QS.firstK
  rw [hh]
  rfl
theorem QS.ok.firstK_other (_h:X.ok) {k:Int × Int} (hh:(ksOf X.L).head?=some k) (hc:k.2≠X.cur):X.firstK=some k:=by
  unfold QS.firstK
  cases hl:ksOf X.L with
  | nil=>rw [hl] at hh;simp at hh
  | cons a r =>
    rw [hl] at hh
    obtain rfl:a=k:=by simpa using hh
    rw [List.find?_cons,show decide (a.2≠X.cur)=true from decide_eq_true hc]
theorem QS.ok.firstK_next (h:X.ok) {k:Int × Int} (hh:(ksOf X.L).head?=some k) (hc:k.2=X.cur):(ksOf X.L).find? (fun y=>decide (keyLt k y))=X.firstK:=by
  unfold QS.firstK
  have hu:=ksOf_up X.L
  have hid:=fun a b ha hb=>h.ids_ks (a:=a) (b:=b) ha hb
  cases hl:ksOf X.L with
  | nil=>rw [hl] at hh;simp at hh
  | cons a r =>
    rw [hl] at hh hu hid
    obtain rfl:a=k:=by simpa using hh
    rw [Up,List.pairwise_cons] at hu
    rw [List.find?_cons,List.find?_cons,show decide (keyLt a a)=false from decide_eq_false (keyLt_irrefl a),show decide (a.2≠X.cur)=false from decide_eq_false (fun h=>h hc)]
    cases r with
    | nil=>rfl
    | cons b r =>
      have hb:b.2≠X.cur:=fun e=>by
        have:=hid b a (by simp) (by simp) (e.trans hc.symm)
        subst this
        exact keyLt_irrefl _ (hu.1 _ (by simp))
      simp only
      rw [List.find?_cons,List.find?_cons,show decide (keyLt a b)=true from decide_eq_true (hu.1 b (by simp)),show decide (b.2≠X.cur)=true from decide_eq_true hb]
theorem QS.firstK_mem {k:Int × Int} (h:X.firstK=some k):k ∈ ksOf X.L∧k.2≠X.cur:=⟨List.mem_of_find?_eq_some h,by simpa using List.find?_some h⟩
def nearB (a b gran:Int):Bool:=decide (a≤satZ b (holdZ gran 0 1099511627776))
def QS.pickI (X:QS) (gran:Int):Int:=match X.firstK,X.get X.cur with
  | none,_=>X.cur
  | some k,none=>k.2
  | some k,some c=>if nearB c.v k.1 gran then X.cur else k.2
def QS.yieldI (X:QS) (gran:Int):Int:=match X.firstK,X.get X.cur with
  | some k,some c=>if nearB k.1 c.v gran then k.2 else X.pickI gran
  | _,_=>X.pickI gran
def QS.at_ (X:QS) (c:Int):QS:={ X with cur:=c }
theorem QS.ok.at_ (h:X.ok) {c:Int} (hc:c = -1∨∃ x,x ∈ X.L∧x.id=c):(X.at_ c).ok:=⟨h.ents,h.ids,h.len,hc,h.m1,h.m2⟩
def pickQ (X:QS) (gran:Int):QS:=X.at_ (X.pickI gran)
def yieldQ (X:QS) (gran:Int):QS:=X.at_ (X.yieldI gran)
theorem QS.ok.first_ent (_h:X.ok) {k:Int × Int} (hk:X.firstK=some k):∃ x,x ∈ X.L∧x.id=k.2∧x.v=k.1:=by
  obtain ⟨x,hx,rfl⟩:=ksOf_ent (QS.firstK_mem hk).1
  exact ⟨x,hx,rfl,rfl⟩
theorem QS.ok.pickI_ok (h:X.ok) (gran:Int):X.pickI gran = -1∨∃ x,x ∈ X.L∧x.id=X.pickI gran:=by
  unfold QS.pickI
  split
  · exact h.cur
  · rename_i k hk _
    obtain ⟨x,hx,hi,_⟩:=h.first_ent hk
    exact .inr ⟨x,hx,hi⟩
  · rename_i k c hk _
    split
    · exact h.cur
    · obtain ⟨x,hx,hi,_⟩:=h.first_ent hk
      exact .inr ⟨x,hx,hi⟩
theorem QS.ok.yieldI_ok (h:X.ok) (gran:Int):X.yieldI gran = -1∨∃ x,x ∈ X.L∧x.id=X.yieldI gran:=by
  unfold QS.yieldI
  split
  · rename_i k c hk _
    split
    · obtain ⟨x,hx,hi,_⟩:=h.first_ent hk
      exact .inr ⟨x,hx,hi⟩
    · exact h.pickI_ok gran
  · exact h.pickI_ok gran
def QS.ents (X:QS):List En:=(ksOf X.L).map fun k=>(X.get k.2).getD ⟨0,0,0,0⟩
/-! what is told, and what comes of it -/
def putC (X:QS) (e:En):Int :=
  if e.id<0 then 1 else if e.wt<2∨262144<e.wt then 4 else if e.wt≤e.rem then 1 else if e.id ∈ X.L.map (·.id) then 6 else if X.L.length=128 then 3 else 0
def putQ (X:QS) (e:En):QS:=if putC X e=0 then (X.add e).raise else X
def dropQ (X:QS) (i:Int):QS:=if i ∈ X.L.map (·.id) then (X.drop i).raise else X
def weighed (e:En) (w:Nat):En:={ e with wt:=w,rem:=mdQ e.rem w e.wt }
def weighC (X:QS) (i:Int) (w:Nat):Int:=if i ∈ X.L.map (·.id) then (if w<2∨262144<w then 4 else 0) else 12
def weighQ (X:QS) (i:Int) (w:Nat):QS:=match X.get i with
  | none=>X
  | some e=>if w<2∨262144<w then X else X.set (weighed e w)
def charged (e:En) (ns:Nat):En:={ e with v:=satZ e.v (((e.rem+ns*1024) / e.wt:Nat):Int),rem:=(e.rem+ns*1024) % e.wt }
def chargeC (X:QS) (ns:Nat):Int:=if X.cur = -1 then 7 else if 1000000000<ns then 8 else 0
def chargeQ (X:QS) (ns:Nat):QS:=match X.get X.cur with
  | none=>X
  | some e=>if 1000000000<ns then X else ({ X.set (charged e ns) with over:=X.over || overZ e.v (((e.rem+ns*1024) / e.wt:Nat):Int) }).raise
theorem putC_ok {X:QS} (hn:e.id≤9223372036854775807) (hv:-9223372036854775808≤e.v∧e.v≤9223372036854775807) (h:putC X e=0):e.ok∧e.id ∉ X.L.map (·.id)∧X.L.length≠128:=by
  unfold putC at h
  split at h
  · simp at h
  split at h
  · simp at h
  split at h
  · simp at h
  split at h
  · simp at h
  split at h
  · simp at h
  rename_i h1 h2 h3 h4 h5
  exact ⟨⟨by omega,hn,by omega,by omega,hv.1,hv.2,by omega⟩,h4,h5⟩
theorem QS.ok.put (h:X.ok) (hn:e.id≤9223372036854775807) (hv:-9223372036854775808≤e.v∧e.v≤9223372036854775807):(putQ X e).ok:=by
  unfold putQ
  split
  · rename_i hc
    obtain ⟨h1,h2,h3⟩:=putC_ok hn hv hc
    have:=h.len
    exact (h.add h1 h2 (by omega)).raise
  · exact h
theorem QS.ok.dropQ (h:X.ok) (i:Int):(dropQ X i).ok:=by
  unfold Go.Proofs.YtefekboacghnjaaGreat.dropQ
  split
  · exact (h.drop i).raise
  · exact h
end
end Go.Proofs.YtefekboacghnjaaGreat
namespace Go.Proofs.YtefekboacghnjaaGreat
open Go.RowKit Go.Maps
/-! the least one -/
theorem head_least {L:List En} {k:Int × Int} (h:(ksOf L).head?=some k) {e:En} (he:e ∈ L):k.1≤e.v:=by
  have hu:=ksOf_up L
  have hm:e.key ∈ ksOf L:=(ksOf_mem L _).2 (List.mem_map.2 ⟨e,he,rfl⟩)
  cases hl:ksOf L with
  | nil=>rw [hl] at h;simp at h
  | cons a r =>
    rw [hl] at h hu hm
    obtain rfl:a=k:=by simpa using h
    rw [Up,List.pairwise_cons] at hu
    rcases List.mem_cons.1 hm with e1 | e1
    · rw [← e1];exact Int.le_refl _
    · have:=hu.1 _ e1
      rcases this with h1 | h1
      · exact Int.le_of_lt h1
      · exact Int.le_of_eq h1.1
theorem head_none {L:List En} (h:(ksOf L).head?=none):L=[]:=by
  rw [List.head?_eq_none_iff] at h
  cases L with
  | nil=>rfl
  | cons e L =>
    have:=(ksOf_mem (e::L) e.key).2 (by simp)
    rw [h] at this
    simp at this
theorem head_some {L:List En} {e:En} (he:e ∈ L):∃ k,(ksOf L).head?=some k:=by
  cases h:(ksOf L).head? with
  | none=>rw [head_none h] at he;simp at he
  | some k=>exact ⟨k,rfl⟩
/-! near the least one -/
def QS.led (X:QS):Prop:=∀ k,(ksOf X.L).head?=some k→k.1≤X.mn
theorem raise_mn (X:QS):X.raise.mn=match (ksOf X.L).head? with | none=>X.mn | some k=>max X.mn k.1:=rfl
theorem QS.raise_led (X:QS):X.raise.led:=by
  intro k hk
  have:(ksOf X.L).head?=some k:=hk
  rw [raise_mn,this]
  exact Int.le_max_right _ _
section
variable {c g:Int} {t:Nat} {X:QS}
/-! who is current lies no further ahead than the granularity -/
theorem sat_ge {a b:Int} (ha:a≤9223372036854775807) (hb:0≤b):a≤satZ a b:=by
  unfold satZ
  split
  · omega
  · split <;> omega
end
end Go.Proofs.YtefekboacghnjaaGreat
namespace Go.Proofs.YtefekboacghnjaaGreat
open Go.RowKit Go.Maps
section
variable {c g:Int} {t:Nat} {X:QS} {e:En}
theorem led_putQ (hl:X.led):(putQ X e).led:=by
  unfold putQ
  split
  · exact QS.raise_led _
  · exact hl
theorem led_dropQ (hl:X.led) (i:Int):(dropQ X i).led:=by
  unfold dropQ
  split
  · exact QS.raise_led _
  · exact hl
theorem weighed_ok (he:e.ok) {w:Nat} (h1:2≤w) (h2:w≤262144):(weighed e w).ok:=by
  refine ⟨he.i1,he.i2,h1,h2,he.v1,he.v2,?_⟩
  show mdQ e.rem w e.wt<w
  have hr:=he.r
  have hw:=he.w1
  have hlt:e.rem*w<w*e.wt:=by rw [Nat.mul_comm w];exact Nat.mul_lt_mul_of_pos_right hr (by omega)
  have h3:e.rem*w / e.wt<w:=(Nat.div_lt_iff_lt_mul (by omega)).2 hlt
  unfold mdQ
  split
  · exact h3
  · rename_i hbig
    exfalso
    apply hbig
    have:=he.w2
    calc e.rem*w<w*e.wt:=hlt
      _≤262144*e.wt:=Nat.mul_le_mul_right _ h2
      _=e.wt*262144:=Nat.mul_comm _ _
      _≤e.wt*18446744073709551616:=Nat.mul_le_mul_left _ (by omega)
theorem led_of {X':QS} (hl:X.led) (hk:ksOf X'.L=ksOf X.L) (hm:X'.mn=X.mn):X'.led:=by
  intro k h
  rw [hk] at h
  rw [hm]
  exact hl k h
end
end Go.Proofs.YtefekboacghnjaaGreat
