/-
  doleref08.Ents, the plain part: whoever is first is taken out, until nobody is left: the queue's own order.
  doleref08: Ents.
  A queue, the document's queue in its box beside it, and both sides of each deed.
-/
import Derived.Test.YtefekboacghnjaaGreatPd
import Derived.Test.YtefekboacghnjaaGreatPe
import Derived.Deep.AppendLies
import Derived.Test.YtefekboacghnjaaGreatPc
import Derived.Test.YtefekboacghnjaaGreatMd
namespace Go.Proofs.YtefekboacghnjaaGreat
open Go.RowKit Go.Maps
structure Sel (X:QS) (O L:List En):Prop where
 perm:(O++L).Perm X.L
 up:Up (O.map En.key)
 low:∀ o,o ∈ O→∀ x,x ∈ L→keyLt o.key x.key
section
variable {X:QS} {O L:List En}
theorem Sel.start (X:QS):Sel X [] X.L:=⟨by rw [List.nil_append],List.Pairwise.nil,fun o h=>by simp at h⟩
theorem Sel.mem (S:Sel X O L) {x:En} (h:x ∈ L):x ∈ X.L:=S.perm.mem_iff.1 (List.mem_append_right _ h)
theorem Sel.best (hok:X.ok) (S:Sel X O L) (h:L≠[]) {bo:Option Nat} (hb:BestAt L (-1) L.length bo):∃ m,bo=some m:=by
 cases bo with
 | some m=>exact ⟨m,rfl⟩
 | none =>
  have hpos:0<L.length:=List.length_pos_iff.2 h
  have h0:=hb 0 hpos
  have hm:L.getD 0 En.nil ∈ L:=by rw [getD_at L hpos];exact List.getElem_mem _
  have:=(hok.ents _ (S.mem hm)).i1
  omega
theorem take_drop_perm {m:Nat} (hm:m<L.length):L.Perm (L.getD m En.nil::(L.take m++L.drop (m+1))):=by
 have e:L=L.take m++L.getD m En.nil::L.drop (m+1):=by
  rw [getD_at L hm,← List.drop_eq_getElem_cons hm,List.take_append_drop]
 have:=List.perm_middle (a:=L.getD m En.nil) (l₁:=L.take m) (l₂:=L.drop (m+1))
 rw [← e] at this
 exact this
theorem Sel.step (hok:X.ok) (S:Sel X O L) {m:Nat} (hb:BestAt L (-1) L.length (some m)):Sel X (O++[L.getD m En.nil]) (L.take m++L.drop (m+1)):=by
 obtain ⟨hm,_,hbest⟩:=hb
 have hp:=take_drop_perm hm
 generalize hE:L.getD m En.nil=e at *
 generalize hR:L.take m++L.drop (m+1)=R at *
 have heL:e ∈ L:=hp.mem_iff.2 List.mem_cons_self
 have hsub:∀ x,x ∈ R→x ∈ L:=fun x hx=>hp.mem_iff.2 (List.mem_cons_of_mem _ hx)
 have hnd:((e::R).map (·.id)).Nodup:=by
  have h1:((O++L).map (·.id)).Nodup:=((S.perm.map _).nodup_iff).2 hok.ids
  rw [List.map_append,List.nodup_append] at h1
  exact ((hp.map _).nodup_iff).1 h1.2.1
 rw [List.map_cons,List.nodup_cons] at hnd
 refine ⟨?_,?_,fun o ho x hx=>?_⟩
 ·
  rw [List.append_assoc]
  exact (hp.symm.append_left O).trans S.perm
 ·
  rw [List.map_append]
  refine List.pairwise_append.2 ⟨S.up,List.pairwise_singleton _ _,fun a ha b hb=>?_⟩
  obtain ⟨o,ho,rfl⟩:=List.mem_map.1 ha
  rw [List.map_singleton,List.mem_singleton] at hb
  rw [hb]
  exact S.low o ho e heL
 ·
  rcases List.mem_append.1 ho with ho | ho
  · exact S.low o ho x (hsub x hx)
  ·
   rw [List.mem_singleton] at ho
   subst ho
   have hxL:=hsub x hx
   obtain ⟨j,hj,hje⟩:=List.getElem_of_mem hxL
   have hid:=(hok.ents x (S.mem hxL)).i1
   have h2:=hbest j hj (by rw [getD_at L hj,hje];omega)
   rw [getD_at L hj,hje] at h2
   have hne:x.id≠o.id:=fun h=>hnd.1 (List.mem_map.2 ⟨x,hx,h⟩)
   unfold ahead at h2
   unfold keyLt
   show o.v<x.v∨(o.v=x.v∧o.id<x.id)
   have h3:¬(x.v<o.v∨(x.v=o.v∧x.id<o.id)):=h2
   omega
theorem Sel.done (hok:X.ok) (S:Sel X O []):O=X.ents:=by
 have hp:O.Perm X.L:=by
  have:=S.perm
  rwa [List.append_nil] at this
 have hk:ksOf X.L=O.map En.key:=up_unique (ksOf_up _) S.up fun x=>by
  rw [ksOf_mem]
  exact ((hp.map En.key).mem_iff).symm
 unfold QS.ents
 rw [hk,List.map_map]
 symm
 refine (List.map_congr_left (g:=id) fun o ho=>?_).trans (List.map_id _)
 show (X.get o.id).getD ⟨0,0,0,0⟩=o
 rw [hok.get (hp.mem_iff.1 ho)]
 rfl
end
end Go.Proofs.YtefekboacghnjaaGreat
namespace Go.Proofs.YtefekboacghnjaaGreat
open Go.RowKit Go.Maps
def lenAt (w:World) (b:Nat):Nat:=match w.cell? ⟨b,0,none⟩ with
 | some (.slice _ n _)=>n
 | _=>0
set_option maxRecDepth 100000 in
set_option maxHeartbeats 16000000 in
theorem rents_any (A:Option Addr) (c:Nat) (X:QS) (hok:X.ok) (w:World) (hA:RQ w w.heap.size A c X.L) :
  Calls Tryz.prog 38 #[rqV A X.L.length c X.cur X.mn X.over] w fun r w'=>∃ A' c',r=.returned (.slice A' X.ents.length c')∧Hid (RowE w' w'.heap.size A' X.ents∧Below w.heap.size w w'):=by
 obtain ⟨i0,hi,iz0,iz1,iz2⟩:=info_parts infoEn
 have hlen:=hok.len
 have HOK:=Lib.hid hok
 obtain ⟨cur,hcur⟩:∃ cur,cur=X.cur:=⟨_,rfl⟩
 obtain ⟨mn,hmn⟩:∃ mn,mn=X.mn:=⟨_,rfl⟩
 obtain ⟨fl,hfl⟩:∃ fl,fl=X.over:=⟨_,rfl⟩
 obtain ⟨n0,hn0⟩:∃ n0,n0=X.L.length:=⟨_,rfl⟩
 rw [← hcur,← hmn,← hfl,← hn0]
 obtain ⟨W2,hW2⟩:∃ W2,W2=(w.alloc (.cells #[.slice A n0 c,.int .i64 cur,.int .i64 mn,.bool fl] 29)).alloc (.cells #[.slice A n0 c,.int .i64 cur,.int .i64 mn,.bool fl] 29):=⟨_,rfl⟩
 have hb2:Below w.heap.size w W2:=by rw [hW2];exact ((Below.refl _ _).alloc (Nat.le_refl _) _).alloc (by simp) _
 have hm2:Blk W2 (w.heap.size+1) #[.slice A n0 c,.int .i64 cur,.int .i64 mn,.bool fl] 29:=by
  rw [hW2]
  have:=Blk.new (w.alloc (.cells #[.slice A n0 c,.int .i64 cur,.int .i64 mn,.bool fl] 29)) #[.slice A n0 c,.int .i64 cur,.int .i64 mn,.bool fl] 29
  rw [World.size_alloc] at this
  exact this
 have hs2:W2.heap.size=w.heap.size+2:=by rw [hW2];simp
 have hrq2:RQ W2 W2.heap.size A c X.L:=(hA.below hb2).mono hb2.size
 have hold:∀ a,A=some a→X.L≠[]→a.block<w.heap.size:=fun a ha hne=>by
  obtain ⟨b,off,e1,e2,_⟩:=hA.1.at_ (List.length_pos_iff.2 hne)
  rw [ha] at e1
  injection e1 with e1
  rw [e1]
  exact e2
 have HS:=Lib.hid (And.intro hb2 (And.intro hm2 (And.intro hrq2 (And.intro hn0 hold))))
 have HW2:=Lib.hid hW2
 have hlen0:n0≤128:=by omega
 clear hW2 hb2 hm2 hrq2 hA hcur hmn hfl hold hok hn0 hlen
 go_enter Tryz.func38,Tryz.ntmps38
 go_wp2_with fail
 rw [← HW2.out]
 clear HW2
 go_loopw [3] (fun s3 wr=>∃ (O L:List En) (A':Option Addr) (c':Nat),Hid (Sel X O L∧wr.ownsRow (w.heap.size+2) 34 4 s3 O.length (O.flatMap ecl)∧Blk wr (w.heap.size+1) #[.slice A' L.length c',.int .i64 cur,.int .i64 mn,.bool fl] 29∧RQ wr wr.heap.size A' c' L∧Below w.heap.size w wr∧w.heap.size+2≤wr.heap.size∧∀ a,A'=some a→L≠[]→s3.ownBlock≠some a.block)) (fun _ wr=>lenAt wr (w.heap.size+1))
 case atStart=>exact ⟨[],X.L,A,c,Sel.start X,World.ownsRow_nil _ _ _ _,by rw [← HS.out.2.2.2.1];exact HS.out.2.1,HS.out.2.2.1,HS.out.1,by omega,fun a _ _ h=>by simp [Value.ownBlock] at h⟩
 case round =>
  obtain ⟨O,L,A',c',HR⟩:=hrel
  have fq:=Blk.frozen HR.out.2.2.1
  have x0:wr.cell? ⟨w.heap.size+1,0,none⟩=some (.slice A' L.length c'):=Blk.cell HR.out.2.2.1 0
  have x1:wr.cell? ⟨w.heap.size+1,1,none⟩=some (.int .i64 cur):=Blk.cell HR.out.2.2.1 1
  have x2:wr.cell? ⟨w.heap.size+1,2,none⟩=some (.int .i64 mn):=Blk.cell HR.out.2.2.1 2
  have x3:wr.cell? ⟨w.heap.size+1,3,none⟩=some (.bool fl):=Blk.cell HR.out.2.2.1 3
  by_cases hL:L=[]
  ·
   subst hL
   have hO:=HR.out.1.done HOK.out
   subst hO
   obtain ⟨A5,c5,rfl,hrow,hle⟩:=own_ents HR.out.2.1
   obtain ⟨ne,hne⟩:∃ ne,ne=X.ents.length:=⟨_,rfl⟩
   rw [← hne]
   have HF:=Lib.hid (And.intro hrow (And.intro HR.out.2.2.2.2.1 hne))
   clear hrow hle hne
   go_wp2_with fail
   go_ret
   exact ⟨A5,c5,by rw [← HF.out.2.2];rfl,Lib.hid ⟨HF.out.1,HF.out.2.1⟩⟩
  ·
   have hpos:0<L.length:=List.length_pos_iff.2 hL
   obtain ⟨b,off,rfl,hb,hc⟩:=HR.out.2.2.2.1.1.at_ hpos
   have hLX:L.length≤128:=by
    have h1:=HR.out.1.perm.length_eq
    rw [List.length_append] at h1
    have:=HOK.out.len
    omega
   have MF:=rfirst_any (some ⟨b,off,none⟩) c' L cur mn fl (-1) wr HR.out.2.2.2.1.1 (by omega)
   obtain ⟨n,hn⟩:∃ n,n=L.length:=⟨_,rfl⟩
   rw [← hn] at x0 MF hpos hLX
   have HN:=Lib.hid hn
   have z1:decide ((0:Int)<(n:Int))=true:=decide_eq_true (by omega)
   have z2:decide (0<n)=true:=decide_eq_true hpos
   have MF:=Lib.hid MF
   have HC:=Lib.hid (And.intro hb hc)
   have HL:=Lib.hid hL
   clear hL hb hc hn
   go_wp2_with fail
   refine MF.out.mono ?_
   rintro r w5 ⟨bo,rfl,HF⟩
   obtain ⟨k,rfl⟩:=HR.out.1.best HOK.out HL.out (by rw [← HN.out] at *;exact HF.out.1)
   have hk:k<n:=HF.out.1.1
   have HSEL:Hid (Sel X (O++[L.getD k En.nil]) (L.take k++L.drop (k+1))):=Lib.hid (HR.out.1.step HOK.out (by rw [← HN.out];exact HF.out.1))
   obtain ⟨e0,e1,e2,e3⟩:=((HC.out.2 k (by rw [← HN.out];exact hk)).below HF.out.2 HC.out.1)
   obtain ⟨en,hen⟩:∃ en,en=L.getD k En.nil:=⟨_,rfl⟩
   rw [← hen] at e0 e1 e2 e3 HSEL
   have hq5:=HR.out.2.2.1.below HF.out.2 HR.out.2.2.1.lt
   have y0:w5.cell? ⟨w.heap.size+1,0,none⟩=some (.slice (some ⟨b,off,none⟩) n c'):=by
    have:=Blk.cell hq5 0
    rw [HN.out]
    exact this
   have hown5:w5.ownsRow (w.heap.size+2) 34 4 u3 O.length (O.flatMap ecl):=HR.out.2.1.kept (row:=none) ⟨HF.out.2.os,HF.out.2.tape,HF.out.2.output,HF.out.2.size,fun i hi _=>HF.out.2.block i hi⟩ (Classical.em _)
   have hsz5:=HF.out.2.size
   have hwr:=HR.out.2.2.2.2.2.1
   have hOl:O.length≤128:=by
    have h1:=HR.out.1.perm.length_eq
    rw [List.length_append] at h1
    have:=HOK.out.len
    omega
   have j0:(0:Int)≤(k:Int):=Int.natCast_nonneg _
   have j1:(k:Int)<(n:Int):=by omega
   have j2:decide (k<n)=true:=decide_eq_true hk
   have HEN:=Lib.hid hen
   have HQ5:=Lib.hid hq5
   clear hen hq5 x0 x1 x2 x3 MF
   rw [show idxZ (some k)=(k:Int) from rfl]
   go_wp2_with (at_builtin;refine wpList_append_lies _ rfl (.tmp 13) (.tmp 19) 27 rfl (w.heap.size+2) 34 i0 _ 4 32 Tryz.underlying27 hi iz0 iz1 iz2 rfl (by decide) _ O.length (O.flatMap ecl) rfl (hown5.alloc _) ⟨w5.heap.size,0,none⟩ 1 1 (ecl en) rfl rfl (cell_ent_new _ _ _ _ _ _) (by simp [ecl,Value.oneCell']) (by decide) (by unfold maxLen;omega) (by omega) (by simp;omega) _ rfl ?_;intro g6 c6 w6 hown6 hg6 hat6 hlt6)
   have hne0:u3.ownBlock≠some b:=HR.out.2.2.2.2.2.2 _ rfl HL.out
   change (w5.alloc _).grownBy w6 u3.ownBlock at hg6
   change u3.ownBlock=some g6∨_ at hat6
   have hb5:b<w5.heap.size:=Nat.lt_of_lt_of_le HC.out.1 hsz5
   have hblk6:w6.heap[b]?=w5.heap[b]?:=(hg6.block b (by simp;omega) (fun h=>hne0 h.symm)).trans (Below.heap_alloc _ _ _ hb5)
   have hrow6:RowE w6 w6.heap.size (some ⟨b,off,none⟩) L:=.inr ⟨b,off,rfl,Nat.lt_of_lt_of_le hb5 (by have:=hg6.size;simp at this;omega),fun j hj=>((HC.out.2 j hj).below HF.out.2 HC.out.1).of hblk6⟩
   have hw5:Below w.heap.size w w5:=HR.out.2.2.2.2.1.trans (HF.out.2.mono (by omega))
   have hBw:Below w.heap.size w w6:=(hw5.alloc hw5.size _).grown hg6 (by simp;omega) (fun b hb=>by have:=(hown5.lt b hb).1;omega)
   have hm1:Blk w6 (w.heap.size+1) #[.slice (some ⟨b,off,none⟩) L.length c',.int .i64 cur,.int .i64 mn,.bool fl] 29:=(HQ5.out.alloc _).kept hg6 (fun h=>by have:=(hown5.lt _ h.symm).1;omega)
   have hcap:n≤c':=by rw [HN.out];exact HR.out.2.2.2.1.2.2
   obtain ⟨B0,hB0⟩:∃ B0,B0=w6.heap.size:=⟨_,rfl⟩
   obtain ⟨k1,hk1⟩:∃ k1,k1=k+1:=⟨_,rfl⟩
   have hk1n:k1≤n:=by omega
   have hBB:B0≤w6.heap.size:=by omega
   have hB5:w5.heap.size<B0:=by rw [hB0];have:=hg6.size;simp at this;omega
   have HS5:Hid (∀ W,Below B0 w6 W→W.cell? ⟨w.heap.size+1,0,none⟩=some (.slice (some ⟨b,off,none⟩) n c')):=Lib.hid fun W hW=>by
    have:=Blk.cell (hm1.below hW (by omega)) 0
    rw [HN.out]
    exact this
   have HFX:Hid (∀ W,Below B0 w6 W→∀ j,W.frozen? ⟨w.heap.size+1,j,none⟩=false):=Lib.hid fun W hW=>Blk.frozen (hm1.below hW (by omega))
   have HBL:Hid (∀ W,Below B0 w6 W→Below B0 w6 W):=Lib.hid fun W hW=>hW
   have hk1n':k1≤L.length:=by rw [← HN.out];exact hk1n
   have HL1:Hid (((L.take k).flatMap ecl).length=k*4):=Lib.hid (by rw [ecl_len,List.length_take,Nat.min_eq_left (by omega)])
   have HL2:Hid (((L.drop k1).flatMap ecl).length=(n - k1)*4):=Lib.hid (by rw [ecl_len,List.length_drop,← HN.out])
   have HO1:=Lib.hid (ecl_one (L.take k))
   have HO2:=Lib.hid (ecl_one (L.drop k1))
   have hrow6':RowE w6 B0 (some ⟨b,off,none⟩) L:=by rw [hB0];exact hrow6
   have HSRC1:Hid (∀ W,Below B0 w6 W→∀ (j:Nat) (u:Value),((L.take k).flatMap ecl)[j]?=some u→W.cell? ((⟨b,off,none⟩:Addr).add j)=some u):=Lib.hid fun W hW j u h=>(hrow6'.below hW).cells j u (flat_take L k j u h)
   have HSRC2:Hid (∀ W,Below B0 w6 W→((if c'=k1 then some (⟨b,off,none⟩:Addr) else some ⟨b,off+k1*4,none⟩)=none∧n - k1=0∧c' - k1=0)∨∃ ad,(if c'=k1 then some (⟨b,off,none⟩:Addr) else some ⟨b,off+k1*4,none⟩)=some ad∧∀ (j:Nat) (u:Value),((L.drop k1).flatMap ecl)[j]?=some u→W.cell? (ad.add j)=some u):=Lib.hid fun W hW=>by
    right
    by_cases hck:c'=k1
    ·
     rw [if_pos hck]
     refine ⟨_,rfl,fun j u h=>?_⟩
     have hnil:L.drop k1=[]:=List.drop_eq_nil_of_le (by rw [← HN.out];omega)
     rw [hnil] at h
     simp at h
    ·
     rw [if_neg hck]
     refine ⟨_,rfl,fun j u h=>?_⟩
     have:=(hrow6'.below hW).cells _ u (flat_drop L hk1n' j u h)
     rw [addr_add] at this ⊢
     rw [← Nat.add_assoc] at this
     exact this
   obtain ⟨L',hL'⟩:∃ L',L'=L.take k++L.drop k1:=⟨_,rfl⟩
   have hLn:L'.length=n - 1:=by
    rw [hL',List.length_append,List.length_take,List.length_drop,← HN.out,Nat.min_eq_left (by omega)]
    omega
   have HOW:Hid (∀ (W:World) (v:Value),W.ownsRow B0 34 4 v (0+k+(n - k1)) ([]++(L.take k).flatMap ecl++(L.drop k1).flatMap ecl)→∃ A2 c2,v=.slice A2 (n - 1) c2∧RQ W W.heap.size A2 c2 L'∧∀ a,A2=some a→B0≤a.block):=Lib.hid fun W v h=>by
    have e1:[]++(L.take k).flatMap ecl++(L.drop k1).flatMap ecl=L'.flatMap ecl:=by rw [hL',List.nil_append,List.flatMap_append]
    rw [e1,show 0+k+(n - k1)=L'.length by omega] at h
    obtain ⟨A2,c2,q1,q2,q3⟩:=own_rq h
    rw [hLn] at q1
    exact ⟨A2,c2,q1,q2,q3⟩
   have e9:IntKind.i64.wrap ((k:Int)+1)=(k1:Int):=by rw [IntKind.wrap_i64];omega
   have j3:(k:Int)≤(c':Int):=by omega
   have j4:(0:Int)≤(k1:Int):=Int.natCast_nonneg _
   have j5:(k1:Int)≤(n:Int):=by omega
   have j6:(n:Int)≤(c':Int):=by omega
   have hgB:g6<B0:=by rw [hB0];exact hlt6
   have HM6:=Lib.hid (And.intro hm1 (And.intro hBw (And.intro hown6 hgB)))
   have HLL:=Lib.hid (And.intro hL' (And.intro hLn hk1))
   have HBZ:=Lib.hid hB0
   clear hB0 hBw hm1 hk1n' hL' hLn hk1 y0 e0 e1 e2 e3 hat6 hg6 hown6 hlt6 hgB hrow6 hrow6' hblk6 hown5 hw5
   refine wp_region_any mixed8 ?_
   change wpAny _ _ _ _ _ _ _ w6.drew
   refine wpAny_inv0 (fun a=>a.tmps[4]?.getD undef=.pointer (some ⟨w.heap.size+1,0,none⟩)∧a.tmps[5]?.getD undef=.int .i64 (k:Int)∧a.tmps.size=35) ⟨rfl,rfl,rfl⟩
    (fun a0 l a W=>∃ x:Nat→Value,a=putR a0 21 13 x∧(lsd l 13=false→Below (B0) w6 W)∧(lsd l 1=true→x 22=.pointer (some ⟨w.heap.size+1,0,none⟩))∧(lsd l 2=true→x 23=.slice (some ⟨b,off,none⟩) n c')∧(lsd l 3=true→x 24=.int .i64 (k:Int))∧(lsd l 4=true→x 25=.slice (some ⟨b,off,none⟩) k c')∧(lsd l 6=true→x 27=.pointer (some ⟨w.heap.size+1,0,none⟩))∧(lsd l 7=true→x 28=.slice (some ⟨b,off,none⟩) n c')∧(lsd l 8=true→x 29=.int .i64 (k:Int))∧(lsd l 9=true→x 30=.int .i64 (k1:Int))∧(lsd l 10=true→x 31=.slice (if c'=k1 then some ⟨b,off,none⟩ else some ⟨b,off+k1*4,none⟩) (n - k1) (c' - k1))∧(lsd l 12=true→x 33=.pointer (some ⟨w.heap.size+1,0,none⟩))∧(lsd l 0=true→lsd l 5=false→W.ownsRow (B0) 34 4 (x 21) 0 [])∧(lsd l 5=true→lsd l 11=false→W.ownsRow (B0) 34 4 (x 26) (0+k) ([]++(L.take k).flatMap ecl))∧(lsd l 11=true→lsd l 13=false→W.ownsRow (B0) 34 4 (x 32) (0+k+(n - k1)) ([]++(L.take k).flatMap ecl++(L.drop k1).flatMap ecl))∧(lsd l 13=true→∃ W0,Below (B0) w6 W0∧W0.ownsRow (B0) 34 4 (x 32) (0+k+(n - k1)) ([]++(L.take k).flatMap ecl++(L.drop k1).flatMap ecl)∧W=W0.setCell ⟨w.heap.size+1,0,none⟩ (x 32))) ?_ ?_ ?_
   ·
    intro a0 _
    obtain ⟨x,hx⟩:=putR_start a0 21 13
    have hn:∀ {p:Prop} {j:Nat},lsd (Array.replicate 14 false) j=true→p:=fun h=>by
     rw [lsd_start] at h
     exact absurd h (by decide)
    exact ⟨x,hx,fun _=>(Below.refl _ _).drew,hn,hn,hn,hn,hn,hn,hn,hn,hn,hn,hn,hn,hn,hn⟩
   ·
    rintro a0 ⟨f2,f7,fs⟩ l a W hsz hcl ⟨x,rfl,iB,i1,i2,i3,i4,i6,i7,i8,i9,i10,i12,o0,o5,o11,iE⟩ i hir
    obtain ⟨hi14,hui,o,ho,hd⟩:=ready_of hsz hir
    have hi99:i<14:=hi14
    have E2:(putR a0 21 13 x).tmps[4]?.getD undef=.pointer (some ⟨w.heap.size+1,0,none⟩):=(putR_out a0 21 13 x 4 (by decide)).trans f2
    have E7:(putR a0 21 13 x).tmps[5]?.getD undef=.int .i64 (k:Int):=(putR_out a0 21 13 x 5 (by decide)).trans f7
    have EX:∀ j,21≤j→j<34→(putR a0 21 13 x).tmps[j]?.getD undef=x j:=fun j h1 h2=>putR_in a0 21 13 x j h1 h2 (by rw [fs];exact Nat.lt_trans h2 (by decide))
    have EV:∀ j,21≤j→j<34→(putR a0 21 13 x).eval (.tmp j)=x j:=fun j h1 h2=>putR_eval a0 21 13 x j h1 h2 (by rw [fs];exact Nat.lt_trans h2 (by decide))
    have ls:lsd (l.setIfInBounds i true) i=true:=lsd_self (by rw [hsz];exact hi14)
    have lo:∀ j,i≠j→lsd (l.setIfInBounds i true) j=lsd l j:=fun j h=>lsd_other h
    clear hir hsz
    generalize l.setIfInBounds i true=l' at *
    have h2_1:lsd l 2=true→lsd l 1=true:=fun h=>hcl 2 _ rfl h _ (List.mem_toArray.2 (.head _)) rfl
    have h4_2:lsd l 4=true→lsd l 2=true:=fun h=>hcl 4 _ rfl h _ (List.mem_toArray.2 (.head _)) rfl
    have h4_3:lsd l 4=true→lsd l 3=true:=fun h=>hcl 4 _ rfl h _ (List.mem_toArray.2 (.tail _ (.head _))) rfl
    have h5_0:lsd l 5=true→lsd l 0=true:=fun h=>hcl 5 _ rfl h _ (List.mem_toArray.2 (.head _)) rfl
    have h5_4:lsd l 5=true→lsd l 4=true:=fun h=>hcl 5 _ rfl h _ (List.mem_toArray.2 (.tail _ (.head _))) rfl
    have h7_6:lsd l 7=true→lsd l 6=true:=fun h=>hcl 7 _ rfl h _ (List.mem_toArray.2 (.head _)) rfl
    have h9_8:lsd l 9=true→lsd l 8=true:=fun h=>hcl 9 _ rfl h _ (List.mem_toArray.2 (.head _)) rfl
    have h10_7:lsd l 10=true→lsd l 7=true:=fun h=>hcl 10 _ rfl h _ (List.mem_toArray.2 (.head _)) rfl
    have h10_9:lsd l 10=true→lsd l 9=true:=fun h=>hcl 10 _ rfl h _ (List.mem_toArray.2 (.tail _ (.head _))) rfl
    have h11_5:lsd l 11=true→lsd l 5=true:=fun h=>hcl 11 _ rfl h _ (List.mem_toArray.2 (.head _)) rfl
    have h11_10:lsd l 11=true→lsd l 10=true:=fun h=>hcl 11 _ rfl h _ (List.mem_toArray.2 (.tail _ (.head _))) rfl
    have h13_12:lsd l 13=true→lsd l 12=true:=fun h=>hcl 13 _ rfl h _ (List.mem_toArray.2 (.head _)) rfl
    have h13_11:lsd l 13=true→lsd l 11=true:=fun h=>hcl 13 _ rfl h _ (List.mem_toArray.2 (.tail _ (.head _))) rfl
    clear hcl
    match i,ho,hd,hui,ls,lo with
    | 0,ho,hd,hui,ls,lo =>
     obtain rfl:=Option.some.inj ho
     have n5:=lsd_not h5_0 hui
     have n11:=lsd_not h11_5 n5
     have n13:=lsd_not h13_11 n11
     have hB:=iB n13
     have hsz:=hB.size
     clear EX EV
     refine wpOp_step rfl (fun K' hK=>?_)
     rw [if_pos (by rfl)]
     go_simp
     exact hK _ _ ⟨_,putR_put a0 21 13 x 21 (by decide) (by decide) _,fun _=>hB.alloc (by omega) _,lq i1 (lo 1 (by decide)),lq i2 (lo 2 (by decide)),lq i3 (lo 3 (by decide)),lq i4 (lo 4 (by decide)),lq i6 (lo 6 (by decide)),lq i7 (lo 7 (by decide)),lq i8 (lo 8 (by decide)),lq i9 (lo 9 (by decide)),lq i10 (lo 10 (by decide)),lq i12 (lo 12 (by decide)),fun _ _=>own_empty1 W _ _ (by omega),lnq (lo 5 (by decide)) n5,lnq (lo 11 (by decide)) n11,lnq (lo 13 (by decide)) n13⟩
    | 1,ho,hd,hui,ls,lo =>
     obtain rfl:=Option.some.inj ho
     have n2:=lsd_not h2_1 hui
     have n4:=lsd_not h4_2 n2
     have n5:=lsd_not h5_4 n4
     have n11:=lsd_not h11_5 n5
     have n13:=lsd_not h13_11 n11
     have hB:=iB n13
     have hsz:=hB.size
     clear EX EV
     refine wpOp_step rfl (fun K' hK=>?_)
     rw [if_pos (by rfl)]
     go_simp
     exact hK _ _ ⟨_,putR_put a0 21 13 x 22 (by decide) (by decide) _,fun _=>hB,fun _=>rfl,lq i2 (lo 2 (by decide)),lq i3 (lo 3 (by decide)),lq i4 (lo 4 (by decide)),lq i6 (lo 6 (by decide)),lq i7 (lo 7 (by decide)),lq i8 (lo 8 (by decide)),lq i9 (lo 9 (by decide)),lq i10 (lo 10 (by decide)),lq i12 (lo 12 (by decide)),fun h h5=>o0 ((lo 0 (by decide)).symm.trans h) ((lo 5 (by decide)).symm.trans h5),fun h h11=>o5 ((lo 5 (by decide)).symm.trans h) ((lo 11 (by decide)).symm.trans h11),fun h _=>o11 ((lo 11 (by decide)).symm.trans h) n13,lnq (lo 13 (by decide)) n13⟩
    | 2,ho,hd,hui,ls,lo =>
     obtain rfl:=Option.some.inj ho
     have n4:=lsd_not h4_2 hui
     have n5:=lsd_not h5_4 n4
     have n11:=lsd_not h11_5 n5
     have n13:=lsd_not h13_11 n11
     have l1:lsd l 1=true:=hd _ (List.mem_toArray.2 (.head _)) rfl
     have hB:=iB n13
     have hsz:=hB.size
     have E22:=(EX 22 (by decide) (by decide)).trans (i1 l1)
     have z0:=HS5.out W hB
     clear EX EV
     refine wpOp_step rfl (fun K' hK=>?_)
     rw [if_pos (by rfl)]
     go_simp
     exact hK _ _ ⟨_,putR_put a0 21 13 x 23 (by decide) (by decide) _,fun _=>hB,lq i1 (lo 1 (by decide)),fun _=>rfl,lq i3 (lo 3 (by decide)),lq i4 (lo 4 (by decide)),lq i6 (lo 6 (by decide)),lq i7 (lo 7 (by decide)),lq i8 (lo 8 (by decide)),lq i9 (lo 9 (by decide)),lq i10 (lo 10 (by decide)),lq i12 (lo 12 (by decide)),fun h h5=>o0 ((lo 0 (by decide)).symm.trans h) ((lo 5 (by decide)).symm.trans h5),fun h h11=>o5 ((lo 5 (by decide)).symm.trans h) ((lo 11 (by decide)).symm.trans h11),fun h _=>o11 ((lo 11 (by decide)).symm.trans h) n13,lnq (lo 13 (by decide)) n13⟩
    | 3,ho,hd,hui,ls,lo =>
     obtain rfl:=Option.some.inj ho
     have n4:=lsd_not h4_3 hui
     have n5:=lsd_not h5_4 n4
     have n11:=lsd_not h11_5 n5
     have n13:=lsd_not h13_11 n11
     have hB:=iB n13
     have hsz:=hB.size
     clear EX EV
     refine wpOp_step rfl (fun K' hK=>?_)
     rw [if_pos (by rfl)]
     go_simp
     exact hK _ _ ⟨_,putR_put a0 21 13 x 24 (by decide) (by decide) _,fun _=>hB,lq i1 (lo 1 (by decide)),lq i2 (lo 2 (by decide)),fun _=>rfl,lq i4 (lo 4 (by decide)),lq i6 (lo 6 (by decide)),lq i7 (lo 7 (by decide)),lq i8 (lo 8 (by decide)),lq i9 (lo 9 (by decide)),lq i10 (lo 10 (by decide)),lq i12 (lo 12 (by decide)),fun h h5=>o0 ((lo 0 (by decide)).symm.trans h) ((lo 5 (by decide)).symm.trans h5),fun h h11=>o5 ((lo 5 (by decide)).symm.trans h) ((lo 11 (by decide)).symm.trans h11),fun h _=>o11 ((lo 11 (by decide)).symm.trans h) n13,lnq (lo 13 (by decide)) n13⟩
    | 4,ho,hd,hui,ls,lo =>
     obtain rfl:=Option.some.inj ho
     have n5:=lsd_not h5_4 hui
     have n11:=lsd_not h11_5 n5
     have n13:=lsd_not h13_11 n11
     have l2:lsd l 2=true:=hd _ (List.mem_toArray.2 (.head _)) rfl
     have l3:lsd l 3=true:=hd _ (List.mem_toArray.2 (.tail _ (.head _))) rfl
     have hB:=iB n13
     have hsz:=hB.size
     have E23:=(EX 23 (by decide) (by decide)).trans (i2 l2)
     have E24:=(EX 24 (by decide) (by decide)).trans (i3 l3)
     clear EX EV
     refine wpOp_step rfl (fun K' hK=>?_)
     rw [if_pos (by rfl)]
     go_simp
     exact hK _ _ ⟨_,putR_put a0 21 13 x 25 (by decide) (by decide) _,fun _=>hB,lq i1 (lo 1 (by decide)),lq i2 (lo 2 (by decide)),lq i3 (lo 3 (by decide)),fun _=>rfl,lq i6 (lo 6 (by decide)),lq i7 (lo 7 (by decide)),lq i8 (lo 8 (by decide)),lq i9 (lo 9 (by decide)),lq i10 (lo 10 (by decide)),lq i12 (lo 12 (by decide)),fun h h5=>o0 ((lo 0 (by decide)).symm.trans h) ((lo 5 (by decide)).symm.trans h5),fun h h11=>o5 ((lo 5 (by decide)).symm.trans h) ((lo 11 (by decide)).symm.trans h11),fun h _=>o11 ((lo 11 (by decide)).symm.trans h) n13,lnq (lo 13 (by decide)) n13⟩
    | 5,ho,hd,hui,ls,lo =>
     obtain rfl:=Option.some.inj ho
     have n11:=lsd_not h11_5 hui
     have n13:=lsd_not h13_11 n11
     have l0:lsd l 0=true:=hd _ (List.mem_toArray.2 (.head _)) rfl
     have l4:lsd l 4=true:=hd _ (List.mem_toArray.2 (.tail _ (.head _))) rfl
     have hB:=iB n13
     have hsz:=hB.size
     have hown:=o0 l0 hui
     refine wpOp_step rfl (fun K' hK=>?_)
     refine step_append_rows rfl (.tmp 21) (.tmp 25) 27 rfl (B0) 34 i0 _ 4 32 Tryz.underlying27 hi iz0 iz1 iz2 rfl (by decide) (x 21) 0 [] (EV 21 (by decide) (by decide)) hown (some ⟨b,off,none⟩) k c' _ ((EV 25 (by decide) (by decide)).trans (i4 l4)) HL1.out (.inr ⟨_,rfl,HSRC1.out _ (HBL.out _ hB)⟩) HO1.out (by unfold maxLen;omega) (by omega) (by omega) ?_
     intro v1 w66 hown1 hg1
     have hB6:Below B0 w6 w66:=hB.grown hg1 (by omega) (fun b hb=>(hown.lt b hb).1)
     exact hK _ _ ⟨_,putR_put a0 21 13 x 26 (by decide) (by decide) _,fun _=>hB6,lq i1 (lo 1 (by decide)),lq i2 (lo 2 (by decide)),lq i3 (lo 3 (by decide)),lq i4 (lo 4 (by decide)),lq i6 (lo 6 (by decide)),lq i7 (lo 7 (by decide)),lq i8 (lo 8 (by decide)),lq i9 (lo 9 (by decide)),lq i10 (lo 10 (by decide)),lq i12 (lo 12 (by decide)),fun _ h5=>lsd_no ls h5,fun _ _=>hown1,lnq (lo 11 (by decide)) n11,lnq (lo 13 (by decide)) n13⟩
    | 6,ho,hd,hui,ls,lo =>
     obtain rfl:=Option.some.inj ho
     have n7:=lsd_not h7_6 hui
     have n10:=lsd_not h10_7 n7
     have n11:=lsd_not h11_10 n10
     have n13:=lsd_not h13_11 n11
     have hB:=iB n13
     have hsz:=hB.size
     clear EX EV
     refine wpOp_step rfl (fun K' hK=>?_)
     rw [if_pos (by rfl)]
     go_simp
     exact hK _ _ ⟨_,putR_put a0 21 13 x 27 (by decide) (by decide) _,fun _=>hB,lq i1 (lo 1 (by decide)),lq i2 (lo 2 (by decide)),lq i3 (lo 3 (by decide)),lq i4 (lo 4 (by decide)),fun _=>rfl,lq i7 (lo 7 (by decide)),lq i8 (lo 8 (by decide)),lq i9 (lo 9 (by decide)),lq i10 (lo 10 (by decide)),lq i12 (lo 12 (by decide)),fun h h5=>o0 ((lo 0 (by decide)).symm.trans h) ((lo 5 (by decide)).symm.trans h5),fun h h11=>o5 ((lo 5 (by decide)).symm.trans h) ((lo 11 (by decide)).symm.trans h11),fun h _=>o11 ((lo 11 (by decide)).symm.trans h) n13,lnq (lo 13 (by decide)) n13⟩
    | 7,ho,hd,hui,ls,lo =>
     obtain rfl:=Option.some.inj ho
     have n10:=lsd_not h10_7 hui
     have n11:=lsd_not h11_10 n10
     have n13:=lsd_not h13_11 n11
     have l6:lsd l 6=true:=hd _ (List.mem_toArray.2 (.head _)) rfl
     have hB:=iB n13
     have hsz:=hB.size
     have E27:=(EX 27 (by decide) (by decide)).trans (i6 l6)
     have z0:=HS5.out W hB
     clear EX EV
     refine wpOp_step rfl (fun K' hK=>?_)
     rw [if_pos (by rfl)]
     go_simp
     exact hK _ _ ⟨_,putR_put a0 21 13 x 28 (by decide) (by decide) _,fun _=>hB,lq i1 (lo 1 (by decide)),lq i2 (lo 2 (by decide)),lq i3 (lo 3 (by decide)),lq i4 (lo 4 (by decide)),lq i6 (lo 6 (by decide)),fun _=>rfl,lq i8 (lo 8 (by decide)),lq i9 (lo 9 (by decide)),lq i10 (lo 10 (by decide)),lq i12 (lo 12 (by decide)),fun h h5=>o0 ((lo 0 (by decide)).symm.trans h) ((lo 5 (by decide)).symm.trans h5),fun h h11=>o5 ((lo 5 (by decide)).symm.trans h) ((lo 11 (by decide)).symm.trans h11),fun h _=>o11 ((lo 11 (by decide)).symm.trans h) n13,lnq (lo 13 (by decide)) n13⟩
    | 8,ho,hd,hui,ls,lo =>
     obtain rfl:=Option.some.inj ho
     have n9:=lsd_not h9_8 hui
     have n10:=lsd_not h10_9 n9
     have n11:=lsd_not h11_10 n10
     have n13:=lsd_not h13_11 n11
     have hB:=iB n13
     have hsz:=hB.size
     clear EX EV
     refine wpOp_step rfl (fun K' hK=>?_)
     rw [if_pos (by rfl)]
     go_simp
     exact hK _ _ ⟨_,putR_put a0 21 13 x 29 (by decide) (by decide) _,fun _=>hB,lq i1 (lo 1 (by decide)),lq i2 (lo 2 (by decide)),lq i3 (lo 3 (by decide)),lq i4 (lo 4 (by decide)),lq i6 (lo 6 (by decide)),lq i7 (lo 7 (by decide)),fun _=>rfl,lq i9 (lo 9 (by decide)),lq i10 (lo 10 (by decide)),lq i12 (lo 12 (by decide)),fun h h5=>o0 ((lo 0 (by decide)).symm.trans h) ((lo 5 (by decide)).symm.trans h5),fun h h11=>o5 ((lo 5 (by decide)).symm.trans h) ((lo 11 (by decide)).symm.trans h11),fun h _=>o11 ((lo 11 (by decide)).symm.trans h) n13,lnq (lo 13 (by decide)) n13⟩
    | 9,ho,hd,hui,ls,lo =>
     obtain rfl:=Option.some.inj ho
     have n10:=lsd_not h10_9 hui
     have n11:=lsd_not h11_10 n10
     have n13:=lsd_not h13_11 n11
     have l8:lsd l 8=true:=hd _ (List.mem_toArray.2 (.head _)) rfl
     have hB:=iB n13
     have hsz:=hB.size
     have E29:=(EX 29 (by decide) (by decide)).trans (i8 l8)
     clear EX EV
     refine wpOp_step rfl (fun K' hK=>?_)
     rw [if_pos (by rfl)]
     go_simp
     exact hK _ _ ⟨_,putR_put a0 21 13 x 30 (by decide) (by decide) _,fun _=>hB,lq i1 (lo 1 (by decide)),lq i2 (lo 2 (by decide)),lq i3 (lo 3 (by decide)),lq i4 (lo 4 (by decide)),lq i6 (lo 6 (by decide)),lq i7 (lo 7 (by decide)),lq i8 (lo 8 (by decide)),fun _=>rfl,lq i10 (lo 10 (by decide)),lq i12 (lo 12 (by decide)),fun h h5=>o0 ((lo 0 (by decide)).symm.trans h) ((lo 5 (by decide)).symm.trans h5),fun h h11=>o5 ((lo 5 (by decide)).symm.trans h) ((lo 11 (by decide)).symm.trans h11),fun h _=>o11 ((lo 11 (by decide)).symm.trans h) n13,lnq (lo 13 (by decide)) n13⟩
    | 10,ho,hd,hui,ls,lo =>
     obtain rfl:=Option.some.inj ho
     have n11:=lsd_not h11_10 hui
     have n13:=lsd_not h13_11 n11
     have l7:lsd l 7=true:=hd _ (List.mem_toArray.2 (.head _)) rfl
     have l9:lsd l 9=true:=hd _ (List.mem_toArray.2 (.tail _ (.head _))) rfl
     have hB:=iB n13
     have hsz:=hB.size
     have E28:=(EX 28 (by decide) (by decide)).trans (i7 l7)
     have E30:=(EX 30 (by decide) (by decide)).trans (i9 l9)
     clear EX EV
     refine wpOp_step rfl (fun K' hK=>?_)
     rw [if_pos (by rfl)]
     go_simp
     exact hK _ _ ⟨_,putR_put a0 21 13 x 31 (by decide) (by decide) _,fun _=>hB,lq i1 (lo 1 (by decide)),lq i2 (lo 2 (by decide)),lq i3 (lo 3 (by decide)),lq i4 (lo 4 (by decide)),lq i6 (lo 6 (by decide)),lq i7 (lo 7 (by decide)),lq i8 (lo 8 (by decide)),lq i9 (lo 9 (by decide)),fun _=>rfl,lq i12 (lo 12 (by decide)),fun h h5=>o0 ((lo 0 (by decide)).symm.trans h) ((lo 5 (by decide)).symm.trans h5),fun h h11=>o5 ((lo 5 (by decide)).symm.trans h) ((lo 11 (by decide)).symm.trans h11),fun h _=>o11 ((lo 11 (by decide)).symm.trans h) n13,lnq (lo 13 (by decide)) n13⟩
    | 11,ho,hd,hui,ls,lo =>
     obtain rfl:=Option.some.inj ho
     have n13:=lsd_not h13_11 hui
     have l5:lsd l 5=true:=hd _ (List.mem_toArray.2 (.head _)) rfl
     have l10:lsd l 10=true:=hd _ (List.mem_toArray.2 (.tail _ (.head _))) rfl
     have hB:=iB n13
     have hsz:=hB.size
     have hown:=o5 l5 hui
     refine wpOp_step rfl (fun K' hK=>?_)
     refine step_append_rows rfl (.tmp 26) (.tmp 31) 27 rfl (B0) 34 i0 _ 4 32 Tryz.underlying27 hi iz0 iz1 iz2 rfl (by decide) (x 26) _ _ (EV 26 (by decide) (by decide)) hown (if c'=k1 then some ⟨b,off,none⟩ else some ⟨b,off+k1*4,none⟩) (n - k1) (c' - k1) _ ((EV 31 (by decide) (by decide)).trans (i10 l10)) HL2.out (HSRC2.out _ (HBL.out _ hB)) HO2.out (by unfold maxLen;omega) (by omega) (by omega) ?_
     intro v2 w7 hown2 hg2
     have hB7:Below (B0) w6 w7:=hB.grown hg2 (by omega) (fun b hb=>(hown.lt b hb).1)
     exact hK _ _ ⟨_,putR_put a0 21 13 x 32 (by decide) (by decide) _,fun _=>hB7,lq i1 (lo 1 (by decide)),lq i2 (lo 2 (by decide)),lq i3 (lo 3 (by decide)),lq i4 (lo 4 (by decide)),lq i6 (lo 6 (by decide)),lq i7 (lo 7 (by decide)),lq i8 (lo 8 (by decide)),lq i9 (lo 9 (by decide)),lq i10 (lo 10 (by decide)),lq i12 (lo 12 (by decide)),fun _ h5=>lsd_no l5 ((lo 5 (by decide)).symm.trans h5),fun _ h11=>lsd_no ls h11,fun _ _=>hown2,lnq (lo 13 (by decide)) n13⟩
    | 12,ho,hd,hui,ls,lo =>
     obtain rfl:=Option.some.inj ho
     have n13:=lsd_not h13_12 hui
     have hB:=iB n13
     have hsz:=hB.size
     clear EX EV
     refine wpOp_step rfl (fun K' hK=>?_)
     rw [if_pos (by rfl)]
     go_simp
     exact hK _ _ ⟨_,putR_put a0 21 13 x 33 (by decide) (by decide) _,fun _=>hB,lq i1 (lo 1 (by decide)),lq i2 (lo 2 (by decide)),lq i3 (lo 3 (by decide)),lq i4 (lo 4 (by decide)),lq i6 (lo 6 (by decide)),lq i7 (lo 7 (by decide)),lq i8 (lo 8 (by decide)),lq i9 (lo 9 (by decide)),lq i10 (lo 10 (by decide)),fun _=>rfl,fun h h5=>o0 ((lo 0 (by decide)).symm.trans h) ((lo 5 (by decide)).symm.trans h5),fun h h11=>o5 ((lo 5 (by decide)).symm.trans h) ((lo 11 (by decide)).symm.trans h11),fun h _=>o11 ((lo 11 (by decide)).symm.trans h) n13,lnq (lo 13 (by decide)) n13⟩
    | 13,ho,hd,hui,ls,lo =>
     obtain rfl:=Option.some.inj ho
     have l12:lsd l 12=true:=hd _ (List.mem_toArray.2 (.head _)) rfl
     have l11:lsd l 11=true:=hd _ (List.mem_toArray.2 (.tail _ (.head _))) rfl
     have hB:=iB hui
     have hsz:=hB.size
     have l5:=h11_5 l11
     have E33:=(EX 33 (by decide) (by decide)).trans (i12 l12)
     have E32:=EX 32 (by decide) (by decide)
     have z0:=HS5.out W hB
     have zf:=HFX.out W hB
     have hown:=o11 l11 hui
     obtain ⟨A2,c2,hx32,-⟩:=HOW.out W (x 32) hown
     rw [hx32] at E32
     clear EX EV
     refine wpOp_step rfl (fun K' hK=>?_)
     rw [if_pos (by rfl)]
     go_simp
     exact hK _ _ ⟨x,rfl,fun h=>lsd_no ls h,lq i1 (lo 1 (by decide)),lq i2 (lo 2 (by decide)),lq i3 (lo 3 (by decide)),lq i4 (lo 4 (by decide)),lq i6 (lo 6 (by decide)),lq i7 (lo 7 (by decide)),lq i8 (lo 8 (by decide)),lq i9 (lo 9 (by decide)),lq i10 (lo 10 (by decide)),lq i12 (lo 12 (by decide)),fun _ h5=>lsd_no l5 ((lo 5 (by decide)).symm.trans h5),fun _ h11=>lsd_no l11 ((lo 11 (by decide)).symm.trans h11),fun _ h13=>lsd_no ls h13,fun _=>⟨W,hB,hown,by rw [hx32]⟩⟩
    | q+14,_,_,_,_,_=>omega
   ·
    intro l a W hsz hI hr
    have l0:=ready_nil hr hsz (j:=0) rfl (by simp)
    have l1:=ready_nil hr hsz (j:=1) rfl (by simp)
    have l2:=ready_nil hr hsz (j:=2) rfl (by simp [l1])
    have l3:=ready_nil hr hsz (j:=3) rfl (by simp)
    have l4:=ready_nil hr hsz (j:=4) rfl (by simp [l2,l3])
    have l5:=ready_nil hr hsz (j:=5) rfl (by simp [l0,l4])
    have l6:=ready_nil hr hsz (j:=6) rfl (by simp)
    have l7:=ready_nil hr hsz (j:=7) rfl (by simp [l6])
    have l8:=ready_nil hr hsz (j:=8) rfl (by simp)
    have l9:=ready_nil hr hsz (j:=9) rfl (by simp [l8])
    have l10:=ready_nil hr hsz (j:=10) rfl (by simp [l7,l9])
    have l11:=ready_nil hr hsz (j:=11) rfl (by simp [l5,l10])
    have l12:=ready_nil hr hsz (j:=12) rfl (by simp [l0,l1,l2,l3,l4,l5,l6,l7,l8,l9,l10,l11])
    have l13:=ready_nil hr hsz (j:=13) rfl (by simp [l0,l1,l2,l3,l4,l5,l6,l7,l8,l9,l10,l11,l12])
    obtain ⟨x,ha,-,-,-,-,-,-,-,-,-,-,-,-,-,-,iE⟩:=hI
    obtain ⟨W0,hB0,hO,hW⟩:=iE l13
    obtain ⟨A2,c2,hx32,hrq,hge⟩:=HOW.out W0 (x 32) hO
    rw [hx32] at hW
    have q1:Blk W (w.heap.size+1) #[.slice A2 L'.length c2,.int .i64 cur,.int .i64 mn,.bool fl] 29:=by
     have:=(HM6.out.1.below hB0 (by omega)).set 0 (.slice A2 (n - 1) c2)
     rw [← hW] at this
     rw [HLL.out.2.1]
     exact this
    have hb8:Below w.heap.size w W:=by
     rw [hW]
     exact (HM6.out.2.1.trans (hB0.mono (by omega))).setCell (Nat.le_succ _) _
    have hsz8:W.heap.size=W0.heap.size:=by rw [hW];simp [World.setCell]
    have hfar:∀ j,j≠w.heap.size+1→W.heap[j]?=W0.heap[j]?:=fun j hj=>by rw [hW];exact Below.heap_setCell W0 _ _ j hj
    have hge8:∀ a,A2=some a→g6<a.block:=fun a ha=>Nat.lt_of_lt_of_le HM6.out.2.2.2 (hge a ha)
    have hrq8:RQ W W.heap.size A2 c2 L':=by
     rw [hsz8]
     refine ⟨?_,hrq.2⟩
     rcases hrq.1 with h | ⟨b2,o2,t1,t2,t3⟩
     · exact .inl h
     ·
      refine .inr ⟨b2,o2,t1,t2,fun j hj=>(t3 j hj).of (hfar b2 ?_)⟩
      have:=hge _ t1
      have h4:B0≤b2:=this
      omega
    have hgr:w6.grownBy W (some (w.heap.size+1)):=⟨by rw [hW];exact hB0.os,by rw [hW];exact hB0.tape,by rw [hW];exact hB0.output,by rw [hsz8];exact hB0.size,fun j hj hne=>(hfar j (fun h=>hne (by rw [h]))).trans (hB0.block j (by rw [HBZ.out];exact hj))⟩
    have hown8:=HM6.out.2.2.1.kept hgr (.inr (fun h=>by have:=(HM6.out.2.2.1.lt _ h).1;omega))
    have hlen8:lenAt W (w.heap.size+1)<lenAt wr (w.heap.size+1):=by
     have s1:W.cell? ⟨w.heap.size+1,0,none⟩=some (.slice A2 L'.length c2):=Blk.cell q1 0
     have s2:wr.cell? ⟨w.heap.size+1,0,none⟩=some (.slice (some ⟨b,off,none⟩) L.length c'):=Blk.cell HR.out.2.2.1 0
     unfold lenAt
     rw [s1,s2]
     show L'.length<L.length
     rw [HLL.out.2.1,← HN.out]
     omega
    have hsz9:w.heap.size+2≤W.heap.size:=by have:=hB0.size;omega
    have hsel8:Sel X (O++[en]) L':=by rw [HLL.out.1,HLL.out.2.2];exact HSEL.out
    have hown9:W.ownsRow (w.heap.size+2) 34 4 (.slice (some ⟨g6,0,none⟩) (O.length+1) c6) (O++[en]).length ((O++[en]).flatMap ecl):=by
     rw [List.length_append,List.length_singleton,List.flatMap_append,List.flatMap_singleton]
     exact hown8
    simp [putR,List.mapIdx_cons] at ha
    subst ha
    have HEND:=Lib.hid (And.intro hsel8 (And.intro hown9 (And.intro q1 (And.intro hrq8 (And.intro hb8 (And.intro hsz9 (And.intro hge8 hlen8)))))))
    clear hW hx32 hrq hge q1 hb8 hsz8 hrq8 hO hB0 l0 l1 l2 l3 l4 l5 l6 l7 l8 l9 l10 l11 l12 l13 hr iE hgr hown8 hown9 hsel8 hsz9 hlen8 hge8 hfar
    go_wp2_with fail
    obtain ⟨s1,s2,s3,s4,s5,s6,s7,s8⟩:=HEND.out
    refine ⟨⟨O++[en],L',A2,c2,Lib.hid ⟨s1,?_,s3,s4,s5,s6,fun a ha _ h=>?_⟩⟩,s8⟩
    · exact s2
    ·
     have:=s7 a ha
     have h2:g6=a.block:=Option.some.inj h
     omega
end Go.Proofs.YtefekboacghnjaaGreat
namespace Go.Proofs.YtefekboacghnjaaGreat
open Go.RowKit Go.Maps
section
variable {w0 w w':World} {p q:Nat} {A:Option Addr} {c:Nat} {X X' Y Y':QS} {K K':Int} {B:List (Nat × Option Obj)}
structure RfRes (w w':World) (A A':Option Addr) (c':Nat) (Y Y':QS):Prop where
 res:RqRes w w' A A' c' Y'.L
 or:Y'.L≠[]→(A'=A∧Y.L≠[])∨∀ a,A'=some a→w.heap.size≤a.block
theorem RfRes.of {A':Option Addr} (hr:RqRes w w' A A' c Y'.L) (hl:Y'.L≠[]→Y.L≠[]):RfRes w w' A A' c Y Y':=⟨hr,fun hne=>hr.or.imp (fun h=>⟨h,hl hne⟩) id⟩
end
/- the document's deeds, as the queue's own -/
section
variable {X:QS}
theorem rf_put (A:Option Addr) (c:Nat) (X:QS) (hok:X.ok) (e:En) (he:e.num) (w:World) (hA:RQ w w.heap.size A c X.L) :
  Calls Tryz.prog 63 #[rqV A X.L.length c X.cur X.mn X.over,enV e] w fun r w'=>∃ A' c',r=.returned (.tuple #[rqV A' (putQ X e).L.length c' (putQ X e).cur (putQ X e).mn (putQ X e).over,.int .i64 (putC X e)])∧Hid (RfRes w w' A A' c' X (putQ X e)):=by
 refine (rput_any2 A c X e he w hA hok.len).mono fun r w' hp=>?_
 obtain ⟨A',c',h1,h2⟩:=hp
 refine ⟨A',c',h1,h2.out.1,fun hne=>?_⟩
 rcases h2.out.2 with e1 | e1
 ·
  rw [e1] at hne
  exact h2.out.1.or.imp (fun h=>⟨h,hne⟩) id
 · exact .inr e1
theorem drop_all (h:X.ok) (i:Int):dropL X.L i=(dropQ X i).L∧dropU X.L X.cur i=(dropQ X i).cur∧dropM X.L X.mn i=(dropQ X i).mn∧(dropQ X i).over=X.over∧dropV (X.get i)=.tuple #[enV (dropE X.L i),.int .i64 (dropR X.L i)]:=by
 unfold dropL dropU dropM dropE dropR dropQ
 cases hf:fnd X.L i with
 | none =>
  rw [find_no hf,if_neg (fnd_none_iff hf)]
  exact ⟨rfl,rfl,rfl,rfl,rfl⟩
 | some k =>
  rw [find_is hf,if_pos (fnd_mem hf)]
  simp only
  rw [drop_is h.ids hf]
  exact ⟨rfl,rfl,rfl,rfl,rfl⟩
theorem rf_drop (A:Option Addr) (c:Nat) (X:QS) (hok:X.ok) (i:Int) (w:World) (hA:RQ w w.heap.size A c X.L) :
  Calls Tryz.prog 66 #[rqV A X.L.length c X.cur X.mn X.over,.int .i64 i] w fun r w'=>∃ A' c',r=.returned (.tuple #[rqV A' (dropQ X i).L.length c' (dropQ X i).cur (dropQ X i).mn (dropQ X i).over,enV (dropE X.L i),.int .i64 (dropR X.L i)])∧Hid (RfRes w w' A A' c' X (dropQ X i)):=by
 obtain ⟨e1,e2,e3,e4,_⟩:=drop_all hok i
 rw [← e1,← e2,← e3,e4]
 refine (rdrop_any A c X.L X.cur X.mn X.over i w hA hok.len).mono fun r w' hp=>?_
 obtain ⟨A',c',h1,h2⟩:=hp
 refine ⟨A',c',h1,RfRes.of (by rw [← e1];exact h2.out) fun hne hn=>hne ?_⟩
 rw [← e1]
 unfold dropL
 rw [hn]
 rfl
theorem weigh_len (h:X.ok) (hl:X.led) (i:Int) (wn:Nat):(weighQ X i wn).L.length=X.L.length:=by
 rw [← (weigh_is h hl i wn).1]
 unfold weighL
 split
 · rfl
 ·
  split
  · exact List.length_set
  · rfl
theorem rf_weigh (A:Option Addr) (c:Nat) (X:QS) (hok:X.ok) (hl:X.led) (i:Int) (wn:Nat) (hwn:wn<18446744073709551616) (w:World) (hA:RQ w w.heap.size A c X.L) :
  Calls Tryz.prog 68 #[rqV A X.L.length c X.cur X.mn X.over,.int .i64 i,.int .u64 wn] w fun r w'=>∃ A' c',r=.returned (.tuple #[rqV A' (weighQ X i wn).L.length c' (weighQ X i wn).cur (weighQ X i wn).mn (weighQ X i wn).over,.int .i64 (weighC X i wn)])∧Hid (RfRes w w' A A' c' X (weighQ X i wn)):=by
 obtain ⟨e1,e2,e3,e4,e5⟩:=weigh_is hok hl i wn
 rw [weigh_len hok hl,e4,e5,← e2,← e3]
 refine (rweigh_any A c X.L X.cur X.mn X.over i wn hwn hok.ents w hA (by have:=hok.len;omega)).mono fun r w' hp=>?_
 obtain ⟨A',c',h1,h2⟩:=hp
 refine ⟨A',c',h1,RfRes.of (by rw [← e1];exact h2.out) fun hne hn=>hne ?_⟩
 have:=weigh_len hok hl i wn
 rw [hn] at this
 exact List.eq_nil_of_length_eq_zero this
theorem charge_len (h:X.ok) (ns:Nat):(chargeQ X ns).L.length=X.L.length:=by
 rw [← (charge_is h ns).1]
 unfold chargeL
 split
 · rfl
 ·
  split
  · rfl
  · exact List.length_set
theorem rf_charge (A:Option Addr) (c:Nat) (X:QS) (hok:X.ok) (ns:Nat) (hns:ns<18446744073709551616) (w:World) (hA:RQ w w.heap.size A c X.L) :
  Calls Tryz.prog 69 #[rqV A X.L.length c X.cur X.mn X.over,.int .u64 ns] w fun r w'=>∃ A' c',r=.returned (.tuple #[rqV A' (chargeQ X ns).L.length c' (chargeQ X ns).cur (chargeQ X ns).mn (chargeQ X ns).over,.int .i64 (chargeC X ns)])∧Hid (RfRes w w' A A' c' X (chargeQ X ns)):=by
 obtain ⟨e1,e2,e3,e4,e5⟩:=charge_is hok ns
 rw [charge_len hok,e5,← e2,← e3,← e4]
 refine (rcharge_any A c X.L X.cur X.mn X.over ns hns hok.ents w hA (by have:=hok.len;omega)).mono fun r w' hp=>?_
 obtain ⟨A',c',h1,h2⟩:=hp
 refine ⟨A',c',h1,RfRes.of (by rw [← e1];exact h2.out) fun hne hn=>hne ?_⟩
 have:=charge_len hok ns
 rw [hn] at this
 exact List.eq_nil_of_length_eq_zero this
theorem rf_pick (A:Option Addr) (c:Nat) (X:QS) (hok:X.ok) (gran:Int) (w:World) (hA:RQ w w.heap.size A c X.L) :
  Calls Tryz.prog 72 #[rqV A X.L.length c X.cur X.mn X.over,.int .i64 gran] w fun r w'=>∃ A' c',r=.returned (.tuple #[rqV A' (pickQ X gran).L.length c' (pickQ X gran).cur (pickQ X gran).mn (pickQ X gran).over,.int .i64 (X.pickI gran)])∧Hid (RfRes w w' A A' c' X (pickQ X gran)) :=
 (rpick_any A c X hok gran w hA (by have:=hok.len;omega)).mono fun r w' hp=>⟨A,c,hp.1,RfRes.of (RqRes.same hA hp.2) fun h=>h⟩
theorem rf_yield (A:Option Addr) (c:Nat) (X:QS) (hok:X.ok) (gran:Int) (w:World) (hA:RQ w w.heap.size A c X.L) :
  Calls Tryz.prog 71 #[rqV A X.L.length c X.cur X.mn X.over,.int .i64 gran] w fun r w'=>∃ A' c',r=.returned (.tuple #[rqV A' (yieldQ X gran).L.length c' (yieldQ X gran).cur (yieldQ X gran).mn (yieldQ X gran).over,.int .i64 (X.yieldI gran)])∧Hid (RfRes w w' A A' c' X (yieldQ X gran)) :=
 (ryield_any A c X hok gran w hA (by have:=hok.len;omega)).mono fun r w' hp=>⟨A,c,hp.1,RfRes.of (RqRes.same hA hp.2) fun h=>h⟩
theorem led_weigh (hok:X.ok) (hl:X.led) (i:Int) (wn:Nat):(weighQ X i wn).led:=by
 unfold weighQ
 cases hg:X.get i with
 | none=>exact hl
 | some e =>
  simp only
  split
  · exact hl
  · exact led_of hl (ksOf_set_same hok.ids (QS.get_some hg).1 rfl) rfl
theorem led_charge (hl:X.led) (ns:Nat):(chargeQ X ns).led:=by
 unfold chargeQ
 split
 · exact hl
 ·
  split
  · exact hl
  · exact QS.raise_led _
theorem led_pick (hl:X.led) (gran:Int):(pickQ X gran).led:=led_of hl rfl rfl
theorem led_yield (hl:X.led) (gran:Int):(yieldQ X gran).led:=led_of hl rfl rfl
end
end Go.Proofs.YtefekboacghnjaaGreat
