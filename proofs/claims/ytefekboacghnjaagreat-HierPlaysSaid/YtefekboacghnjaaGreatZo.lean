/-
  HierPlays: whatever is linked, moved, put, dropped, weighed, stopped, charged, picked and yields: the answers, and all queues: whatever deeds.
-/
import Derived.Test.YtefekboacghnjaaGreatPp
import Derived.Test.YtefekboacghnjaaGreatPq
import Derived.Test.YtefekboacghnjaaGreatMn
import Derived.Test.YtefekboacghnjaaGreatPl
import Derived.Great.FillDense
import Derived.Laws.Tables
set_option linter.unusedVariables false
set_option linter.unusedSimpArgs false
namespace Go.Proofs.YtefekboacghnjaaGreat
open Go.ChangeShapes Go.WideShapes Go.ChangeAt Go.RowKit Go.Deep Go.Maps
theorem built_two {P:Program} {t n:Nat} (h1:(P.info? t).bind (fun it=>it.zero.map fun z=>z.cells.size)=some (n+1))
  (h2:(match P.underlying t with | some (.struct fields)=>fields.toList.mapM (fun f=>(P.info? f.type).map fun i=>(f.offset,i.size)) | _=>none)=some [(0,1),(1,n)])
  (v:Value) (hv:v.cells=#[v]) (cs:List Value) (hc:cs.length=n):P.built t [(0,v),(1,.agg cs.toArray)]=some (v::cs).toArray:=by
 unfold Program.built
 cases hi:P.info? t with
 | none=>rw [hi] at h1;simp at h1
 | some it =>
  cases hz:it.zero with
  | none=>rw [hi] at h1;simp [hz] at h1
  | some z =>
   have hs:z.cells.size=n+1:=by rw [hi] at h1;simpa [hz] using h1
   cases hu:P.underlying t with
   | none=>rw [hu] at h2;simp at h2
   | some d =>
    cases d with
    | struct fields =>
     rw [hu] at h2
     dsimp only at h2 ⊢
     rw [hz,h2]
     dsimp only
     obtain ⟨g1,g2⟩:=Great.foldl_set 0 [v] 0 z.cells
     obtain ⟨g3,g4⟩:=Great.foldl_set 1 cs 0 (([v].zipIdx 0).foldl (fun cs x=>cs.setIfInBounds (0+x.2) x.1) z.cells)
     have p0:([(0,1),(1,n)]:List (Nat × Nat)).toArray[0]?=some (0,1):=rfl
     have p1:([(0,1),(1,n)]:List (Nat × Nat)).toArray[1]?=some (1,n):=rfl
     have e1:(v.cells.zipIdx.foldl (fun cs (c,j)=>cs.setIfInBounds (0+j) c) z.cells)=([v].zipIdx 0).foldl (fun cs x=>cs.setIfInBounds (0+x.2) x.1) z.cells:=by
      rw [hv];rfl
     have e2:∀ z2:Array Value,((Value.agg cs.toArray).cells.zipIdx.foldl (fun cs (c,j)=>cs.setIfInBounds (1+j) c) z2)=(cs.zipIdx 0).foldl (fun cs x=>cs.setIfInBounds (1+x.2) x.1) z2:=fun z2=>by
      show (cs.toArray.zipIdx.foldl _ z2)=_
      rw [← Array.foldl_toList,Array.toList_zipIdx]
     unfold Instr.fill
     rw [p0]
     dsimp only
     rw [if_neg (by rw [hv,hs];simp),e1]
     unfold Instr.fill
     rw [p1]
     dsimp only
     rw [if_neg (by rw [g1,hs];have e:(Value.agg cs.toArray).cells.size=n:=hc;rw [e];simp;omega),e2]
     unfold Instr.fill
     congr 1
     refine Array.ext_getElem? fun k=>?_
     rw [g4 k,g2 k,g1,hs]
     by_cases hk:k=0
     ·
      subst hk
      rw [if_neg (by omega),if_pos ⟨by omega,by simp,by omega⟩]
      rfl
     ·
      by_cases hk2:k<n+1
      ·
       rw [if_pos ⟨by omega,by omega,hk2⟩]
       obtain ⟨j,rfl⟩:∃ j,k=j+1:=⟨k - 1,by omega⟩
       rw [List.getElem?_toArray,List.getElem?_cons_succ]
       congr 1
      · rw [if_neg (by omega),if_neg (by simp;omega),Array.getElem?_eq_none (by omega),Array.getElem?_eq_none (by simp;omega)]
    | _=>rw [hu] at h2;simp at h2
theorem info_both:(Tryz.prog.info? 41).bind (fun it=>it.zero.map fun z=>z.cells.size)=some (322+1):=by kernel_rfl
theorem places_both:(match Tryz.prog.underlying 41 with | some (.struct fields)=>fields.toList.mapM (fun f=>(Tryz.prog.info? f.type).map fun i=>(f.offset,i.size)) | _=>none)=some [(0,1),(1,322)]:=by kernel_rfl
theorem built_both (h:Nat) (X:XH):Tryz.prog.built 41 [(0,.pointer (some ⟨h,0,none⟩)),(1,.agg (xcells X).toArray)]=some (bcells h X):=by
 rw [built_two info_both places_both _ rfl _ (xcells_len X)]
 unfold bcells
 rw [List.append_nil]
 rfl
theorem wpList_build_is {P:Program} {ops:Array Oper} {rest:List Oper} {o:Oper} {a:Act} {w:World} {Q:Exit→Act→World→Prop} (hg:o.guard=none) (t:TypeId) (parts:Array (Nat × Operand)) (ho:o.op=.build t parts)
  (vs:List (Nat × Value)) (hp:(parts.map fun (i,x)=>(i,a.eval x)).toList=vs) (cells:Array Value) (hb:P.built t vs=some cells) (h:wpList P ops Q rest (a.put o.dst (.agg cells)) w):wpList P ops Q (o::rest) a w:=by
 subst hp
 exact wpList_build hg t parts ho (by rw [hb];rfl) (by rw [hb];exact h)
namespace hierPlays
theorem start {w0 w2 w3:World} {h:Nat} {c g:Int} {X:XH} (H:HNew w0 w2 h (newH c g) 1) (b:Below w2.heap.size w2 w3) (a:XAt w3 (newH c g) X) (e:∀ i,i<32→(X.g i).q.L=[]) :
  RH w0 (w3.alloc (.cells (bcells h X) 41)) w3.heap.size h (newH c g) (newH c g) X X 1 []:=by
 have hB:Below w2.heap.size w2 (w3.alloc (.cells (bcells h X) 41)):=b.alloc b.size _
 obtain ⟨F,h1,h2,h3⟩:=H.ex
 have hno:∀ ad,XRow X ad→False:=fun ad ⟨i,hi,_,h⟩=>h (e i hi)
 exact ⟨⟨F,h1.below hB,h3,fun hm=>by have:=h1.lt _ hm;have:=b.size;omega,fun z hz=>by simp at hz,fun ad ha=>(hno ad ha).elim⟩,h2.trans (hB.mono h2.size),Nat.le_trans h2.size b.size,Blk.new _ _ _,a.below ((Below.refl _ _).alloc (Nat.le_refl _) _),fun ad ha=>(hno ad ha).elim,fun z hz=>by simp at hz⟩
set_option maxRecDepth 100000 in
set_option maxHeartbeats 64000000 in
theorem walk (cr gr:Int) (A:Option Addr) (xs:List Dh) (cc:Nat) (_c1:-9223372036854775808≤cr) (_c2:cr≤9223372036854775807) (g1:-9223372036854775808≤gr) (g2:gr≤9223372036854775807) (w:World) (hU:RowH w w.heap.size A xs) (hX:∀ x ∈ xs,x.num) (hL:xs.length≤9223372036854775807) :
  Calls Tryz.prog 3 #[.int .i64 cr,.int .i64 gr,.slice A xs.length cc] w fun e w'=>e=.returned (.bool true)∧Below w.heap.size w w':=by
 have HU:=Lib.hid hU
 have HX:=Lib.hid hX
 have HG:=Lib.hid (And.intro g1 g2)
 clear hU hX g1 g2 _c1 _c2
 obtain ⟨n,hn⟩:∃ n,n=xs.length:=⟨_,rfl⟩
 rw [← hn] at hL ⊢
 have HN:=Lib.hid hn
 clear hn
 go_enter Tryz.func3,Tryz.ntmps3
 go_wp2_with fail
 refine (awake20 _).mono ?_
 rintro r w1 ⟨rfl,hb1⟩
 have HB1:=Lib.hid hb1
 clear hb1
 go_wp2_with fail
 refine (hn_new cr gr _).mono ?_
 rintro r w2 ⟨h,rfl,H2⟩
 go_wp2_with fail
 refine (xnew_any cr gr _).mono ?_
 rintro r w3 ⟨X,rfl,H3⟩
 have HST:=Lib.hid (start H2.out.1 H3.out.2.1 H3.out.1 H3.out.2.2)
 clear H2 H3
 go_upto_region 3 with (refine wpList_build_is rfl 41 #[(0,.tmp 15),(1,.tmp 18)] rfl [(0,.pointer (some ⟨h,0,none⟩)),(1,.agg (xcells X).toArray)] ?_ (bcells h X) (built_both h X) ?_;(simp only [List.map_toArray,List.map_cons,List.map_nil];rfl))
 obtain ⟨w4,hw4⟩:∃ w4,w4=w3.alloc (.cells (bcells h X) 41):=⟨_,rfl⟩
 rw [← hw4] at HST ⊢
 obtain ⟨p,hp⟩:∃ p,p=w3.heap.size:=⟨_,rfl⟩
 rw [← hp] at HST ⊢
 clear hw4 hp
 have cp:=HST.out.ptr
 go_wp2_with fail
 clear cp
 go_loopw [9] (fun s9 wr=>∃ (k:Nat) (S:HS) (X:XH),k≤n∧k≤80∧s9=.int .i64 k∧Hid (RH w1 wr p h S S X X (1+10000*k) []∧HGood S∧S.gran=gr)) (fun s9 _=>n - (intOf s9).toNat)
 case atStart=>exact ⟨0,newH cr gr,X,by omega,by omega,rfl,Lib.hid ⟨HST.out,new_good cr gr,rfl⟩⟩
 case round =>
  obtain ⟨k,S,X,hk,hk80,rfl,HR⟩:=hrel
  clear HST
  by_cases hgo:k<n∧k<80
  ·
   obtain ⟨hlt,h80⟩:=hgo
   have hk1:k<xs.length:=by rw [← HN.out];exact hlt
   obtain ⟨b,off,rfl,hb,hcc⟩:=HU.out.at_ (by omega)
   have hBw:=HB1.out.trans (HR.out.1.bel.mono HB1.out.size)
   have hda:=(hcc k hk1).below hBw hb
   have hxn:=HX.out (xs.getD k Dh.nil) (by rw [List.getD_eq_getElem?_getD,List.getElem?_eq_getElem hk1];exact List.getElem_mem _)
   clear hcc hBw hk1
   generalize xs.getD k Dh.nil=d at *
   have M:=do_any HR.out.1 HR.out.2.1 (show (1+10000*(k:Int))+10000≤1000000000000000 by omega) d hxn (by rw [HR.out.2.2];exact HG.out.1) (by rw [HR.out.2.2];exact HG.out.2)
   obtain ⟨kd,da,db,⟨ei,ew,ev,er⟩,dn,di⟩:=d
   have x0:wr.cell? ⟨b,off+k*9,none⟩=some (.int .i64 kd):=hda 0 _ rfl
   have x1:wr.cell? ⟨b,off+k*9+1,none⟩=some (.int .i64 da):=hda 1 _ rfl
   have x2:wr.cell? ⟨b,off+k*9+2,none⟩=some (.int .i64 db):=hda 2 _ rfl
   have x3:wr.cell? ⟨b,off+k*9+3,none⟩=some (.int .i64 ei):=hda 3 _ rfl
   have x4:wr.cell? ⟨b,off+k*9+4,none⟩=some (.int .u64 ew):=hda 4 _ rfl
   have x5:wr.cell? ⟨b,off+k*9+5,none⟩=some (.int .i64 ev):=hda 5 _ rfl
   have x6:wr.cell? ⟨b,off+k*9+6,none⟩=some (.int .u64 er):=hda 6 _ rfl
   have x7:wr.cell? ⟨b,off+k*9+7,none⟩=some (.int .u64 dn):=hda 7 _ rfl
   have x8:wr.cell? ⟨b,off+k*9+8,none⟩=some (.bool di):=hda 8 _ rfl
   have MD:=Lib.hid (show Calls Tryz.prog 7 #[.pointer (some ⟨p,0,none⟩),.agg #[.int .i64 kd,.int .i64 da,.int .i64 db,.int .i64 ei,.int .u64 ew,.int .i64 ev,.int .u64 er,.int .u64 dn,.bool di]] wr fun r w'=>r=.returned (.bool true)∧∃ S' X',Hid (RH w1 w' p h S' S' X' X' (1+10000*(k:Int)+10000) []∧HGood S'∧S'.gran=S.gran) from M)
   have HSG:=Lib.hid HR.out.2.2
   have z1:decide ((k:Int)<(n:Int))=true:=decide_eq_true (by omega)
   have z2:decide (k<n)=true:=decide_eq_true hlt
   have z3:decide ((k:Int)<80)=true:=decide_eq_true (by omega)
   have z4:decide (k<80)=true:=decide_eq_true h80
   have j0:(0:Int)≤(k:Int):=Int.natCast_nonneg _
   have j1:(k:Int)<(n:Int):=by omega
   have HLT:=Lib.hid (And.intro hlt h80)
   clear hlt h80 hxn M hda HR
   go_wp2_with fail
   refine MD.out.mono ?_
   rintro r w6 ⟨rfl,S',X',H6⟩
   clear MD x0 x1 x2 x3 x4 x5 x6 x7 x8
   go_wp2_with fail
   refine (bsame_any H6.out.1 H6.out.2.1).mono ?_
   rintro r w7 ⟨rfl,H7⟩
   have HE:=Lib.hid (show RH w1 w7 p h S' S' X' X' (1+10000*((k+1:Nat):Int)) []∧HGood S'∧S'.gran=gr from ⟨H7.out.mono (by push_cast;omega) (by have:=HLT.out.2;push_cast;omega),H6.out.2.1,H6.out.2.2.trans HSG.out⟩)
   clear H6 H7 HSG
   go_wp2_with fail
   go_roundw
   case rel=>exact ⟨k+1,S',X',by have:=HLT.out.1;omega,by have:=HLT.out.2;omega,by go_num,HE⟩
   case measure=>simp [intOf];omega
  ·
   have hex:(decide ((k:Int)<(n:Int))=true∧decide (k<n)=true∧decide ((k:Int)<80)=false∧decide (k<80)=false)∨(decide ((k:Int)<(n:Int))=false∧decide (k<n)=false):=by
    by_cases hlt:k<n
    · exact .inl ⟨decide_eq_true (by omega),decide_eq_true hlt,decide_eq_false (by omega),decide_eq_false (by omega)⟩
    · exact .inr ⟨decide_eq_false (by omega),decide_eq_false hlt⟩
   have HBEL:=Lib.hid (HB1.out.trans (HR.out.1.bel.mono HB1.out.size))
   clear HU HX HN HB1 HR
   rcases hex with ⟨z1,z2,z3,z4⟩ | ⟨z1,z2⟩
   all_goals
    go_wp2_with fail
    go_ret
    exact ⟨rfl,HBEL.out⟩
set_option maxRecDepth 100000 in
theorem lifted (os:Os) (started:os.Started) (H:Type) (enc:TypeId × Value→H) :
  ReturnsInHanded {} Tryz.checked os 3 .any (Rows.hierPlaysSpec.pre6 enc Tryz.prog Tryz.f3 Rows.hierPlaysRow.domain false) (Rows.hierPlaysSpec.post enc Tryz.prog Tryz.f3 false true false false):=by
 refine returnsInHanded_of_change (C:=Tryz.checked) own started (by as_aux_lemma=>kernel_rfl) Tryz.func3
  (ChangeSpec.witness6 (enc:=enc) (C:=Tryz.checked) false ⟨#[],#[.int .i64 0,.int .i64 0,.slice none 0 0],[]⟩ 8 (by as_aux_lemma=>kernel_rfl) (by as_aux_lemma=>kernel_rfl) (by as_aux_lemma=>kernel_rfl) (by as_aux_lemma=>kernel_rfl)) ?_
 intro W base args ds gs before hval0 hW hcnd _
 have hval:∀ (j:Nat) t v,Tryz.f3.params[j]?=some t→args[j]?=some v→Value.okWide Tryz.prog W .any base t v:=hval0
 have hW':=hW
 obtain ⟨p,q,hA0,hV,rfl,hfz,hnd⟩:=hW
 have hA:DataW.TrodAll enc Tryz.prog W 0 (fun _=>true) true Tryz.f3.params.toList args.toList ds p:=hA0
 rw [Tryz.params3] at hA hval
 obtain ⟨v0,vs0,d0,ds0,p0,q0,hargs,rfl,rfl,h0,r0⟩:=trodAll_cons hA
 obtain ⟨v1,vs1,d1,ds1,p1,q1,rfl,rfl,rfl,h1,r1⟩:=trodAll_cons r0
 obtain ⟨v2,vs2,d2,ds2,p2,q2,rfl,rfl,rfl,h2,r2⟩:=trodAll_cons r1
 obtain ⟨rfl,rfl,rfl⟩:=trodAll_nil r2
 obtain rfl:args=#[v0,v1,v2]:=by cases args;simp_all
 obtain ⟨a0,rfl,b0,c0⟩:=open_i64 Tryz.underlying2 (hval 0 2 v0 rfl rfl) h0
 obtain ⟨a1,rfl,b1,c1⟩:=open_i64 Tryz.underlying2 (hval 1 2 v1 rfl rfl) h1
 obtain ⟨A2,axs2,ac2,rfl,Ud2,Xd2,Ld2⟩:=open_deeds20 (hval 2 22 v2 rfl rfl) h2
 refine (walk a0 a1 A2 axs2 ac2 b0 c0 b1 c1 W Ud2 Xd2 Ld2).mono fun e W' ⟨he,bel⟩=>?_
 subst he
 exact ⟨_,rfl,law_post laidOut (by as_aux_lemma=>kernel_rfl) rfl Tryz.underlying4 rfl (fun ds hds=>by
  match ds,hds with
  | [x0,x1,x2],_=>rfl) hW' bel⟩
theorem closed:joinedFacts Tryz.prog 3 Tryz.f3 Rows.hierPlaysSpec Rows.hierPlaysRow=true:=by
 unfold joinedFacts
 simp only [Bool.and_eq_true]
 exact ⟨⟨⟨⟨⟨⟨⟨⟨⟨⟨⟨⟨⟨⟨⟨⟨⟨⟨⟨⟨⟨⟨⟨⟨⟨⟨⟨⟨⟨⟨⟨(by as_aux_lemma=>kernel_rfl),laidOut⟩,mapsRowedT⟩,(by as_aux_lemma=>kernel_rfl)⟩,(by as_aux_lemma=>kernel_rfl)⟩,rfl⟩,stopsN⟩,rfl⟩,stopKnobsN⟩,(by as_aux_lemma=>kernel_rfl)⟩,(by as_aux_lemma=>kernel_rfl)⟩,(by as_aux_lemma=>kernel_rfl)⟩,(by as_aux_lemma=>kernel_rfl)⟩,(by as_aux_lemma=>kernel_rfl)⟩,(by as_aux_lemma=>kernel_rfl)⟩,(by as_aux_lemma=>kernel_rfl)⟩,(by as_aux_lemma=>kernel_rfl)⟩,(by as_aux_lemma=>kernel_rfl)⟩,(by as_aux_lemma=>kernel_rfl)⟩,(by as_aux_lemma=>kernel_rfl)⟩,(by as_aux_lemma=>kernel_rfl)⟩,(by as_aux_lemma=>kernel_rfl)⟩,plainKeysT⟩,rfl⟩,stopsHeardT⟩,mayEnterT⟩,liftedT⟩,makeT⟩,(by as_aux_lemma=>kernel_rfl)⟩,(by as_aux_lemma=>kernel_rfl)⟩,(by as_aux_lemma=>kernel_rfl)⟩,(by as_aux_lemma=>kernel_rfl)⟩
theorem over:Rows.hierPlaysRow.holds Tryz.pinned (OpenSpec.ofChange Rows.hierPlaysSpec) :=
 OpenClaim.holds_of_wide 3 Tryz.f3 rfl rfl rfl rfl rfl rfl rfl ⟨rfl,rfl,rfl,rfl,rfl⟩ rfl rfl rfl rfl rfl (by as_aux_lemma=>kernel_rfl) Tryz.func3 closed
  (of_decide_eq_true (by as_aux_lemma=>kernel_rfl)) (by unfold Func.isWrapper;first | (rw [if_pos (by decide +kernel)];as_aux_lemma=>kernel_rfl) | (rw [if_neg (by decide +kernel)];exact ⟨rfl,rfl⟩))
  (fun os started H enc _=>lifted os started H enc)
theorem proved:Rows.HierPlaysSaid:=over
#print axioms proved
end hierPlays
end Go.Proofs.YtefekboacghnjaaGreat
