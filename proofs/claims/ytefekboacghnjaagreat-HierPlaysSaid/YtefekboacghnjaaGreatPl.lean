/-
  doleref20.Flag.
  doleref20.New.
-/
import Derived.Test.YtefekboacghnjaaGreatPg
import Derived.Test.YtefekboacghnjaaGreatPh
import Derived.LoopTactic
import Derived.Deep.CutBlock
import Derived.Test.YtefekboacghnjaaGreatPk
import Derived.Test.YtefekboacghnjaaGreatPj
set_option linter.unusedVariables false
set_option linter.unusedSimpArgs false
namespace Go.Proofs.YtefekboacghnjaaGreat
open Go.RowKit Go.Maps
section
variable {w:World} {S:HS} {X:XH}
set_option maxRecDepth 100000 in
set_option maxHeartbeats 16000000 in
theorem xflag_any (a:XAt w S X) (T:HTree S) :
  Calls Tryz.prog 29 #[xV X] w fun r w'=>r=.returned (.bool (flagB S 32))∧Below w.heap.size w w':=by
 obtain ⟨W1,hW1,hB,hbx,_⟩:=xbox w X
 have HW:=Lib.hid hW1
 have HP:=Lib.hid (And.intro a (And.intro T (And.intro (xinf X) hbx)))
 clear a T hbx
 show Calls Tryz.prog _ #[.agg (xcells X).toArray] w _
 go_enter Tryz.func29,Tryz.ntmps29
 go_upto_region 2 with (fail)
 rw [← hW1]
 have HB:=Lib.hid hB
 clear hW1 hB
 go_wp2_with fail
 go_loopw [3,4] (fun s3 s4 wr=>∃ k:Nat,k≤32∧s4=.int .i64 (k:Int)∧s3=.bool (flagB S k)∧Hid (Below W1.heap.size W1 wr)) (fun _ s4 _=>32 - (intOf s4).toNat)
 case atStart=>exact ⟨0,by omega,rfl,rfl,Lib.hid (Below.refl _ _)⟩
 case round =>
  obtain ⟨k,hk,rfl,rfl,HK⟩:=hrel
  by_cases hlt:k<32
  ·
   have k0:(0:Int)≤(k:Int):=by omega
   have k2:(k:Int)<32:=by omega
   have k5:decide (k<32)=true:=decide_eq_true hlt
   have k6:decide ((k:Int)<32)=true:=decide_eq_true k2
   have hbw:=HP.out.2.2.2.below HK.out
   obtain ⟨y0,y1,y2,y3⟩:=hbw.q hlt
   obtain ⟨f2,hf2⟩:∃ f2,f2=flagB S (k+1):=⟨_,rfl⟩
   have HF2:=Lib.hid hf2
   have hstep:f2=(flagB S k || overG S k):=hf2
   generalize flagB S k=f1 at *
   have HR:=Lib.hid hbw.range
   clear y0 y1 y2 hf2
   cases f1 with
   | true =>
    have HT:=Lib.hid (show f2=true from hstep)
    clear hstep hbw
    go_wp2_with fail
    go_roundw
    case rel=>exact ⟨k+1,by omega,by go_num,by rw [← HF2.out,HT.out],HK⟩
    case measure=>simp [intOf];omega
   | false =>
    have MT:=fun W=>xthere_any HP.out.1 HP.out.2.1 (k:Int) W
    rw [S.at_nat hlt] at MT
    have hov:f2=((S.G k).isSome && (X.g k).q.over):=by
     rw [hstep]
     unfold overG
     cases hx:S.G k with
     | none=>rfl
     | some x=>rw [(HP.out.1.is k x hx).2.1];simp
    generalize (S.G k).isSome=sm at *
    obtain ⟨ov,hov2⟩:∃ ov,(X.g k).q.over=ov:=⟨_,rfl⟩
    rw [hov2] at hov
    have HOV:=Lib.hid hov2
    clear hov2
    have MT:=Lib.hid MT
    have HB0:=Lib.hid hbw
    clear hstep hbw
    cases sm with
    | false =>
     have HT:=Lib.hid (show f2=false from hov)
     clear hov y3
     go_wp2_with (refine wpList_wload_mid rfl 38 (.tmp 1) rfl w.heap.size 0 rfl (xcells X) _ HR.out Tryz.underlying38 rfl HP.out.2.2.1 ?_)
     refine (MT.out _).mono ?_
     rintro r w2 ⟨rfl,hb⟩
     have HK2:=Lib.hid (HK.out.trans (hb.mono HK.out.size))
     clear hb
     go_wp2_with fail
     go_roundw
     case rel=>exact ⟨k+1,by omega,by go_num,by rw [← HF2.out,HT.out],HK2⟩
     case measure=>simp [intOf];omega
    | true =>
     have HT:=Lib.hid (show f2=ov from hov)
     clear hov y3
     go_wp2_with (refine wpList_wload_mid rfl 38 (.tmp 1) rfl w.heap.size 0 rfl (xcells X) _ HR.out Tryz.underlying38 rfl HP.out.2.2.1 ?_)
     refine (MT.out _).mono ?_
     rintro r w2 ⟨rfl,hb⟩
     have HK2:=Lib.hid (HK.out.trans (hb.mono HK.out.size))
     have y3:=((HB0.out.below hb).q hlt).2.2.2
     rw [HOV.out] at y3
     clear hb
     go_wp2_with fail
     go_roundw
     case rel=>exact ⟨k+1,by omega,by go_num,by rw [← HF2.out,HT.out],HK2⟩
     case measure=>simp [intOf];omega
  ·
   obtain rfl:k=32:=by omega
   go_wp2_with fail
   go_ret
   exact ⟨rfl,HB.out.trans (HK.out.mono HB.out.size)⟩
end
end Go.Proofs.YtefekboacghnjaaGreat
namespace Go.Proofs.YtefekboacghnjaaGreat
open Go.RowKit Go.Maps
def newXG (d:Bool):XG:=⟨none,0,if d then emptyQ else ⟨[],0,0,false⟩,if d then -1 else 0,⟨0,0,0,0⟩,false⟩
def newX (c g:Int) (i:Nat):XH:=⟨c,g,fun j=>newXG (decide (j<i))⟩
theorem newX_zero:Tryz.zeroCells38=(xcells (newX 0 0 0)).toArray:=by kernel_rfl
theorem newX_step (c g:Int) (i:Nat):((newX c g i).put i { (newX c g i).g i with up:=-1 }).put i { ((newX c g i).put i { (newX c g i).g i with up:=-1 }).g i with A:=none,c:=0,q:=emptyQ } = newX c g (i+1):=by
 rw [XH.put_same,XH.put_put]
 unfold XH.put newX
 congr 1
 funext j
 by_cases h:j=i
 ·
  subst h
  rw [if_pos rfl]
  unfold newXG
  rw [decide_eq_true (show j<j+1 by omega)]
  rfl
 ·
  rw [if_neg h]
  show newXG (decide (j<i))=newXG (decide (j<i+1))
  by_cases h2:j<i
  · rw [decide_eq_true h2,decide_eq_true (show j<i+1 by omega)]
  · rw [decide_eq_false h2,decide_eq_false (show ¬ j<i+1 by omega)]
theorem newX_start (c g:Int):(Tryz.zeroCells38.setIfInBounds 0 (.int .i64 c)).setIfInBounds 1 (.int .i64 g)=(xcells (newX c g 0)).toArray:=by
 rw [newX_zero]
 rw [xcells_set (X':=newX c 0 0) (k:=0) (v:=.int .i64 c) fun j _=>?_]
 ·
  refine xcells_set fun j _=>?_
  unfold xcell
  by_cases h0:j=0
  · rw [if_pos h0,if_neg (by omega),if_pos h0];rfl
  ·
   by_cases h1:j=1
   · rw [if_neg h0,if_pos h1,if_pos h1];rfl
   · rw [if_neg h0,if_neg h1,if_neg h1,if_neg h0,if_neg h1];rfl
 ·
  unfold xcell
  by_cases h0:j=0
  · rw [if_pos h0,if_pos h0];rfl
  · rw [if_neg h0,if_neg h0,if_neg h0];rfl
structure NFr (w W:World) (X:XH):Prop where
 box:XBlk W (w.heap.size+1) X
 res:XRes W w.heap.size
 bel:Below w.heap.size w W
theorem NFr.pack {w W:World} {X:XH} (f:NFr w W X):W.rangeAt (w.heap.size+1) 0 (xcells X)∧(Tryz.prog.info? 38).map (·.size)=some (xcells X).length∧W.there w.heap.size 0 (xcells X).toArray.size∧(Tryz.prog.info? 38).map (·.size)=some (xcells X).toArray.size∧(xcells X).toArray.all (·.oneCell')=true :=
 ⟨f.box.range,xinf X,f.res.there X,xinfA X,xcells_one X⟩
theorem NFr.start (w:World) (c g:Int):∃ W,W=(w.alloc (.cells Tryz.zeroCells38 38)).alloc (.cells Tryz.zeroCells38 38) ∧
  W.there (w.heap.size+1) 0 (xcells (newX c g 0)).toArray.size∧NFr w (W.setCells (w.heap.size+1) 0 (xcells (newX c g 0))) (newX c g 0):=by
 have n0:=Blk.new w Tryz.zeroCells38 38
 have n1:=Blk.new (w.alloc (.cells Tryz.zeroCells38 38)) Tryz.zeroCells38 38
 rw [World.size_alloc] at n1
 have hb:Below w.heap.size w ((w.alloc (.cells Tryz.zeroCells38 38)).alloc (.cells Tryz.zeroCells38 38)):=((Below.refl _ _).alloc (Nat.le_refl _) _).alloc (by simp) _
 have r1:XRes _ (w.heap.size+1):=⟨_,Tryz.zeroCells38_size,n1⟩
 have r0:XRes ((w.alloc (.cells Tryz.zeroCells38 38)).alloc (.cells Tryz.zeroCells38 38)) w.heap.size:=⟨_,Tryz.zeroCells38_size,n0.alloc _⟩
 exact ⟨_,rfl,r1.there _,r1.stored _,r0.of (other_sets (by omega) _ _ _),below_sets (by omega) _ _ _ hb⟩
theorem NFr.below {w W W':World} {X:XH} (f:NFr w W X) (k:Below W.heap.size W W'):NFr w W' X:=⟨f.box.below k,f.res.below k,f.bel.trans (k.mono f.bel.size)⟩
theorem NFr.up {w W:World} {X:XH} (f:NFr w W X) {i:Nat} (hi:i<32) (n:Int):NFr w (W.setCell ⟨w.heap.size+1,130+i,none⟩ (.int .i64 n)) (X.put i { X.g i with up:=n }) :=
 ⟨f.box.set_up hi n,f.res.of (Below.heap_setCell _ _ _ _ (by show w.heap.size≠w.heap.size+1;omega)),f.bel.setCell (by show w.heap.size≤w.heap.size+1;omega) _⟩
theorem NFr.q {w W:World} {X:XH} (f:NFr w W X) {i:Nat} (hi:i<32):NFr w ((((W.setCell ⟨w.heap.size+1,2+i*4,none⟩ (.slice none 0 0)).setCell ⟨w.heap.size+1,2+i*4+1,none⟩ (.int .i64 (-1))).setCell ⟨w.heap.size+1,2+i*4+2,none⟩ (.int .i64 0)).setCell ⟨w.heap.size+1,2+i*4+3,none⟩ (.bool false)) (X.put i { X.g i with A:=none,c:=0,q:=emptyQ }) :=
 ⟨f.box.set_q hi none 0 0 emptyQ rfl,f.res.of (four_oth _ _ _ _ _ _ _ (by omega)),four_low f.bel _ (by omega) _ _ _ _ _⟩
theorem NFr.done {w W:World} {c g:Int} (f:NFr w W (newX c g 32)):XBlk (W.setCells w.heap.size 0 (xcells (newX c g 32))) w.heap.size (newX c g 32)∧XAt (W.setCells w.heap.size 0 (xcells (newX c g 32))) (newH c g) (newX c g 32)∧Below w.heap.size w (W.setCells w.heap.size 0 (xcells (newX c g 32))):=by
 have e:∀ i,i<32→(newX c g 32).g i=newXG true:=fun i hi=>congrArg newXG (decide_eq_true hi)
 refine ⟨f.res.stored _,⟨rfl,rfl,fun i hi _=>by rw [e i hi];rfl,fun i x hx=>?_,fun i hi=>?_,fun i x hx=>?_⟩,below_sets (Nat.le_refl _) _ _ _ f.bel⟩
 ·
  unfold newH at hx
  by_cases h:i=0
  ·
   subst h
   injection hx with hx
   subst hx
   exact ⟨rfl,rfl,fun h=>absurd rfl h,fun h=>absurd rfl h⟩
  ·
   have hn:(none:Option Gr)=some x:=(if_neg h).symm.trans hx
   simp at hn
 ·
  rw [e i hi]
  exact ⟨.inl rfl,fun _=>⟨rfl,rfl⟩,Nat.le_refl _⟩
 ·
  unfold newH at hx
  by_cases h:i=0
  ·
   subst h
   injection hx with hx
   subst hx
   intro k hk
   simp [emptyQ,ksOf] at hk
  ·
   have hn:(none:Option Gr)=some x:=(if_neg h).symm.trans hx
   simp at hn
section
set_option maxRecDepth 100000 in
set_option maxHeartbeats 16000000 in
theorem xnew_any (c g:Int) (w:World) :
  Calls Tryz.prog 6 #[.int .i64 c,.int .i64 g] w fun r w'=>∃ X',r=.returned (xV X')∧Hid (XAt w' (newH c g) X'∧Below w.heap.size w w'∧∀ i,i<32→(X'.g i).q.L=[]):=by
 obtain ⟨W0,hW0,hth,f0⟩:=NFr.start w c g
 have HS0:=Lib.hid (And.intro hth (And.intro (xinfA (newX c g 0)) (xcells_one (newX c g 0))))
 have HE:=Lib.hid (newX_start c g)
 have HF0:=Lib.hid f0
 have HW:=Lib.hid hW0
 clear hW0 hth f0
 go_enter Tryz.func6,Tryz.ntmps6
 go_upto_region 1 with (fail)
 go_wp2_with (refine wpList_store_mid rfl 38 (.tmp 5) (.tmp 9) rfl (w.heap.size+1) 0 (xcells (newX c g 0)).toArray rfl (show _=_ from congrArg Value.agg HE.out) (by rw [← HW.out];exact HS0.out.1) HS0.out.2.1 HS0.out.2.2 ?_;rw [List.toList_toArray,← HW.out])
 obtain ⟨W2,hW2⟩:∃ W2,W2=W0.setCells (w.heap.size+1) 0 (xcells (newX c g 0)):=⟨_,rfl⟩
 have f2:=HF0.out
 rw [← hW2] at f2 ⊢
 clear HS0 HE HF0 HW hW2
 go_loopw [6] (fun s6 wr=>∃ k:Nat,k≤32∧s6=.int .i64 (k:Int)∧Hid (NFr w wr (newX c g k))) (fun s6 _=>32 - (intOf s6).toNat)
 case atStart=>exact ⟨0,by omega,rfl,Lib.hid f2⟩
 case round =>
  obtain ⟨k,hk,rfl,HF⟩:=hrel
  by_cases hlt:k<32
  ·
   have k0:(0:Int)≤(k:Int):=by omega
   have k2:(k:Int)<32:=by omega
   have k5:decide (k<32)=true:=decide_eq_true hlt
   have k6:decide ((k:Int)<32)=true:=decide_eq_true k2
   have c0:=HF.out.box.up hlt
   have yf:=HF.out.box.frozen
   have e0:((newX c g k).g k).up=0:=by
    show (newXG (decide (k<k))).up=0
    rw [decide_eq_false (Nat.lt_irrefl k)]
    rfl
   go_upto_region 6 with (fail)
   obtain ⟨W6,hW6,f6⟩:∃ W6,W6=_∧NFr w W6 _:=⟨_,rfl,HF.out.up hlt (-1)⟩
   rw [← hW6]
   have M:Calls Tryz.prog 16 #[] W6 fun e w'=>e=.returned (rqV none 0 0 (-1) 0 false)∧Below W6.heap.size W6 w':=rnew_any W6
   have HX:=Lib.hid (newX_step c g k)
   have HF6:=Lib.hid f6
   clear hW6 c0 yf HF f2 f6 e0
   have hcells:∀ W:World,Below W6.heap.size W6 W→NFr w W _:=fun W hW=>HF6.out.below hW
   go_wp2_with (
    refine M.mono ?_
    rintro r w8 ⟨rfl,hb8⟩
    have f8:=hcells w8 hb8
    obtain ⟨y0,y1,y2,y3⟩:=f8.box.q hlt
    have yf:=f8.box.frozen
    have HF8:=Lib.hid f8
    clear f8 hb8 M)
   have f9:=HF8.out.q hlt
   rw [HX.out] at f9
   have HF9:=Lib.hid f9
   clear f9 HF8 HF6 HX hcells y0 y1 y2 y3 yf
   go_roundw
   case rel=>exact ⟨k+1,by omega,by go_num,HF9⟩
   case measure=>simp [intOf];omega
  ·
   obtain rfl:k=32:=by omega
   have HR:=Lib.hid HF.out.pack
   have HD:=Lib.hid HF.out.done
   go_wp2_with (first
    | (refine wpList_load_mid rfl 38 (.tmp 5) rfl (w.heap.size+1) 0 rfl (xcells (newX c g 32)) _ HR.out.1 Tryz.underlying38 rfl HR.out.2.1 ?_)
    | (refine wpList_store_mid rfl 38 (.tmp 4) (.tmp 21) rfl w.heap.size 0 (xcells (newX c g 32)).toArray rfl rfl HR.out.2.2.1 HR.out.2.2.2.1 HR.out.2.2.2.2 ?_))
   obtain ⟨W9,hW9⟩:∃ W9,W9=wr.setCells w.heap.size 0 (xcells (newX c g 32)):=⟨_,rfl⟩
   have hd:=HD.out
   rw [← hW9] at hd ⊢
   have hl:=xload hd.1
   refine bodyPost_ret (v:=xV (newX c g 32)) (res_cell Tryz.results6 rfl hl) rfl ⟨_,rfl,Lib.hid ⟨hd.2.1,hd.2.2,fun i hi=>?_⟩⟩
   rw [show (newX c g 32).g i=newXG true from congrArg newXG (decide_eq_true hi)]
   rfl
end
end Go.Proofs.YtefekboacghnjaaGreat
