/-
  THE FRAME THAT ALL LAWS OF THIS SEAT SHARE: from a walk that returns true and leaves old memory as it was, to the row.
  Arguments opened to cells: slices of structs of one-cell fields.
  Arguments opened to cells: slices of small numbers; entities.
  Chapter 8: how its inputs lie.
  Rows of entities; doleref08.Same of a row and itself.
  Four cells that are set; a region that ends in one frame.
  dolelaw20.Deed: how a row of deeds lies.
-/
import Derived.Test.YtefekboacghnjaaGreatRows
import Derived.WalkKit
import Derived.ProofKit
import Derived.OpenShut
import Derived.ChangeOld
import Derived.Below
import Derived.ChangeCalls
import Derived.Lib.SmallJoins
import Derived.Test.YtefekboacghnjaaGreatMa
import Derived.Deep.Slices
import Derived.Deep.Fields
import Derived.ChangeSame
import Derived.Test.YtefekboacghnjaaGreatMh
namespace Go.Proofs.YtefekboacghnjaaGreat
open Go.ChangeShapes Go.WideShapes Go.ChangeAt Go.RowKit
theorem own:ownKnob Tryz.prog.godebug=none:=by kernel_rfl
theorem laidOut:laidOutB Tryz.prog=true:=by kernel_rfl
/-! ### What the dump's head says: its first words, without reckoning the whole string -/
theorem toList_of {s:String} {l:List Char} (h:s=String.ofList l):s.toList=l:=by rw [h];exact String.toList_ofList
theorem wordsSigns_word (a b:List Char) (h:(a.all fun c=>!(c == Char.ofNat 32))=true):wordsSigns (a++Char.ofNat 32::b)=a::wordsSigns b:=by
 induction a with
 | nil=>rfl
 | cons x a ih =>
  simp only [List.all_cons,Bool.and_eq_true] at h
  have hx:x≠Char.ofNat 32:=by have:=h.1;simpa using this
  rw [List.cons_append]
  conv=>lhs;unfold wordsSigns
  split
  · rename_i e;cases e
  ·
   rename_i e
   injection e with e1 e2
   exact absurd e1 hx
  ·
   rename_i c r hn e
   injection e with e1 e2
   subst e1 e2
   rw [ih h.2]
theorem words_of (l:List Char) (n:Nat) (h1:l.drop n=Char.ofNat 32::l.drop (n+1)) (h2:((l.take n).all fun c=>!(c == Char.ofNat 32))=true):wordsSigns l=l.take n::wordsSigns (l.drop (n+1)):=by
 have:=wordsSigns_word (l.take n) (l.drop (n+1)) h2
 rw [← h1,List.take_append_drop] at this
 exact this
theorem strip_cut (rest:List (List Char)):stripLifts liftWords ("cut".toList::rest)=([],"cut".toList::rest):=by kernel_rfl
theorem behind_of (l:List Char) (h1:l.drop 7=Char.ofNat 32::l.drop 8) (h2:l.take 7 = "harness".toList) (h3:(l.drop 8).drop 64=Char.ofNat 32::(l.drop 8).drop 65) (h4:isSumSigns ((l.drop 8).take 64)=true) (h4':(((l.drop 8).take 64).all fun c=>!(c == Char.ofNat 32))=true)
  (h5:((l.drop 8).drop 65).drop 3=Char.ofNat 32::((l.drop 8).drop 65).drop 4) (h6:((l.drop 8).drop 65).take 3 = "cut".toList) :
  behindMainWord (wordsSigns l) = "cut".toList::wordsSigns (((l.drop 8).drop 65).drop 4):=by
 rw [words_of l 7 h1 (by rw [h2];kernel_rfl),words_of (l.drop 8) 64 h3 h4',words_of ((l.drop 8).drop 65) 3 h5 (by rw [h6];kernel_rfl),h2,h6]
 unfold behindMainWord
 simp [h4]
theorem mayEnter_of {P:Program} {rest:List (List Char)} (h:behindMainWord (wordsSigns P.initOrder.toList) = "cut".toList::rest) (h1:P.laysLater=false) (h2:P.bearsReflect=false) (h3:P.doorFits []=true):P.mayEnter=true:=by
 unfold Program.mayEnter
 rw [h]
 simp only []
 rw [strip_cut,h1,h2,h3]
 kernel_rfl
set_option maxRecDepth 100000 in
theorem order:behindMainWord (wordsSigns Tryz.prog.initOrder.toList) = "cut".toList::wordsSigns (((Tryz.prog.initOrder.toList.drop 8).drop 65).drop 4):=by
 rw [toList_of (s:=Tryz.prog.initOrder) rfl]
 refine behind_of _ ?_ ?_ ?_ ?_ ?_ ?_ ?_
 all_goals (as_aux_lemma=>kernel_rfl)
theorem mayEnterT:Tryz.prog.mayEnter=true:=mayEnter_of order (by as_aux_lemma=>kernel_rfl) (by as_aux_lemma=>kernel_rfl) (by as_aux_lemma=>kernel_rfl)
theorem liftsFinalF:Tryz.prog.liftsFinal=false:=by
 unfold Program.liftsFinal Program.headLifts
 rw [order]
 simp only []
 rw [strip_cut]
 kernel_rfl
theorem mapsRowedT:mapsRowed Tryz.prog=true:=by kernel_rfl
theorem stopsN:(Tryz.prog.stops == [])=true:=by kernel_rfl
theorem stopKnobsN:(Tryz.prog.stopKnobs == [])=true:=by kernel_rfl
theorem plainKeysT:(true == Tryz.prog.plainKeys)=true:=by kernel_rfl
theorem stopsHeardT:Tryz.prog.stopsHeard=true:=by kernel_rfl
theorem make_of {P:Program} {rest:List (List Char)} (h:behindMainWord (wordsSigns P.initOrder.toList) = "cut".toList::rest):P.make=some .cut:=by
 unfold Program.make
 rw [h]
 simp
theorem makeT:(Tryz.prog.make == some .cut)=true:=by rw [make_of order];rfl
theorem liftedT:(false == Tryz.prog.liftsFinal)=true:=by rw [liftsFinalF];rfl
section
variable {H:Type} {enc:TypeId × Value→H} {P:Program}
theorem trodAll_below (hl:laidOutB P=true) {W W':World} (hb:Below W.heap.size W W'):∀ {ts:List TypeId} {vs:List Value} {ds:List (DataW H)} {ps:List MemPlace},
  (∀ t ∈ ts,P.readableRec t=true∧t<P.types.size)→DataW.TrodAll enc P W 0 (fun _=>true) true ts vs ds ps→(∀ x ∈ ps,x.block<W.heap.size) →
  DataW.TrodAll enc P W' 0 (fun b=>decide (b<W.heap.size)) true ts vs ds ps
 | [],vs,ds,ps,_,h,_=>by
   obtain ⟨rfl,rfl,rfl⟩:=trodAll_nil h
   exact trodAll_mk0
 | t::ts,vs,ds,ps,ht,h,hlt=>by
   obtain ⟨v,vs',d,ds',p,q,rfl,rfl,rfl,h0,h1⟩:=trodAll_cons h
   have ht0:=ht t (by simp)
   exact trodAll_cons_mk (Below.trod hl ht0.1 ht0.2 h0 hb (fun x hx=>hlt x (by simp [hx])))
    (trodAll_below hl hb (fun u hu=>ht u (by simp [hu])) h1 (fun x hx=>hlt x (by simp [hx])))
theorem law_post {f:Func} {s:ChangeSpec} {tb:TypeId} (hl:laidOutB P=true) (hts:(f.params.toList.all fun t=>P.readableRec t && decide (t<P.types.size))=true) (hr:f.resultTypes=#[tb]) (hb:P.underlying tb=some .bool)
  (hv:s.vars=[]) (hs:∀ ds:List (DataW H),ds.length=f.params.size→s.fn H ds = { results:=[.lit (.bool true)],args:=ds })
  {W W':World} {args:Array Value} {ds gs:List (DataW H)} {before:List MemPlace} (hW:DataW.Whole enc P f.params.toList s.vars false W args.toList ds gs before) (bel:Below W.heap.size W W') :
  s.post enc P f false true false false W args (.bool true) W':=by
 have hW':=hW
 rw [hv] at hW
 obtain ⟨p,q,hA,hV,rfl,hfz,hnd⟩:=hW
 obtain ⟨rfl,rfl⟩:=trodVars_none hV
 have hlen:ds.length=f.params.size:=by simpa using (trodAll_length hA).2
 have e:=hs ds hlen
 refine ⟨ds,[],_,[],p,[],hW',?_,?_,?_,bel.frame _,fun h=>by cases h⟩
 ·
  rw [List.append_nil,e,hr]
  exact trodAll_mk1 (shut_bool hb true)
 ·
  rw [List.append_nil,e]
  exact trodAll_below hl bel (fun t ht=>by simpa using List.all_eq_true.1 hts t ht) hA hA.lt
 ·
  rw [List.append_nil,e,hv]
  rfl
end
/-! ### Arguments, opened -/
section
variable {H:Type} {enc:TypeId × Value→H} {P:Program} {W:World} {t:TypeId} {v:Value} {d:DataW H} {p:List MemPlace} {b0:Nat}
theorem open_u64 (ht:P.underlying t=some (.int .u64)) (hv:Value.okWide P W .any b0 t v) (h:DataW.Trod enc P W 0 (fun _=>true) true t v d p) :
  ∃ n:Nat,v=.int .u64 n∧n<18446744073709551616:=by
 obtain ⟨x,rfl,_,_,wx⟩:=open_int ht hv h
 have b:=bounds_u64 wx
 obtain ⟨n,rfl⟩:=Int.eq_ofNat_of_zero_le b.1
 exact ⟨n,rfl,by omega⟩
theorem trod_u64 {base:Nat} {sp:Nat→Bool} {held:Bool} {fuel:Nat} {x:DataW H × List MemPlace} (ht:P.underlying t=some (.int .u64)) (h:DataW.trod enc P W base sp held fuel t [v]=some x):∃ n:Nat,v=.int .u64 n∧n<18446744073709551616:=by
 obtain ⟨a,e0,_,wa⟩:=DataW.trod_int ht h
 obtain rfl:v=.int .u64 a:=by simpa using e0
 have b:=bounds_u64 wa
 obtain ⟨n,rfl⟩:=Int.eq_ofNat_of_zero_le b.1
 exact ⟨n,rfl,by omega⟩
theorem open_i64 (ht:P.underlying t=some (.int .i64)) (hv:Value.okWide P W .any b0 t v) (h:DataW.Trod enc P W 0 (fun _=>true) true t v d p) :
  ∃ n:Int,v=.int .i64 n ∧ -9223372036854775808≤n∧n≤9223372036854775807:=by
 obtain ⟨x,rfl,_,_,wx⟩:=open_int ht hv h
 exact ⟨x,rfl,bounds_i64 wx⟩
end
end Go.Proofs.YtefekboacghnjaaGreat
namespace Go.Proofs.YtefekboacghnjaaGreat
open Go.ChangeShapes Go.WideShapes Go.ChangeAt Go.RowKit Go.Deep
open Classical in
theorem pick_fn {α:Type} (z:α) {Q:Nat→α→Prop} {n:Nat} (h:∀ j,j<n→∃ a,Q j a):∃ f:Nat→α,(∀ j,j<n→Q j (f j))∧∀ j,¬ j<n→f j=z:=by
 refine ⟨fun j=>if hj:j<n then Classical.choose (h j hj) else z,fun j hj=>?_,fun j hj=>?_⟩
 ·
  show Q j (if hj:j<n then Classical.choose (h j hj) else z)
  rw [dif_pos hj];exact Classical.choose_spec (h j hj)
 ·
  show (if hj:j<n then Classical.choose (h j hj) else z)=z
  rw [dif_neg hj]
section
variable {H:Type} {enc:TypeId × Value→H} {P:Program} {w:World} {base:Nat} {spare:Nat→Bool} {held:Bool}
end
section
variable {H:Type} {enc:TypeId × Value→H} {P:Program} {W:World} {v:Value} {d:DataW H} {p:List MemPlace} {b0:Nat}
end
end Go.Proofs.YtefekboacghnjaaGreat
namespace Go.Proofs.YtefekboacghnjaaGreat
open Go.ChangeShapes Go.WideShapes Go.ChangeAt Go.RowKit Go.Deep
section
variable {H:Type} {enc:TypeId × Value→H} {P:Program} {W:World} {v:Value} {d:DataW H} {p:List MemPlace} {b0:Nat}
theorem trod_i64 {base:Nat} {sp:Nat→Bool} {held:Bool} {fuel:Nat} {t:TypeId} {x:DataW H × List MemPlace} (ht:P.underlying t=some (.int .i64)) (h:DataW.trod enc P W base sp held fuel t [v]=some x):∃ n:Int,v=.int .i64 n ∧ -9223372036854775808≤n∧n≤9223372036854775807:=by
 obtain ⟨a,e0,_,wa⟩:=DataW.trod_int ht h
 obtain rfl:v=.int .i64 a:=by simpa using e0
 exact ⟨a,rfl,bounds_i64 wa⟩
theorem trod_b {base:Nat} {sp:Nat→Bool} {held:Bool} {fuel:Nat} {t:TypeId} {x:DataW H × List MemPlace} (ht:P.underlying t=some .bool) (h:DataW.trod enc P W base sp held fuel t [v]=some x):∃ b:Bool,v=.bool b:=by
 obtain ⟨a,e0,_⟩:=DataW.trod_bool ht h
 exact ⟨a,by simpa using e0⟩
end
section
variable {H:Type} {enc:TypeId × Value→H} {W:World} {v:Value} {d:DataW H} {p:List MemPlace} {b0:Nat}
end
end Go.Proofs.YtefekboacghnjaaGreat
namespace Go.Proofs.YtefekboacghnjaaGreat
open Go.ChangeShapes Go.WideShapes Go.ChangeAt Go.RowKit Go.Deep Go.Maps
structure En.num (e:En):Prop where
 i1:-9223372036854775808≤e.id
 i2:e.id≤9223372036854775807
 v1:-9223372036854775808≤e.v
 v2:e.v≤9223372036854775807
 w2:e.wt<18446744073709551616
 r2:e.rem<18446744073709551616
section
variable {H:Type} {enc:TypeId × Value→H} {W:World} {v:Value} {d:DataW H} {p:List MemPlace} {b0:Nat}
theorem cells_int:Tryz.prog.cellsOf 3=1:=by kernel_rfl
theorem cells_i64:Tryz.prog.cellsOf 2=1:=by kernel_rfl
theorem cells_u64:Tryz.prog.cellsOf 32=1:=by kernel_rfl
theorem cells_ent:Tryz.prog.cellsOf 34=4:=by kernel_rfl
end
end Go.Proofs.YtefekboacghnjaaGreat
namespace Go.Proofs.YtefekboacghnjaaGreat
open Go.ChangeShapes Go.WideShapes Go.ChangeAt Go.RowKit Go.Deep Go.Maps
def En.nil:En:=⟨0,0,0,0⟩
def EntAt (w:World) (b o:Nat) (e:En):Prop :=
 w.cell? ⟨b,o,none⟩=some (.int .i64 e.id)∧w.cell? ⟨b,o+1,none⟩=some (.int .u64 e.wt)∧w.cell? ⟨b,o+2,none⟩=some (.int .i64 e.v)∧w.cell? ⟨b,o+3,none⟩=some (.int .u64 e.rem)
def RowE (w:World) (B:Nat) (A:Option Addr) (es:List En):Prop :=
 es=[]∨∃ b off:Nat,A=some ⟨b,off,none⟩∧b<B∧∀ j,j<es.length→EntAt w b (off+j*4) (es.getD j En.nil)
theorem EntAt.below {w w':World} {B b o:Nat} {e:En} (h:EntAt w b o e) (k:Below B w w') (hb:b<B):EntAt w' b o e :=
 ⟨(k.cell (p:=⟨b,o,none⟩) hb).trans h.1,(k.cell (p:=⟨b,o+1,none⟩) hb).trans h.2.1,(k.cell (p:=⟨b,o+2,none⟩) hb).trans h.2.2.1,(k.cell (p:=⟨b,o+3,none⟩) hb).trans h.2.2.2⟩
theorem EntAt.of {w w':World} {b o:Nat} {e:En} (h:EntAt w b o e) (k:w'.heap[b]?=w.heap[b]?):EntAt w' b o e:=by
 have key:∀ i,w'.cell? ⟨b,i,none⟩=w.cell? ⟨b,i,none⟩:=fun i=>by unfold World.cell?;rw [k]
 exact ⟨(key _).trans h.1,(key _).trans h.2.1,(key _).trans h.2.2.1,(key _).trans h.2.2.2⟩
theorem RowE.below {w w':World} {B:Nat} {A:Option Addr} {es:List En} (h:RowE w B A es) (k:Below B w w'):RowE w' B A es:=by
 rcases h with h | ⟨b,off,e,hb,hc⟩
 · exact .inl h
 · exact .inr ⟨b,off,e,hb,fun j hj=>(hc j hj).below k hb⟩
theorem RowE.mono {w:World} {B C:Nat} {A:Option Addr} {es:List En} (h:RowE w B A es) (k:B≤C):RowE w C A es:=by
 rcases h with h | ⟨b,off,e,hb,hc⟩
 · exact .inl h
 · exact .inr ⟨b,off,e,Nat.lt_of_lt_of_le hb k,hc⟩
theorem RowE.at_ {w:World} {B:Nat} {A:Option Addr} {es:List En} (h:RowE w B A es) (hp:0<es.length):∃ b off:Nat,A=some ⟨b,off,none⟩∧b<B∧∀ j,j<es.length→EntAt w b (off+j*4) (es.getD j En.nil):=by
 rcases h with rfl | h
 · simp at hp
 · exact h
theorem getD_at (es:List En) {j:Nat} (hj:j<es.length):es.getD j En.nil=es[j]:=by
 rw [List.getD_eq_getElem?_getD,List.getElem?_eq_getElem hj];rfl
theorem own_ents {w:World} {base:Nat} {v:Value} {es:List En} {e:TypeId} (h:w.ownsRow base e 4 v es.length (es.flatMap ecl)):∃ A c,v=.slice A es.length c∧RowE w w.heap.size A es∧es.length≤9223372036854775807:=by
 rcases row_cells h with ⟨rfl,hz⟩ | ⟨g,c,rfl,_,hg,hl,hc⟩
 · exact ⟨none,0,by rw [hz],.inl (List.eq_nil_of_length_eq_zero hz),by omega⟩
 ·
  refine ⟨_,c,rfl,.inr ⟨g,0,rfl,hg,fun j hj=>?_⟩,hl⟩
  have key:∀ i,i<4→w.cell? ⟨g,0+j*4+i,none⟩=(ecl (es.getD j En.nil))[i]?:=fun i hi=>by
   rw [Nat.zero_add,hc (j*4+i) (by omega),flat_at ecl 4 (fun _=>rfl) es j i hi,List.getElem?_eq_getElem hj,getD_at es hj]
   rfl
  exact ⟨key 0 (by omega),key 1 (by omega),key 2 (by omega),key 3 (by omega)⟩
section
variable {H:Type} {enc:TypeId × Value→H} {W:World} {v:Value} {d:DataW H} {p:List MemPlace} {b0:Nat}
end
set_option maxRecDepth 100000 in
set_option maxHeartbeats 8000000 in
theorem rsame_any (A A':Option Addr) (es:List En) (c c':Nat) (w:World) (hA:RowE w w.heap.size A es) (hA':RowE w w.heap.size A' es) (hl:es.length≤9223372036854775807) :
  Calls Tryz.prog 37 #[.slice A es.length c,.slice A' es.length c'] w fun r w'=>r=.returned (.bool true)∧Below w.heap.size w w':=by
 have HA:=Lib.hid hA
 have HA':=Lib.hid hA'
 obtain ⟨n,hn⟩:∃ n,n=es.length:=⟨_,rfl⟩
 rw [← hn] at hl ⊢
 have HN:=Lib.hid hn
 clear hA hA' hn
 go_enter Tryz.func37,Tryz.ntmps37
 go_wp2_with fail
 go_loopw [5] (fun s5 wr=>∃ k:Nat,k≤n∧s5=.int .i64 k∧Hid (Below w.heap.size w wr)) (fun s5 _=>n - (intOf s5).toNat)
 case atStart=>exact ⟨0,by omega,rfl,Below.refl _ _⟩
 case round =>
  obtain ⟨k,hk,rfl,HB⟩:=hrel
  by_cases hlt:k<n
  ·
   have hk1:k<es.length:=by rw [← HN.out];exact hlt
   obtain ⟨b,off,rfl,hb,hc⟩:=HA.out.at_ (by omega)
   obtain ⟨b',off',rfl,hb',hc'⟩:=HA'.out.at_ (by omega)
   obtain ⟨x0,x1,x2,x3⟩:=(hc k hk1).below HB.out hb
   obtain ⟨y0,y1,y2,y3⟩:=(hc' k hk1).below HB.out hb'
   clear hc hc' hk1
   generalize es.getD k En.nil=e at *
   obtain ⟨ei,ew,ev,er⟩:=e
   dsimp only at x0 x1 x2 x3 y0 y1 y2 y3
   have z1:decide ((k:Int)<(n:Int))=true:=decide_eq_true (by omega)
   have z2:decide (k<n)=true:=decide_eq_true hlt
   have j0:(0:Int)≤(k:Int):=Int.natCast_nonneg _
   have j1:(k:Int)<(n:Int):=by omega
   go_wp2_with fail
   go_big_quiet (fail)
   go_wp2_with fail
   go_roundw
   case rel=>exact ⟨k+1,by omega,by go_num,below_drewN HB.out _⟩
   case measure=>simp [intOf];omega
  ·
   obtain rfl:k=n:=by omega
   have z1:decide ((k:Int)<(k:Int))=false:=decide_eq_false (by omega)
   go_wp2_with fail
   go_ret
   exact ⟨rfl,HB.out⟩
end Go.Proofs.YtefekboacghnjaaGreat
namespace Go.Proofs.YtefekboacghnjaaGreat
open Go.RowKit Go.Maps
section
variable {w w':World} {p:Nat}
def set4 (w:World) (p a:Nat) (e:En):World:=(((w.setCell ⟨p,a,none⟩ (.int .i64 e.id)).setCell ⟨p,a+1,none⟩ (.int .u64 e.wt)).setCell ⟨p,a+2,none⟩ (.int .i64 e.v)).setCell ⟨p,a+3,none⟩ (.int .u64 e.rem)
theorem set4_other (w:World) (p a:Nat) (e:En) {b:Nat} (hb:b≠p):(set4 w p a e).heap[b]?=w.heap[b]?:=by
 unfold set4
 have h1:=Below.heap_setCell w ⟨p,a,none⟩ (.int .i64 e.id) b hb
 have h2:=Below.heap_setCell (w.setCell ⟨p,a,none⟩ (.int .i64 e.id)) ⟨p,a+1,none⟩ (.int .u64 e.wt) b hb
 have h3:=Below.heap_setCell ((w.setCell ⟨p,a,none⟩ (.int .i64 e.id)).setCell ⟨p,a+1,none⟩ (.int .u64 e.wt)) ⟨p,a+2,none⟩ (.int .i64 e.v) b hb
 have h4:=Below.heap_setCell (((w.setCell ⟨p,a,none⟩ (.int .i64 e.id)).setCell ⟨p,a+1,none⟩ (.int .u64 e.wt)).setCell ⟨p,a+2,none⟩ (.int .i64 e.v)) ⟨p,a+3,none⟩ (.int .u64 e.rem) b hb
 exact h4.trans (h3.trans (h2.trans h1))
theorem set4_turns (w:World) (p a:Nat) (e:En) {S:List Nat} (hp:p ∈ S):Turns S w (set4 w p a e):=by
 have t1:=(Turns.refl S w).setCell (p:=⟨p,a,none⟩) (.inl hp) (.int .i64 e.id)
 have t2:=t1.setCell (p:=⟨p,a+1,none⟩) (.inl hp) (.int .u64 e.wt)
 have t3:=t2.setCell (p:=⟨p,a+2,none⟩) (.inl hp) (.int .i64 e.v)
 exact t3.setCell (p:=⟨p,a+3,none⟩) (.inl hp) (.int .u64 e.rem)
theorem set4_cells {cs:Array Value} {ty:TypeId} (h:Blk w p cs ty) (a:Nat) (e:En) (ha:a+3<cs.size) :
  ∃ ds,Blk (set4 w p a e) p ds ty∧ds.size=cs.size∧EntAt (set4 w p a e) p a e∧∀ i,(i<a∨a+3<i)→(set4 w p a e).cell? ⟨p,i,none⟩=w.cell? ⟨p,i,none⟩:=by
 have h4:Blk (set4 w p a e) p _ ty:=Blk.set (Blk.set (Blk.set (Blk.set h a (.int .i64 e.id)) (a+1) (.int .u64 e.wt)) (a+2) (.int .i64 e.v)) (a+3) (.int .u64 e.rem)
 refine ⟨_,h4,by simp,⟨?_,?_,?_,?_⟩,fun i hi=>?_⟩
 · rw [Blk.cell h4];simp [Array.getElem?_setIfInBounds];omega
 · rw [Blk.cell h4];simp [Array.getElem?_setIfInBounds];omega
 · rw [Blk.cell h4];simp [Array.getElem?_setIfInBounds];omega
 · rw [Blk.cell h4];simp [Array.getElem?_setIfInBounds];omega
 ·
  rw [Blk.cell h4,Blk.cell h]
  rw [Array.getElem?_setIfInBounds_ne (by omega),Array.getElem?_setIfInBounds_ne (by omega),Array.getElem?_setIfInBounds_ne (by omega),Array.getElem?_setIfInBounds_ne (by omega)]
end
def AtEnd (a':Act) (R:World→Prop):Exit→Act→World→Prop
 | .normal,x,v=>x=a'∧R v
 | _,_,_=>False
theorem wp_region_to {P:Program} {id:Nat} {ops:Array Oper} {b:Bool} {Q:Exit→Act→World→Prop} {a:Act} {w:World} (R:World→Prop) (a':Act) (h:(Code.region id ops b).wp P (AtEnd a' R) a w) (k:∀ v,R v→Q .normal a' v):(Code.region id ops b).wp P Q a w :=
 Code.wp_mono (fun e x v h=>by
  cases e with
  | normal =>
   obtain ⟨rfl,h3⟩:=h
   exact k v h3
  | _=>exact (h:False).elim) h
end Go.Proofs.YtefekboacghnjaaGreat
namespace Go.Proofs.YtefekboacghnjaaGreat
open Go.ChangeShapes Go.WideShapes Go.ChangeAt Go.RowKit Go.Deep Go.Maps
structure Dh where
 kind:Int
 a:Int
 b:Int
 e:En
 n:Nat
 is:Bool
structure Dh.num (d:Dh):Prop where
 k1:-9223372036854775808≤d.kind
 k2:d.kind≤9223372036854775807
 a1:-9223372036854775808≤d.a
 a2:d.a≤9223372036854775807
 b1:-9223372036854775808≤d.b
 b2:d.b≤9223372036854775807
 e:d.e.num
 n:d.n<18446744073709551616
def Dh.nil:Dh:=⟨0,0,0,En.nil,0,false⟩
def Dh.cells (d:Dh):List Value:=[.int .i64 d.kind,.int .i64 d.a,.int .i64 d.b,.int .i64 d.e.id,.int .u64 d.e.wt,.int .i64 d.e.v,.int .u64 d.e.rem,.int .u64 d.n,.bool d.is]
def DhAt (w:World) (b o:Nat) (d:Dh):Prop:=∀ j u,d.cells[j]?=some u→w.cell? ⟨b,o+j,none⟩=some u
def RowH (w:World) (B:Nat) (A:Option Addr) (xs:List Dh):Prop :=
 xs=[]∨∃ b off:Nat,A=some ⟨b,off,none⟩∧b<B∧∀ j,j<xs.length→DhAt w b (off+j*9) (xs.getD j Dh.nil)
theorem DhAt.below {w w':World} {B b o:Nat} {x:Dh} (h:DhAt w b o x) (k:Below B w w') (hb:b<B):DhAt w' b o x:=fun j u hu=>(k.cell (p:=⟨b,o+j,none⟩) hb).trans (h j u hu)
theorem RowH.at_ {w:World} {B:Nat} {A:Option Addr} {xs:List Dh} (h:RowH w B A xs) (hp:0<xs.length):∃ b off:Nat,A=some ⟨b,off,none⟩∧b<B∧∀ j,j<xs.length→DhAt w b (off+j*9) (xs.getD j Dh.nil):=by
 rcases h with rfl | h
 · simp at hp
 · exact h
section
variable {H:Type} {enc:TypeId × Value→H} {W:World} {v:Value} {d:DataW H} {p:List MemPlace} {b0:Nat}
theorem cells_dh:Tryz.prog.cellsOf 44=9:=by kernel_rfl
set_option maxRecDepth 100000 in
theorem open_ent420 {fuel:Nat} {x0 x1 x2 x3:Value} {x:DataW H × List MemPlace} (hf:DataW.trod enc Tryz.prog W 0 (fun _=>true) true fuel 34 [x0,x1,x2,x3]=some x):∃ e:En,x0=.int .i64 e.id∧x1=.int .u64 e.wt∧x2=.int .i64 e.v∧x3=.int .u64 e.rem∧e.num:=by
 obtain ⟨xs,m,_,_,hlen,hxl,hi⟩:=DataW.trod_struct Tryz.underlying34 hf
 have h4:xs.length=4:=hxl
 have h0:DataW.trod enc Tryz.prog W 0 (fun _=>true) true m 3 (List.take (Tryz.prog.cellsOf 3) [x0,x1,x2,x3])=xs[0]?:=hi 0 _ rfl
 have h1:DataW.trod enc Tryz.prog W 0 (fun _=>true) true m 32 (List.take (Tryz.prog.cellsOf 32) [x1,x2,x3])=xs[1]?:=hi 1 _ rfl
 have h2:DataW.trod enc Tryz.prog W 0 (fun _=>true) true m 2 (List.take (Tryz.prog.cellsOf 2) [x2,x3])=xs[2]?:=hi 2 _ rfl
 have h3:DataW.trod enc Tryz.prog W 0 (fun _=>true) true m 32 (List.take (Tryz.prog.cellsOf 32) [x3])=xs[3]?:=hi 3 _ rfl
 rw [cells_int,List.getElem?_eq_getElem (by omega)] at h0
 rw [cells_u64,List.getElem?_eq_getElem (by omega)] at h1 h3
 rw [cells_i64,List.getElem?_eq_getElem (by omega)] at h2
 obtain ⟨k,rfl,bk⟩:=trod_i64 Tryz.underlying3 h0
 obtain ⟨wt,rfl,bw⟩:=trod_u64 Tryz.underlying32 h1
 obtain ⟨vv,rfl,bv⟩:=trod_i64 Tryz.underlying2 h2
 obtain ⟨rm,rfl,br⟩:=trod_u64 Tryz.underlying32 h3
 exact ⟨⟨k,wt,vv,rm⟩,rfl,rfl,rfl,rfl,bk.1,bk.2,bv.1,bv.2,bw,br⟩
theorem cells_bool20:Tryz.prog.cellsOf 4=1:=by kernel_rfl
set_option maxRecDepth 100000 in
theorem open_dh9 {fuel:Nat} {cs:List Value} {x:DataW H × List MemPlace} (hl:cs.length=9) (hf:DataW.trod enc Tryz.prog W 0 (fun _=>true) true fuel 44 cs=some x) :
  ∃ d:Dh,d.num∧cs=d.cells:=by
 match cs,hl with
 | [x0,x1,x2,x3,x4,x5,x6,x7,x8],_ =>
  obtain ⟨xs,m,_,_,hlen,hxl,hi⟩:=DataW.trod_struct Tryz.underlying44 hf
  have h4:xs.length=6:=hxl
  have h0:DataW.trod enc Tryz.prog W 0 (fun _=>true) true m 3 (List.take (Tryz.prog.cellsOf 3) [x0,x1,x2,x3,x4,x5,x6,x7,x8])=xs[0]?:=hi 0 _ rfl
  have h1:DataW.trod enc Tryz.prog W 0 (fun _=>true) true m 3 (List.take (Tryz.prog.cellsOf 3) [x1,x2,x3,x4,x5,x6,x7,x8])=xs[1]?:=hi 1 _ rfl
  have h2:DataW.trod enc Tryz.prog W 0 (fun _=>true) true m 3 (List.take (Tryz.prog.cellsOf 3) [x2,x3,x4,x5,x6,x7,x8])=xs[2]?:=hi 2 _ rfl
  have h3:DataW.trod enc Tryz.prog W 0 (fun _=>true) true m 34 (List.take (Tryz.prog.cellsOf 34) [x3,x4,x5,x6,x7,x8])=xs[3]?:=hi 3 _ rfl
  have h5:DataW.trod enc Tryz.prog W 0 (fun _=>true) true m 32 (List.take (Tryz.prog.cellsOf 32) [x7,x8])=xs[4]?:=hi 4 _ rfl
  have h6:DataW.trod enc Tryz.prog W 0 (fun _=>true) true m 4 (List.take (Tryz.prog.cellsOf 4) [x8])=xs[5]?:=hi 5 _ rfl
  rw [cells_int,List.getElem?_eq_getElem (by omega)] at h0 h1 h2
  rw [cells_ent,List.getElem?_eq_getElem (by omega)] at h3
  rw [cells_u64,List.getElem?_eq_getElem (by omega)] at h5
  rw [cells_bool20,List.getElem?_eq_getElem (by omega)] at h6
  obtain ⟨k,rfl,bk⟩:=trod_i64 Tryz.underlying3 h0
  obtain ⟨a,rfl,ba⟩:=trod_i64 Tryz.underlying3 h1
  obtain ⟨b,rfl,bb⟩:=trod_i64 Tryz.underlying3 h2
  obtain ⟨e,rfl,rfl,rfl,rfl,he⟩:=open_ent420 h3
  obtain ⟨n,rfl,bn⟩:=trod_u64 Tryz.underlying32 h5
  obtain ⟨is,rfl⟩:=trod_b Tryz.underlying4 h6
  exact ⟨⟨k,a,b,e,n,is⟩,⟨bk.1,bk.2,ba.1,ba.2,bb.1,bb.2,he,bn⟩,rfl⟩
set_option maxRecDepth 100000 in
theorem open_deeds20 (hv:Value.okWide Tryz.prog W .any b0 22 v) (h:DataW.Trod enc Tryz.prog W 0 (fun _=>true) true 22 v d p) :
  ∃ (A:Option Addr) (xs:List Dh) (c:Nat),v=.slice A xs.length c∧RowH W W.heap.size A xs∧(∀ x ∈ xs,x.num)∧xs.length≤9223372036854775807:=by
 obtain ⟨a0,len,cap,rfl⟩:=okWide_slice Tryz.underlying22 hv
 obtain ⟨fuel,hf⟩:=h
 rcases open_slice Tryz.underlying22 hf with ⟨hcs,_⟩ | ⟨x,l,c,m,n,D,Pl,hcs,_,hl,hm,hmm,_,hi⟩
 ·
  simp [Value.cells] at hcs
  obtain ⟨rfl,rfl,rfl⟩:=hcs
  exact ⟨none,[],0,rfl,.inl rfl,by simp,by simp⟩
 ·
  simp [Value.cells] at hcs
  obtain ⟨rfl,rfl,rfl⟩:=hcs
  have hmm2:m=cap:=by simpa using hmm
  rw [hmm2] at hi
  unfold maxLen at hm
  rcases Nat.eq_zero_or_pos len with hz | hz
  ·
   subst hz
   exact ⟨_,[],cap,rfl,.inl rfl,by simp,by simp⟩
  ·
   obtain ⟨b,off,spot⟩:=x
   have key0:∀ i,i<cap→∃ d:Dh,d.num∧∀ j u,d.cells[j]?=some u→W.cell? ((⟨b,off,spot⟩:Addr).add (i*9+j))=some u:=fun i hic=>by
    obtain ⟨cs',hc,ht'⟩:=hi i hic
    rw [cells_dh] at hc
    obtain ⟨_,hcl,hat⟩:=World.cells?_some hc
    obtain ⟨d,hd,rfl⟩:=open_dh9 hcl ht'
    refine ⟨d,hd,fun j u hu=>?_⟩
    have hj:j<9:=(List.getElem?_eq_some_iff.1 hu).1
    rw [← Go.Deep.add_add,hat j hj,hu]
   obtain ⟨d0,_,hc0⟩:=key0 0 (by omega)
   have hc00:=hc0 0 _ rfl
   have hspot:spot=none:=by simpa [Addr.add] using World.cell?_spot hc00
   subst hspot
   have hblt:b<W.heap.size:=by
    have:=World.block_lt_of_cell? W _ hc00
    simpa [Addr.add] using this
   have ea:∀ k,(⟨b,off,none⟩:Addr).add k=⟨b,off+k,none⟩:=fun k=>by
    rcases Nat.eq_zero_or_pos k with h | h
    · rw [h];simp [Addr.add]
    · simp [Addr.add];omega
   have key:∀ j,j<len→∃ d:Dh,d.num∧DhAt W b (off+j*9) d:=fun j hj=>by
    obtain ⟨d,hd,hc⟩:=key0 j (by omega)
    have e:∀ i u,d.cells[i]?=some u→W.cell? ⟨b,off+j*9+i,none⟩=some u:=fun i u hu=>by
     have:=hc i u hu
     rw [ea,← Nat.add_assoc] at this
     exact this
    exact ⟨d,hd,e⟩
   obtain ⟨f,hf1,_⟩:=pick_fn Dh.nil key
   have hlen:((List.range len).map f).length=len:=by simp
   refine ⟨_,(List.range len).map f,cap,by rw [hlen],.inr ⟨b,off,rfl,hblt,fun j hj=>?_⟩,fun d hd=>?_,by rw [hlen];omega⟩
   ·
    rw [hlen] at hj
    have e:((List.range len).map f).getD j Dh.nil=f j:=by rw [List.getD_eq_getElem?_getD];simp [hj]
    rw [e]
    exact (hf1 j hj).2
   ·
    obtain ⟨j,hj,rfl⟩:=List.mem_map.1 hd
    exact (hf1 j (List.mem_range.1 hj)).1
end
end Go.Proofs.YtefekboacghnjaaGreat
