/-
  doleref08: the place of an entity (Find), the least vruntime (Higher), raised, May, New.
  doleref08: raised.
  doleref08: First, near, Load; doleref06.Compare; doleref04.Charge.
-/
import Derived.Test.YtefekboacghnjaaGreatMi
import Derived.Test.YtefekboacghnjaaGreatMd
import Derived.Laws.AppendOwnNone
import Derived.Maps.AppendAt
import Derived.Deep.RegionHeld3
namespace Go.Proofs.YtefekboacghnjaaGreat
open Go.ChangeShapes Go.WideShapes Go.ChangeAt Go.RowKit Go.Deep Go.Maps
abbrev rqV (A:Option Addr) (n c:Nat) (cur mn:Int) (fl:Bool):Value:=.agg #[.slice A n c,.int .i64 cur,.int .i64 mn,.bool fl]
def fnd:List En→Int→Option Nat
 | [],_=>none
 | e::L,i=>if e.id=i then some 0 else (fnd L i).map (· + 1)
theorem getD_cons0 (e:En) (L:List En):(e::L).getD 0 En.nil=e:=rfl
theorem getD_consS (e:En) (L:List En) (k:Nat):(e::L).getD (k+1) En.nil=L.getD k En.nil:=rfl
theorem fnd_some {i:Int}:∀ {L:List En} {k:Nat},k<L.length→(∀ j,j<k→(L.getD j En.nil).id≠i)→(L.getD k En.nil).id=i→fnd L i=some k
 | [],k,h,_,_=>by simp at h
 | e::L,0,_,_,h=>by unfold fnd;rw [getD_cons0] at h;rw [if_pos h]
 | e::L,k+1,hk,hn,h=>by
  unfold fnd
  rw [if_neg (by have:=hn 0 (by omega);rwa [getD_cons0] at this),fnd_some (L:=L) (k:=k) (by simp at hk;omega) (fun j hj=>by have:=hn (j+1) (by omega);rwa [getD_consS] at this) (by rwa [getD_consS] at h)]
  rfl
theorem fnd_none {i:Int}:∀ {L:List En},(∀ j,j<L.length→(L.getD j En.nil).id≠i)→fnd L i=none
 | [],_=>rfl
 | e::L,hn=>by
  unfold fnd
  rw [if_neg (by have:=hn 0 (by simp);rwa [getD_cons0] at this),fnd_none (L:=L) (fun j hj=>by have:=hn (j+1) (by simp;omega);rwa [getD_consS] at this)]
  rfl
theorem fnd_at {i:Int}:∀ {L:List En} {k:Nat},fnd L i=some k→k<L.length∧(L.getD k En.nil).id=i∧L.find? (fun e=>e.id == i)=some (L.getD k En.nil)
 | [],k,h=>by simp [fnd] at h
 | e::L,k,h=>by
  unfold fnd at h
  by_cases he:e.id=i
  ·
   rw [if_pos he] at h
   obtain rfl:0=k:=by injection h
   exact ⟨by simp,he,by rw [List.find?_cons,show (e.id == i)=true from beq_iff_eq.2 he];rfl⟩
  ·
   rw [if_neg he] at h
   obtain ⟨j,hj,rfl⟩:=Option.map_eq_some_iff.1 h
   obtain ⟨h1,h2,h3⟩:=fnd_at hj
   exact ⟨by simp;omega,h2,by rw [List.find?_cons,show (e.id == i)=false from beq_eq_false_iff_ne.2 he];exact h3⟩
theorem fnd_not {i:Int}:∀ {L:List En},fnd L i=none→L.find? (fun e=>e.id == i)=none∧i ∉ L.map (·.id)
 | [],_=>⟨rfl,by simp⟩
 | e::L,h=>by
  unfold fnd at h
  by_cases he:e.id=i
  · rw [if_pos he] at h;simp at h
  ·
   rw [if_neg he] at h
   obtain ⟨h1,h2⟩:=fnd_not (Option.map_eq_none_iff.1 h)
   refine ⟨by rw [List.find?_cons,show (e.id == i)=false from beq_eq_false_iff_ne.2 he];exact h1,?_⟩
   rw [List.map_cons,List.mem_cons]
   rintro (h | h)
   · exact he h.symm
   · exact h2 h
def idxZ:Option Nat→Int
 | none=>-1
 | some k=>k
set_option maxRecDepth 100000 in
theorem rmay_any (n:Nat) (hn:n<18446744073709551616) (w:World):Calls Tryz.prog 97 #[.int .u64 n] w fun e w'=>e=.returned (.bool (decide (2≤n∧n≤262144)))∧w=w':=by
 by_cases h1:2≤n
 ·
  by_cases h2:n≤262144
  ·
   have d1:decide ((2:Int)≤(n:Int))=true:=decide_eq_true (by omega)
   have d2:decide ((n:Int)≤262144)=true:=decide_eq_true (by omega)
   rw [decide_eq_true ⟨h1,h2⟩]
   go_enter Tryz.func97,Tryz.ntmps97
   go_wp2_with fail
   go_ret
   exact ⟨rfl,rfl⟩
  ·
   have d1:decide ((2:Int)≤(n:Int))=true:=decide_eq_true (by omega)
   have d2:decide ((n:Int)≤262144)=false:=decide_eq_false (by omega)
   rw [decide_eq_false (fun h=>h2 h.2)]
   go_enter Tryz.func97,Tryz.ntmps97
   go_wp2_with fail
   go_ret
   exact ⟨rfl,rfl⟩
 ·
  have d1:decide ((2:Int)≤(n:Int))=false:=decide_eq_false (by omega)
  rw [decide_eq_false (fun h=>h1 h.1)]
  go_enter Tryz.func97,Tryz.ntmps97
  go_wp2_with fail
  go_ret
  exact ⟨rfl,rfl⟩
theorem rq_box (w:World) (A:Option Addr) (n c:Nat) (cur mn:Int) (fl:Bool):∃ W,W=w.alloc (.cells #[.slice A n c,.int .i64 cur,.int .i64 mn,.bool fl] 29)∧Below w.heap.size w W∧Blk W w.heap.size #[.slice A n c,.int .i64 cur,.int .i64 mn,.bool fl] 29∧W.heap.size=w.heap.size+1 :=
 ⟨_,rfl,(Below.refl _ _).alloc (Nat.le_refl _) _,Blk.new _ _ _,by simp⟩
set_option maxRecDepth 100000 in
set_option maxHeartbeats 8000000 in
theorem rfind_any (A:Option Addr) (c:Nat) (L:List En) (cur mn:Int) (fl:Bool) (i:Int) (w:World) (hA:RowE w w.heap.size A L) (hl:L.length≤9223372036854775807) :
  Calls Tryz.prog 74 #[rqV A L.length c cur mn fl,.int .i64 i] w fun e w'=>e=.returned (.int .i64 (idxZ (fnd L i)))∧Below w.heap.size w w':=by
 have HA:=Lib.hid hA
 have HF1:Hid (∀ k,k<L.length→(∀ j,j<k→(L.getD j En.nil).id≠i)→(L.getD k En.nil).id=i→idxZ (fnd L i)=k):=Lib.hid fun k h1 h2 h3=>by rw [fnd_some h1 h2 h3];rfl
 have HF2:Hid ((∀ j,j<L.length→(L.getD j En.nil).id≠i)→idxZ (fnd L i) = -1):=Lib.hid fun h=>by rw [fnd_none h];rfl
 generalize idxZ (fnd L i)=res at *
 obtain ⟨n,hn⟩:∃ n,n=L.length:=⟨_,rfl⟩
 rw [← hn] at hl ⊢
 have HN:=Lib.hid hn
 clear hA hn
 obtain ⟨W1,hW1,hb1,hbx,_⟩:=rq_box w A n c cur mn fl
 have HW1:=Lib.hid hW1
 have b0:W1.cell? ⟨w.heap.size,0,none⟩=some (.slice A n c):=Blk.cell hbx 0
 have HB1:=Lib.hid hb1
 clear hW1 hb1 hbx
 go_enter Tryz.func74,Tryz.ntmps74
 go_wp2_with fail
 rw [← HW1.out]
 go_loopw [5] (fun s5 wr=>∃ k:Nat,k≤n∧s5=.int .i64 k∧W1=wr∧Hid (∀ j,j<k→(L.getD j En.nil).id≠i)) (fun s5 _=>n - (intOf s5).toNat)
 case atStart=>exact ⟨0,by omega,rfl,rfl,fun j hj=>absurd hj (by omega)⟩
 case round =>
  obtain ⟨k,hk,rfl,rfl,HNO⟩:=hrel
  by_cases hlt:k<n
  ·
   have hk1:k<L.length:=by rw [← HN.out];exact hlt
   obtain ⟨b,off,rfl,hb,hc⟩:=HA.out.at_ (by omega)
   obtain ⟨x0,_,_,_⟩:=(hc k hk1).below HB1.out hb
   have H1:=Lib.hid (HF1.out k hk1 HNO.out)
   clear hc hk1
   have HX:Hid ((L.getD k En.nil).id≠i→∀ j,j<k+1→(L.getD j En.nil).id≠i):=Lib.hid fun h j hj=>by
    by_cases hjk:j=k
    · rw [hjk];exact h
    · exact HNO.out j (by omega)
   generalize (L.getD k En.nil).id=ei at *
   have z1:decide ((k:Int)<(n:Int))=true:=decide_eq_true (by omega)
   have z2:decide (k<n)=true:=decide_eq_true hlt
   have j0:(0:Int)≤(k:Int):=Int.natCast_nonneg _
   have j1:(k:Int)<(n:Int):=by omega
   by_cases hid:ei=i
   ·
    have z3:decide (ei=i)=true:=decide_eq_true hid
    have z4:(ei == i)=true:=by rw [hid];exact beq_self_eq_true _
    have HR:=Lib.hid (H1.out hid)
    clear hid H1 HX
    go_wp2_with fail
    go_ret
    exact ⟨by rw [HR.out];rfl,HB1.out⟩
   ·
    have z3:decide (ei=i)=false:=decide_eq_false hid
    have z4:(ei == i)=false:=beq_eq_false_iff_ne.2 hid
    have HX2:=Lib.hid (HX.out hid)
    clear hid H1 HX
    go_wp2_with fail
    go_roundw
    case rel=>exact ⟨k+1,by omega,by go_num,by first | rfl | trivial,HX2.out⟩
    case measure=>simp [intOf];omega
  ·
   obtain rfl:k=n:=by omega
   have z1:decide ((k:Int)<(k:Int))=false:=decide_eq_false (by omega)
   have HR:=Lib.hid (HF2.out (fun j hj=>HNO.out j (by rw [HN.out];exact hj)))
   go_wp2_with fail
   go_ret
   exact ⟨by rw [HR.out];rfl,HB1.out⟩
def RowZ (w:World) (A:Option Addr) (zs:List Int):Prop :=
 zs=[]∨∃ b:Nat,A=some ⟨b,0,none⟩∧∀ j,j<zs.length→w.cell? ⟨b,j,none⟩=some (.int .i64 (zs.getD j 0))
def HighR (mn:Int) (zs:List Int) (r:Int):Prop:=(zs=[]∧r=mn)∨∃ s,s ∈ zs∧(∀ z ∈ zs,s≤z)∧r=max mn s
set_option maxRecDepth 100000 in
set_option maxHeartbeats 8000000 in
theorem rhigher_any (A:Option Addr) (c:Nat) (zs:List Int) (mn:Int) (w:World) (hA:RowZ w A zs) (hl:zs.length≤9223372036854775807) :
  Calls Tryz.prog 126 #[.int .i64 mn,.slice A zs.length c] w fun e w'=>∃ r,e=.returned (.int .i64 r)∧Hid (HighR mn zs r)∧w=w':=by
 rcases hA with rfl | ⟨b,rfl,hc⟩
 ·
  have hz:([]:List Int).length=0:=rfl
  rw [hz]
  go_enter Tryz.func126,Tryz.ntmps126
  go_wp2_with fail
  go_ret
  exact ⟨_,rfl,.inl ⟨rfl,rfl⟩,rfl⟩
 ·
  by_cases h0:zs.length=0
  ·
   have hz:=List.eq_nil_of_length_eq_zero h0
   rw [h0]
   have HZ:=Lib.hid hz
   clear hz hc h0
   go_enter Tryz.func126,Tryz.ntmps126
   go_wp2_with fail
   go_ret
   exact ⟨_,rfl,.inl ⟨HZ.out,rfl⟩,rfl⟩
  ·
   have HC:=Lib.hid hc
   obtain ⟨n,hn⟩:∃ n,n=zs.length:=⟨_,rfl⟩
   rw [← hn] at hl h0 ⊢
   have HN:=Lib.hid hn
   have x0:=hc 0 (by omega)
   have n0:decide ((n:Int)=0)=false:=decide_eq_false (by omega)
   have n1:((n:Int) == 0)=false:=beq_eq_false_iff_ne.2 (by omega)
   have n2:decide (n=0)=false:=decide_eq_false h0
   have n3:(0:Int)<(n:Int):=by omega
   have hst:Hid (zs.getD 0 0 ∈ zs∧∀ j,j<1→zs.getD 0 0≤zs.getD j 0):=Lib.hid ⟨by rw [List.getD_eq_getElem?_getD,List.getElem?_eq_getElem (by omega:0<zs.length)];exact List.getElem_mem _,fun j hj=>by obtain rfl:j=0:=(by omega);exact Int.le_refl _⟩
   generalize hv0:zs.getD 0 0=v0 at *
   clear hc hn hv0
   go_enter Tryz.func126,Tryz.ntmps126
   go_wp2_with fail
   go_loopw [5,6] (fun s5 s6 wr=>∃ (k:Nat) (v:Int),k≤n∧1≤k∧s6=.int .i64 k∧s5=.int .i64 v∧w=wr∧Hid (v ∈ zs∧∀ j,j<k→v≤zs.getD j 0)) (fun _ s6 _=>n - (intOf s6).toNat)
   case atStart=>exact ⟨1,v0,by omega,by omega,rfl,rfl,rfl,hst.out⟩
   case round =>
    obtain ⟨k,v,hk,hk1,rfl,rfl,rfl,HL⟩:=hrel
    clear x0
    by_cases hlt:k<n
    ·
     have hk2:k<zs.length:=by rw [← HN.out];exact hlt
     have x1:=HC.out k hk2
     have HM:Hid (zs.getD k 0 ∈ zs):=Lib.hid (by rw [List.getD_eq_getElem?_getD,List.getElem?_eq_getElem hk2];exact List.getElem_mem _)
     have HX:Hid (∀ u:Int,u≤v→u≤zs.getD k 0→∀ j,j<k+1→u≤zs.getD j 0):=Lib.hid fun u h1 h2 j hj=>by
      by_cases hjk:j=k
      · rw [hjk];exact h2
      · exact Int.le_trans h1 (HL.out.2 j (by omega))
     generalize zs.getD k 0=u at *
     clear hk2
     have z1:decide ((k:Int)<(n:Int))=true:=decide_eq_true (by omega)
     have z2:decide (k<n)=true:=decide_eq_true hlt
     have j0:(0:Int)≤(k:Int):=Int.natCast_nonneg _
     have j1:(k:Int)<(n:Int):=by omega
     by_cases huv:u<v
     ·
      have z3:decide (u<v)=true:=decide_eq_true huv
      have HG:Hid (u ∈ zs∧∀ j,j<k+1→u≤zs.getD j 0):=Lib.hid ⟨HM.out,HX.out u (by omega) (Int.le_refl _)⟩
      clear HM HX huv
      go_wp2_with fail
      go_roundw
      case rel=>exact ⟨k+1,u,by omega,by omega,by go_num,rfl,by first | rfl | trivial,HG.out⟩
      case measure=>simp [intOf];omega
     ·
      have z3:decide (u<v)=false:=decide_eq_false huv
      have HG:Hid (v ∈ zs∧∀ j,j<k+1→v≤zs.getD j 0):=Lib.hid ⟨HL.out.1,HX.out v (Int.le_refl _) (by omega)⟩
      clear HM HX huv
      go_wp2_with fail
      go_roundw
      case rel=>exact ⟨k+1,v,by omega,by omega,by go_num,rfl,by first | rfl | trivial,HG.out⟩
      case measure=>simp [intOf];omega
    ·
     obtain rfl:k=n:=by omega
     have z1:decide ((k:Int)<(k:Int))=false:=decide_eq_false (by omega)
     have HE:Hid (∀ z ∈ zs,v≤z):=Lib.hid fun z hz=>by
      obtain ⟨j,hj,rfl⟩:=List.mem_iff_getElem.1 hz
      have:=HL.out.2 j (by rw [HN.out];exact hj)
      rwa [List.getD_eq_getElem?_getD,List.getElem?_eq_getElem hj] at this
     by_cases hvm:mn<v
     ·
      have z3:decide (mn<v)=true:=decide_eq_true hvm
      have hmx:max mn v=v:=by omega
      have HX:=Lib.hid hmx
      clear hvm hmx
      go_wp2_with fail
      go_ret
      exact ⟨_,rfl,.inr ⟨v,HL.out.1,HE.out,HX.out.symm⟩,rfl⟩
     ·
      have z3:decide (mn<v)=false:=decide_eq_false hvm
      have hmx:max mn v=mn:=by omega
      have HX:=Lib.hid hmx
      clear hvm hmx
      go_wp2_with fail
      go_ret
      exact ⟨_,rfl,.inr ⟨v,HL.out.1,HE.out,HX.out.symm⟩,rfl⟩
end Go.Proofs.YtefekboacghnjaaGreat
namespace Go.Proofs.YtefekboacghnjaaGreat
open Go.RowKit Go.Maps
theorem infoV:(Tryz.prog.info? 2).map (fun i=>(i.zero,i.size,i.bytes))=some (some (.int .i64 0),1,8):=by kernel_rfl
def raiseZ (mn:Int) (L:List En):Int:=match (ksOf L).head? with | none=>mn | some k=>max mn k.1
theorem high_raise {mn r:Int} {L:List En} (h:HighR mn (L.map (·.v)) r):r=raiseZ mn L:=by
 unfold raiseZ
 rcases h with ⟨h0,rfl⟩ | ⟨s,hs,hle,rfl⟩
 ·
  have:L=[]:=by simpa using h0
  subst this
  rfl
 ·
  obtain ⟨e,he,rfl⟩:=List.mem_map.1 hs
  obtain ⟨k,hk⟩:=head_some he
  rw [hk]
  simp only
  obtain ⟨x,hx,rfl⟩:=head_mem hk
  have h1:=head_least hk he
  have h2:=hle x.v (List.mem_map.2 ⟨x,hx,rfl⟩)
  have:x.key.1=x.v:=rfl
  rw [this] at h1 ⊢
  omega
def zval (n:Int):Value:=.int .i64 n
theorem own_ints {w:World} {base:Nat} {v:Value} {zs:List Int} {e:TypeId} (h:w.ownsRow base e 1 v zs.length (zs.map zval)):∃ A c,v=.slice A zs.length c∧RowZ w A zs∧zs.length≤9223372036854775807:=by
 rcases row_cells h with ⟨rfl,hz⟩ | ⟨g,c,rfl,_,hg,hl,hc⟩
 · exact ⟨none,0,by rw [hz],.inl (List.eq_nil_of_length_eq_zero hz),by omega⟩
 ·
  refine ⟨_,c,rfl,.inr ⟨g,rfl,fun j hj=>?_⟩,hl⟩
  rw [hc j (by omega),List.getElem?_map,List.getElem?_eq_getElem hj,List.getD_eq_getElem?_getD,List.getElem?_eq_getElem hj]
  rfl
set_option maxRecDepth 100000 in
set_option maxHeartbeats 8000000 in
theorem rraised_any (A:Option Addr) (c:Nat) (L:List En) (cur mn:Int) (fl:Bool) (w:World) (hA:RowE w w.heap.size A L) (hl:L.length≤1000) :
  Calls Tryz.prog 99 #[rqV A L.length c cur mn fl] w fun e w'=>e=.returned (rqV A L.length c cur (raiseZ mn L) fl)∧Below w.heap.size w w':=by
 obtain ⟨i0,hi,iz0,iz1,iz2⟩:=info_parts infoV
 have HA:=Lib.hid hA
 have HR:Hid (∀ r,HighR mn (L.map (·.v)) r→r=raiseZ mn L):=Lib.hid fun r h=>high_raise h
 generalize raiseZ mn L=res at *
 obtain ⟨n,hn⟩:∃ n,n=L.length:=⟨_,rfl⟩
 rw [← hn] at hl ⊢
 have HN:=Lib.hid hn
 clear hA hn
 obtain ⟨W1,hW1,hb1,hbx,hs1⟩:=rq_box w A n c cur mn fl
 obtain ⟨W0,hW0⟩:∃ W0,W0=W1.alloc (.cells #[.slice none 0 0,.int .i64 0,.int .i64 0,.bool false] 29):=⟨_,rfl⟩
 have hX0:Blk W0 w.heap.size #[.slice A n c,.int .i64 cur,.int .i64 mn,.bool fl] 29:=by rw [hW0];exact hbx.alloc _
 have hX1:Blk W0 (w.heap.size+1) #[.slice none 0 0,.int .i64 0,.int .i64 0,.bool false] 29:=by
  have:=Blk.new W1 #[.slice none 0 0,.int .i64 0,.int .i64 0,.bool false] 29
  rw [hs1] at this
  rw [hW0];exact this
 have hB0:Below w.heap.size w W0:=by rw [hW0];exact hb1.alloc (by omega) _
 have HS0:Hid (W0.heap.size=w.heap.size+2):=Lib.hid (by rw [hW0];simp [hs1])
 have HX:=Lib.hid (And.intro hX0 (And.intro hX1 hB0))
 have HW0:Hid (W0=(w.alloc (.cells #[.slice A n c,.int .i64 cur,.int .i64 mn,.bool fl] 29)).alloc (.cells #[.slice none 0 0,.int .i64 0,.int .i64 0,.bool false] 29)):=Lib.hid (by rw [hW0,hW1])
 clear hW1 hb1 hbx hs1 hW0 hX0 hX1 hB0
 go_enter Tryz.func99,Tryz.ntmps99
 go_wp2_with fail
 rw [← HW0.out]
 go_loopw [3,4] (fun v s4 wr=>∃ k:Nat,k≤n∧s4=.int .i64 k∧wr.ownsRow (w.heap.size+2) 2 1 v k (((L.take k).map (·.v)).map zval)∧Below W0.heap.size W0 wr) (fun _ s4 _=>n - (intOf s4).toNat)
 case atStart=>exact ⟨0,by omega,rfl,World.ownsRow_nil _ _ _ _,Below.refl _ _⟩
 case round =>
  obtain ⟨k,hk,rfl,hown,hBj⟩:=hrel
  have Y0:=HX.out.1.below hBj HX.out.1.lt
  have Y1:=HX.out.2.1.below hBj HX.out.2.1.lt
  have hBw:Below w.heap.size w wr:=HX.out.2.2.trans (hBj.mono HX.out.2.2.size)
  have hz0:=Y0.lt
  have hz1:=Y1.lt
  have x0:wr.cell? ⟨w.heap.size,0,none⟩=some (.slice A n c):=Blk.cell Y0 0
  by_cases hlt:k<n
  ·
   have hk1:k<L.length:=by rw [← HN.out];exact hlt
   obtain ⟨b,off,rfl,hb,hc⟩:=HA.out.at_ (by omega)
   obtain ⟨_,_,d2,_⟩:=(hc k hk1).below hBw hb
   have htk:(L.take (k+1)).map (·.v)=(L.take k).map (·.v)++[(L.getD k En.nil).v]:=by
    rw [getD_at L hk1,← List.take_append_getElem hk1,List.map_append]
    rfl
   have HTK:=Lib.hid htk
   have HO:=Lib.hid (And.intro hown hBj)
   have z1:decide ((k:Int)<(n:Int))=true:=decide_eq_true (by omega)
   have z2:decide (k<n)=true:=decide_eq_true hlt
   have j0:(0:Int)≤(k:Int):=Int.natCast_nonneg _
   have j1:(k:Int)<(n:Int):=by omega
   clear hc htk hk1 Y0 Y1 hBw hBj hown
   generalize (L.getD k En.nil).v=ev at *
   go_wp2_with (at_builtin;refine wpList_append_own _ rfl _ _ 153 rfl (w.heap.size+2) 2 i0 _ 1 8 Tryz.underlying153 hi iz0 iz1 iz2 rfl (by decide) _ _ _ rfl (HO.out.1.alloc _) ⟨wr.heap.size,0,none⟩ 1 1 [.int .i64 ev] rfl rfl (cell_one_new _ _ _) (by simp [Value.oneCell']) (by unfold maxLen;omega) (by omega) (by simp;omega) ?_;intro v2 w7 hown2 hg2 _)
   have hB7:Below W0.heap.size W0 w7:=(HO.out.2.alloc HO.out.2.size _).grown hg2 (by have:=HO.out.2.size;simp;omega) (fun b hb=>by have:=(HO.out.1.lt b hb).1;have hs:=HS0.out;omega)
   go_roundw
   case rel=>exact ⟨k+1,by omega,by go_num,by rw [HTK.out,List.map_append];simpa [zval] using hown2,hB7⟩
   case measure=>simp [intOf];omega
  ·
   obtain rfl:k=n:=by omega
   have z1:decide ((k:Int)<(k:Int))=false:=decide_eq_false (by omega)
   have hall:L.take k=L:=by rw [HN.out,List.take_length]
   rw [hall] at hown
   have hlv:k=(L.map (·.v)).length:=by rw [HN.out];simp
   rw [hlv] at hown
   obtain ⟨A2,c2,rfl,hrz,_⟩:=own_ints hown
   rw [← hlv]
   have MH:=rhigher_any A2 c2 (L.map (·.v)) mn wr hrz (by rw [← hlv];omega)
   rw [← hlv] at MH
   have MH:=Lib.hid MH
   have x2:wr.cell? ⟨w.heap.size,2,none⟩=some (.int .i64 mn):=Blk.cell Y0 2
   have x1:wr.cell? ⟨w.heap.size,1,none⟩=some (.int .i64 cur):=Blk.cell Y0 1
   have x3:wr.cell? ⟨w.heap.size,3,none⟩=some (.bool fl):=Blk.cell Y0 3
   have r0:wr.cell? ⟨w.heap.size+1,0,none⟩=some (.slice none 0 0):=Blk.cell Y1 0
   have r1:wr.cell? ⟨w.heap.size+1,1,none⟩=some (.int .i64 0):=Blk.cell Y1 1
   have r2:wr.cell? ⟨w.heap.size+1,2,none⟩=some (.int .i64 0):=Blk.cell Y1 2
   have r3:wr.cell? ⟨w.heap.size+1,3,none⟩=some (.bool false):=Blk.cell Y1 3
   have f0:=Blk.frozen Y0
   have f1:=Blk.frozen Y1
   have HB:=Lib.hid hBw
   clear hown hrz hall hlv hBw hBj Y0 Y1
   go_wp2_with (go_at_call 126;refine MH.out.mono ?_;rintro e w' ⟨r,rfl,hr,rfl⟩;obtain rfl:=HR.out r hr.out)
   refine bodyPost_ret (v:=rqV A k c cur r fl) (by simp [results,Tryz.results99,go_sem,r0,r1,r2,r3]) rfl ⟨rfl,?_⟩
   exact ((((HB.out.setCell (by simp) _).setCell (by simp) _).setCell (by simp) _).setCell (by simp) _).setCell (by simp) _
end Go.Proofs.YtefekboacghnjaaGreat
namespace Go.Proofs.YtefekboacghnjaaGreat
open Go.RowKit Go.Maps
def ahead (a b:Int × Int):Prop:=a.1<b.1∨(a.1=b.1∧a.2<b.2)
instance (a b:Int × Int):Decidable (ahead a b):=by unfold ahead;infer_instance
def cmpZ (a b:Int × Int):Int:=if ahead a b then -1 else if a=b then 0 else 1
theorem cmpZ_neg (a b:Int × Int):cmpZ a b<0 ↔ ahead a b:=by
 unfold cmpZ
 split
 · rename_i h;exact ⟨fun _=>h,fun _=>by decide⟩
 ·
  rename_i h
  split <;> exact ⟨fun h2=>absurd h2 (by decide),fun h2=>absurd h2 h⟩
set_option maxRecDepth 100000 in
set_option maxHeartbeats 4000000 in
theorem rcompare6_any (a b:Int × Int) (w:World) :
  Calls Tryz.prog 107 #[.agg #[.int .i64 a.1,.int .i64 a.2],.agg #[.int .i64 b.1,.int .i64 b.2]] w fun e w'=>e=.returned (.int .i64 (cmpZ a b))∧Below w.heap.size w w':=by
 obtain ⟨v1,i1⟩:=a
 obtain ⟨v2,i2⟩:=b
 dsimp only
 have HB:Hid (Below w.heap.size w ((w.alloc (.cells #[.int .i64 v1,.int .i64 i1] 123)).alloc (.cells #[.int .i64 v2,.int .i64 i2] 123))):=Lib.hid (((Below.refl _ _).alloc (Nat.le_refl _) _).alloc (by simp) _)
 have hc:(v1<v2∧cmpZ (v1,i1) (v2,i2) = -1)∨(v2<v1∧cmpZ (v1,i1) (v2,i2)=1)∨(v1=v2∧((i1<i2∧cmpZ (v1,i1) (v2,i2) = -1)∨(i2<i1∧cmpZ (v1,i1) (v2,i2)=1)∨(i1=i2∧cmpZ (v1,i1) (v2,i2)=0))):=by
  have ia:ahead (v1,i1) (v2,i2) ↔ (v1<v2∨(v1=v2∧i1<i2)):=Iff.rfl
  have ie:(v1,i1)=(v2,i2) ↔ (v1=v2∧i1=i2):=by simp
  unfold cmpZ
  by_cases h1:v1<v2
  · exact .inl ⟨h1,if_pos (ia.2 (.inl h1))⟩
  ·
   by_cases h2:v2<v1
   · exact .inr (.inl ⟨h2,by rw [if_neg (fun h=>by have:=ia.1 h;omega),if_neg (fun h=>by have:=ie.1 h;omega)]⟩)
   ·
    refine .inr (.inr ⟨by omega,?_⟩)
    by_cases h3:i1<i2
    · exact .inl ⟨h3,if_pos (ia.2 (.inr ⟨by omega,h3⟩))⟩
    ·
     by_cases h4:i2<i1
     · exact .inr (.inl ⟨h4,by rw [if_neg (fun h=>by have:=ia.1 h;omega),if_neg (fun h=>by have:=ie.1 h;omega)]⟩)
     · exact .inr (.inr ⟨by omega,by rw [if_neg (fun h=>by have:=ia.1 h;omega),if_pos (ie.2 ⟨by omega,by omega⟩)]⟩)
 generalize cmpZ (v1,i1) (v2,i2)=z at *
 rcases hc with ⟨h,rfl⟩ | ⟨h,rfl⟩ | ⟨rfl,⟨h,rfl⟩ | ⟨h,rfl⟩ | ⟨rfl,rfl⟩⟩
 ·
  have d1:decide (v1<v2)=true:=decide_eq_true h
  go_enter Tryz.func107,Tryz.ntmps107
  go_wp2_with fail
  go_ret
  exact ⟨rfl,HB.out⟩
 ·
  have d1:decide (v1<v2)=false:=decide_eq_false (by omega)
  have d2:(v1 == v2)=false:=beq_eq_false_iff_ne.2 (by omega)
  have d3:decide (v1=v2)=false:=decide_eq_false (by omega)
  go_enter Tryz.func107,Tryz.ntmps107
  go_wp2_with fail
  go_ret
  exact ⟨rfl,HB.out⟩
 ·
  have d1:decide (v1<v1)=false:=decide_eq_false (by omega)
  have d2:(v1 == v1)=true:=beq_self_eq_true _
  have d3:decide (i1<i2)=true:=decide_eq_true h
  go_enter Tryz.func107,Tryz.ntmps107
  go_wp2_with fail
  go_ret
  exact ⟨rfl,HB.out⟩
 ·
  have d1:decide (v1<v1)=false:=decide_eq_false (by omega)
  have d2:(v1 == v1)=true:=beq_self_eq_true _
  have d3:decide (i1<i2)=false:=decide_eq_false (by omega)
  have d4:(i1 == i2)=false:=beq_eq_false_iff_ne.2 (by omega)
  have d5:decide (i1=i2)=false:=decide_eq_false (by omega)
  go_enter Tryz.func107,Tryz.ntmps107
  go_wp2_with fail
  go_ret
  exact ⟨rfl,HB.out⟩
 ·
  have d1:decide (v1<v1)=false:=decide_eq_false (by omega)
  have d2:(v1 == v1)=true:=beq_self_eq_true _
  have d3:decide (i1<i1)=false:=decide_eq_false (by omega)
  have d4:(i1 == i1)=true:=beq_self_eq_true _
  go_enter Tryz.func107,Tryz.ntmps107
  go_wp2_with fail
  go_ret
  exact ⟨rfl,HB.out⟩
set_option maxRecDepth 100000 in
theorem rnear_any (a b gran:Int) (hb1:-9223372036854775808≤b) (hb2:b≤9223372036854775807) (w:World) :
  Calls Tryz.prog 105 #[.int .i64 a,.int .i64 b,.int .i64 gran] w fun e w'=>e=.returned (.bool (nearB a b gran))∧w=w':=by
 have hh:=holdZ_credit gran
 have MH:=Lib.hid fun W=>refHold_any gran 0 1099511627776 W
 have HN:Hid (nearB a b gran=decide (a≤satZ b (holdZ gran 0 1099511627776))):=Lib.hid rfl
 generalize nearB a b gran=res at *
 generalize holdZ gran 0 1099511627776=h at *
 have MS:=Lib.hid fun W=>refSat_any b h hb1 hb2 (by omega) (by omega) W
 generalize satZ b h=s at *
 go_enter Tryz.func105,Tryz.ntmps105
 go_wp2_with fail
 refine (MH.out _).mono ?_
 rintro e w' ⟨rfl,rfl⟩
 go_wp2_with fail
 refine (MS.out _).mono ?_
 rintro e w' ⟨rfl,rfl⟩
 go_wp2_with fail
 go_ret
 exact ⟨by rw [HN.out];rfl,rfl⟩
set_option maxRecDepth 100000 in
set_option maxHeartbeats 4000000 in
theorem rcharge4_any (wt rem ns:Nat) (hw:2≤wt∧wt≤262144) (hr:rem<wt) (hn:ns<18446744073709551616) (w:World) :
  Calls Tryz.prog 102 #[.int .u64 wt,.int .u64 rem,.int .u64 ns] w fun e w'=>e=.returned (if 1000000000<ns then .tuple #[.int .i64 0,.int .u64 0,.int .i64 8] else .tuple #[.int .i64 (((rem+ns*1024) / wt:Nat):Int),.int .u64 (((rem+ns*1024) % wt:Nat):Int),.int .i64 0])∧Below w.heap.size w w':=by
 have MM:=Lib.hid fun W=>rmay_any wt (by omega) W
 rw [decide_eq_true hw] at MM
 have d1:decide ((wt:Int)≤(rem:Int))=false:=decide_eq_false (by omega)
 have d1':decide (wt≤rem)=false:=decide_eq_false (by omega)
 by_cases hbig:1000000000<ns
 ·
  have d2:decide ((1000000000:Int)<(ns:Int))=true:=decide_eq_true (by omega)
  rw [if_pos hbig]
  go_enter Tryz.func102,Tryz.ntmps102
  go_wp2_with fail
  refine (MM.out _).mono ?_
  rintro e w' ⟨rfl,rfl⟩
  go_wp2_with fail
  refine bodyPost_ret (results_tmp3 rfl _ _ _) rfl ?_
  exact ⟨rfl,Below.refl _ _⟩
 ·
  have d2:decide ((1000000000:Int)<(ns:Int))=false:=decide_eq_false (by omega)
  rw [if_neg hbig]
  obtain ⟨m,hm⟩:∃ m,m=ns*1024:=⟨_,rfl⟩
  obtain ⟨n,hnn⟩:∃ n,n=rem+m:=⟨_,rfl⟩
  obtain ⟨qu,hq⟩:∃ qu,qu=n / wt:=⟨_,rfl⟩
  obtain ⟨re,hre⟩:∃ re,re=n % wt:=⟨_,rfl⟩
  have hq2:qu≤n:=by rw [hq];exact Nat.div_le_self _ _
  rw [← hm,← hnn,← hq,← hre]
  have e1:IntKind.u64.wrap (1024*(ns:Int))=(m:Int):=by rw [IntKind.wrap_u64];omega
  have e2:IntKind.u64.wrap ((rem:Int)+(m:Int))=(n:Int):=by rw [IntKind.wrap_u64];omega
  have e3:(n:Int) / (wt:Int)=(qu:Int):=by rw [hq];rfl
  have e3':Int.tdiv (n:Int) (wt:Int)=(qu:Int):=by rw [Int.tdiv_eq_ediv_of_nonneg (by omega)];exact e3
  have e4:(n:Int) % (wt:Int)=(re:Int):=by rw [hre];rfl
  have e4':Int.tmod (n:Int) (wt:Int)=(re:Int):=by rw [Int.tmod_eq_emod_of_nonneg (by omega)];exact e4
  have e5:IntKind.i64.wrap (qu:Int)=(qu:Int):=by rw [IntKind.wrap_i64];omega
  have e6:IntKind.u64.wrap (qu:Int)=(qu:Int):=by rw [IntKind.wrap_u64];omega
  have e7:IntKind.u64.wrap (re:Int)=(re:Int):=by
   have:re<wt:=by rw [hre];exact Nat.mod_lt _ (by omega)
   rw [IntKind.wrap_u64];omega
  have z0:(wt == 0)=false:=beq_eq_false_iff_ne.2 (by omega)
  have z1:((wt:Int) == 0)=false:=beq_eq_false_iff_ne.2 (by omega)
  have z2:decide ((wt:Int)=0)=false:=decide_eq_false (by omega)
  clear hm hnn hq hre
  go_enter Tryz.func102,Tryz.ntmps102
  go_wp2_with fail
  refine (MM.out _).mono ?_
  rintro e w' ⟨rfl,rfl⟩
  go_wp2_with fail
  go_big_quiet (fail)
  go_wp2_with fail
  refine bodyPost_ret (results_tmp3 rfl _ _ _) rfl ?_
  exact ⟨rfl,below_drewN (Below.refl _ _) _⟩
theorem En.key_eq (e:En):e.key=(e.v,e.id):=rfl
def BestAt (L:List En) (but:Int) (k:Nat):Option Nat→Prop
 | none=>∀ j,j<k→(L.getD j En.nil).id=but
 | some m=>m<k∧(L.getD m En.nil).id≠but∧∀ j,j<k→(L.getD j En.nil).id≠but→¬ ahead (L.getD j En.nil).key (L.getD m En.nil).key
theorem ahead_not {a b c:Int × Int} (h1:ahead a b) (h2:¬ ahead c b):¬ ahead c a:=by
 unfold ahead at *
 omega
theorem ahead_irrefl (a:Int × Int):¬ ahead a a:=by
 unfold ahead
 omega
theorem BestAt.skip {L:List En} {but:Int} {k:Nat}:∀ {bo:Option Nat},BestAt L but k bo→(L.getD k En.nil).id=but→BestAt L but (k+1) bo
 | none,h,hid=>fun j hj=>by
  by_cases hjk:j=k
  · rw [hjk];exact hid
  · exact h j (by omega)
 | some m,h,hid=>by
  obtain ⟨h1,h2,h3⟩:=h
  refine ⟨by omega,h2,fun j hj hne=>?_⟩
  by_cases hjk:j=k
  · rw [hjk] at hne;exact absurd hid hne
  · exact h3 j (by omega) hne
theorem BestAt.new {L:List En} {but:Int} {k:Nat} (h:BestAt L but k none) (hid:(L.getD k En.nil).id≠but):BestAt L but (k+1) (some k):=by
 refine ⟨by omega,hid,fun j hj hne=>?_⟩
 by_cases hjk:j=k
 · rw [hjk];exact ahead_irrefl _
 · exact absurd (h j (by omega)) hne
set_option maxRecDepth 100000 in
set_option maxHeartbeats 16000000 in
theorem rfirst_any (A:Option Addr) (c:Nat) (L:List En) (cur mn:Int) (fl:Bool) (but:Int) (w:World) (hA:RowE w w.heap.size A L) (hl:L.length≤1000) :
  Calls Tryz.prog 78 #[rqV A L.length c cur mn fl,.int .i64 but] w fun e w'=>∃ bo,e=.returned (.int .i64 (idxZ bo))∧Hid (BestAt L but L.length bo∧Below w.heap.size w w'):=by
 have HA:=Lib.hid hA
 obtain ⟨n,hn⟩:∃ n,n=L.length:=⟨_,rfl⟩
 rw [← hn] at hl ⊢
 have HN:=Lib.hid hn
 clear hA hn
 obtain ⟨W1,hW1,hb1,hbx,_⟩:=rq_box w A n c cur mn fl
 have HW1:=Lib.hid hW1
 have HBX:=Lib.hid hbx
 have HB1:=Lib.hid hb1
 have hwl:w.heap.size<W1.heap.size:=hbx.lt
 clear hW1 hb1 hbx
 go_enter Tryz.func78,Tryz.ntmps78
 go_wp2_with fail
 rw [← HW1.out]
 go_loopw [5,6] (fun s5 s6 wr=>∃ (k:Nat) (bo:Option Nat),k≤n∧s6=.int .i64 k∧s5=.int .i64 (idxZ bo)∧Hid (BestAt L but k bo)∧Hid (Below W1.heap.size W1 wr)) (fun _ s6 _=>n - (intOf s6).toNat)
 case atStart=>exact ⟨0,none,by omega,rfl,rfl,fun j hj=>absurd hj (by omega),Below.refl _ _⟩
 case round =>
  obtain ⟨k,bo,hk,rfl,rfl,HBO,HBL⟩:=hrel
  have b0:wr.cell? ⟨w.heap.size,0,none⟩=some (.slice A n c):=Blk.cell (HBX.out.below HBL.out HBX.out.lt) 0
  by_cases hlt:k<n
  ·
   have hk1:k<L.length:=by rw [← HN.out];exact hlt
   obtain ⟨b,off,rfl,hb,hc⟩:=HA.out.at_ (by omega)
   have hBw:Below w.heap.size w wr:=HB1.out.trans (HBL.out.mono (by omega))
   obtain ⟨x0,_,x2,_⟩:=(hc k hk1).below hBw hb
   have z1:decide ((k:Int)<(n:Int))=true:=decide_eq_true (by omega)
   have z2:decide (k<n)=true:=decide_eq_true hlt
   have j0:(0:Int)≤(k:Int):=Int.natCast_nonneg _
   have j1:(k:Int)<(n:Int):=by omega
   by_cases hid:(L.getD k En.nil).id=but
   ·
    have HB2:=Lib.hid (HBO.out.skip hid)
    clear hc hk1 hBw
    generalize (L.getD k En.nil).id=ei at *
    subst hid
    have z3:(ei == ei)=true:=beq_self_eq_true _
    generalize hbz:idxZ bo=bz at *
    have HBZ:=Lib.hid hbz
    clear hbz
    go_wp2_with fail
    go_roundw
    case rel=>exact ⟨k+1,bo,by omega,by go_num,by rw [HBZ.out],HB2,HBL⟩
    case measure=>simp [intOf];omega
   ·
    cases bo with
    | none =>
     have HB2:=Lib.hid (HBO.out.new hid)
     have z4:((L.getD k En.nil).id == but)=false:=beq_eq_false_iff_ne.2 hid
     have z5:decide ((L.getD k En.nil).id=but)=false:=decide_eq_false hid
     clear hc hk1 hBw hid
     generalize (L.getD k En.nil).id=ei at *
     have hz:idxZ none = -1:=rfl
     rw [hz]
     clear hz x2
     go_wp2_with fail
     go_big_quiet (fail)
     go_wp2_with fail
     go_roundw
     case rel=>exact ⟨k+1,some k,by omega,by go_num,by first | rfl | trivial,HB2,below_drewN HBL.out _⟩
     case measure=>simp [intOf];omega
    | some m =>
     obtain ⟨h1,h2,h3⟩:=HBO.out
     have hm1:m<L.length:=by omega
     obtain ⟨y0,_,y2,_⟩:=(hc m hm1).below hBw hb
     have z4:((L.getD k En.nil).id == but)=false:=beq_eq_false_iff_ne.2 hid
     have z5:decide ((L.getD k En.nil).id=but)=false:=decide_eq_false hid
     have HYES:Hid (ahead (L.getD k En.nil).key (L.getD m En.nil).key→BestAt L but (k+1) (some k)):=Lib.hid fun ha=>⟨by omega,hid,fun j hj hne=>by
      by_cases hjk:j=k
      · rw [hjk];exact ahead_irrefl _
      · exact ahead_not ha (h3 j (by omega) hne)⟩
     have HNO:Hid (¬ ahead (L.getD k En.nil).key (L.getD m En.nil).key→BestAt L but (k+1) (some m)):=Lib.hid fun ha=>⟨by omega,h2,fun j hj hne=>by
      by_cases hjk:j=k
      · rw [hjk];exact ha
      · exact h3 j (by omega) hne⟩
     rw [En.key_eq,En.key_eq] at HYES HNO
     have hz:idxZ (some m)=(m:Int):=rfl
     rw [hz]
     have m0:(0:Int)≤(m:Int):=Int.natCast_nonneg _
     have m1:(m:Int)<(n:Int):=by omega
     have m2:decide ((m:Int)<0)=false:=decide_eq_false (by omega)
     clear hc hk1 hid hz h3 h2
     generalize (L.getD k En.nil).id=ei at *
     generalize (L.getD k En.nil).v=ev at *
     generalize (L.getD m En.nil).id=fi at *
     generalize (L.getD m En.nil).v=fv at *
     obtain ⟨cz,hcz⟩:∃ cz,cz=cmpZ (ev,ei) (fv,fi):=⟨_,rfl⟩
     have HCZ:Hid (cz<0 ↔ ahead (ev,ei) (fv,fi)):=Lib.hid (by rw [hcz];exact cmpZ_neg _ _)
     have MC:Hid (∀ W,Below wr.heap.size wr W→Calls Tryz.prog 107 #[.agg #[.int .i64 ev,.int .i64 ei],.agg #[.int .i64 fv,.int .i64 fi]] W fun e w'=>e=.returned (.int .i64 cz)∧(w'.cell? ⟨w.heap.size,0,none⟩=some (.slice (some ⟨b,off,none⟩) n c)∧w'.cell? ⟨b,off+k*4,none⟩=some (.int .i64 ei)∧w'.cell? ⟨b,off+k*4+2,none⟩=some (.int .i64 ev)∧w'.cell? ⟨b,off+m*4,none⟩=some (.int .i64 fi)∧w'.cell? ⟨b,off+m*4+2,none⟩=some (.int .i64 fv))∧Hid (Below W1.heap.size W1 w')):=Lib.hid fun W hW=>by
      rw [hcz]
      have hbb:b<wr.heap.size:=Nat.lt_of_lt_of_le hb hBw.size
      have hwb:w.heap.size<wr.heap.size:=Nat.lt_of_lt_of_le hwl HBL.out.size
      refine (rcompare6_any (ev,ei) (fv,fi) W).mono fun e w' hp=>⟨hp.1,?_,?_⟩
      ·
       have hbt:=hW.trans (hp.2.mono hW.size)
       exact ⟨(hbt.cell (p:=⟨w.heap.size,0,none⟩) hwb).trans b0,(hbt.cell (p:=⟨b,off+k*4,none⟩) hbb).trans x0,(hbt.cell (p:=⟨b,off+k*4+2,none⟩) hbb).trans x2,(hbt.cell (p:=⟨b,off+m*4,none⟩) hbb).trans y0,(hbt.cell (p:=⟨b,off+m*4+2,none⟩) hbb).trans y2⟩
      · exact HBL.out.trans ((hW.trans (hp.2.mono hW.size)).mono HBL.out.size)
     clear hcz hBw
     by_cases hcn:cz<0
     ·
      have d1:decide (cz<0)=true:=decide_eq_true hcn
      have HB2:=Lib.hid (HYES.out (HCZ.out.1 hcn))
      clear hcn HCZ HYES HNO
      go_wp2_with fail
      go_region_held3 (fun W=>W.cell? ⟨w.heap.size,0,none⟩=some (.slice (some ⟨b,off,none⟩) n c)∧W.cell? ⟨b,off+k*4,none⟩=some (.int .i64 ei)∧W.cell? ⟨b,off+k*4+2,none⟩=some (.int .i64 ev)∧W.cell? ⟨b,off+m*4,none⟩=some (.int .i64 fi)∧W.cell? ⟨b,off+m*4+2,none⟩=some (.int .i64 fv))
       (first | exact ⟨b0,x0,x2,y0,y2⟩)
       (first | (go_at_call 107;refine (MC.out _ (by first | exact (Below.refl _ _).drew | exact Below.refl _ _)).mono ?_;rintro e w7 ⟨rfl,⟨b0,x0,x2,y0,y2⟩,HB7⟩))
      all_goals
       go_wp2_with fail
       go_roundw
       case rel=>exact ⟨k+1,some k,by omega,by go_num,by first | rfl | trivial,HB2,HB7⟩
       case measure=>simp [intOf];omega
     ·
      have d1:decide (cz<0)=false:=decide_eq_false hcn
      have HB2:=Lib.hid (HNO.out (fun h=>hcn (HCZ.out.2 h)))
      clear hcn HCZ HYES HNO
      go_wp2_with fail
      go_region_held3 (fun W=>W.cell? ⟨w.heap.size,0,none⟩=some (.slice (some ⟨b,off,none⟩) n c)∧W.cell? ⟨b,off+k*4,none⟩=some (.int .i64 ei)∧W.cell? ⟨b,off+k*4+2,none⟩=some (.int .i64 ev)∧W.cell? ⟨b,off+m*4,none⟩=some (.int .i64 fi)∧W.cell? ⟨b,off+m*4+2,none⟩=some (.int .i64 fv))
       (first | exact ⟨b0,x0,x2,y0,y2⟩)
       (first | (go_at_call 107;refine (MC.out _ (by first | exact (Below.refl _ _).drew | exact Below.refl _ _)).mono ?_;rintro e w7 ⟨rfl,⟨b0,x0,x2,y0,y2⟩,HB7⟩))
      all_goals
       go_wp2_with fail
       go_roundw
       case rel=>exact ⟨k+1,some m,by omega,by go_num,by first | rfl | trivial,HB2,HB7⟩
       case measure=>simp [intOf];omega
  ·
   obtain rfl:k=n:=by omega
   have z1:decide ((k:Int)<(k:Int))=false:=decide_eq_false (by omega)
   generalize hbz:idxZ bo=bz at *
   have HBZ:=Lib.hid hbz
   clear hbz
   go_wp2_with fail
   go_ret
   exact ⟨bo,by rw [HBZ.out];rfl,HBO.out,HB1.out.trans (HBL.out.mono (by omega))⟩
end Go.Proofs.YtefekboacghnjaaGreat
