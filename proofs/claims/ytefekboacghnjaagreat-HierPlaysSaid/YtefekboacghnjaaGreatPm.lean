/-
  HierPlays: both sides of each deed.
-/
import Derived.Test.YtefekboacghnjaaGreatPh
import Derived.Test.YtefekboacghnjaaGreatPi
import Derived.Test.YtefekboacghnjaaGreatPj
import Derived.Test.YtefekboacghnjaaGreatPk
set_option linter.unusedVariables false
set_option linter.unusedSimpArgs false
namespace Go.Proofs.YtefekboacghnjaaGreat
open Go.RowKit Go.Maps
section
variable {w w':World} {h:Nat} {S S':HS} {K:Int} {F:List Nat}
def GoSide (fg:FuncId) (args:List Value) (S S':HS) (K:Int) (v:Value):Prop :=
 ∀ (w:World) (h:Nat) (F:List Nat),HAt w h F S K→Calls Tryz.prog fg (Value.pointer (some ⟨h,0,none⟩)::args).toArray w fun e w'=>e=.returned v∧∃ F',Hid (HTurned w F h S' (K+10000) w' F')
def DocSide (fx:FuncId) (args:List Value) (S S':HS) (vs:List Value):Prop :=
 ∀ (w:World) (X:XH),XAt w S X→Calls Tryz.prog fx (xV X::args).toArray w fun r w'=>∃ X',r=.returned (.tuple (xV X'::vs).toArray)∧Hid (XTo w w' X X' S')
theorem HTurned.up (hK:K+10000≤1000000000000000) {F':List Nat} (t:HTurned w F h S' K w' F'):HTurned w F h S' (K+10000) w' F':=⟨t.at_.mono (by omega) hK,t.turns,t.sub⟩
theorem HTurned.stay (hK:K+10000≤1000000000000000) (H:HAt w h F S K) (k:Below w.heap.size w w'):HTurned w F h S (K+10000) w' F:=HTurned.up hK (HTurned.of_below H k)
theorem go_same (hK:K+10000≤1000000000000000) {fg:FuncId} {args:Array Value} {v:Value} (H:HAt w h F S K) (M:Calls Tryz.prog fg args w fun e w'=>e=.returned v∧w=w') :
  Calls Tryz.prog fg args w fun e w'=>e=.returned v∧∃ F',Hid (HTurned w F h S (K+10000) w' F'):=M.mono fun e w' hp=>by
 obtain ⟨he,rfl⟩:=hp
 exact ⟨he,F,HTurned.stay hK H (Below.refl _ _)⟩
theorem go_below (hK:K+10000≤1000000000000000) {fg:FuncId} {args:Array Value} {v:Value} (H:HAt w h F S K) (M:Calls Tryz.prog fg args w fun e w'=>e=.returned v∧Below w.heap.size w w') :
  Calls Tryz.prog fg args w fun e w'=>e=.returned v∧∃ F',Hid (HTurned w F h S (K+10000) w' F'):=M.mono fun e w' hp=>⟨hp.1,F,HTurned.stay hK H hp.2⟩
theorem go_up (hK:K+10000≤1000000000000000) {fg:FuncId} {args:Array Value} {v:Value} (M:Calls Tryz.prog fg args w fun e w'=>e=.returned v∧∃ F',Hid (HTurned w F h S' K w' F')) :
  Calls Tryz.prog fg args w fun e w'=>e=.returned v∧∃ F',Hid (HTurned w F h S' (K+10000) w' F'):=M.mono fun e w' hp=>by
 obtain ⟨he,F',hT⟩:=hp
 exact ⟨he,F',hT.out.up hK⟩
theorem doc_same {X:XH} {fx:FuncId} {args:Array Value} {vs:List Value} (M:Calls Tryz.prog fx args w fun r w'=>r=.returned (.tuple (xV X::vs).toArray)∧Hid (XTo w w' X X S)) :
  Calls Tryz.prog fx args w fun r w'=>∃ X',r=.returned (.tuple (xV X'::vs).toArray)∧Hid (XTo w w' X X' S):=M.mono fun r w' hp=>⟨X,hp.1,hp.2⟩
def Two (fg fx:FuncId) (args:List Value) (S:HS) (K:Int):Prop :=
 ∃ (an:Int) (S':HS),HGood S'∧S'.gran=S.gran∧GoSide fg args S S' K (.int .i64 an)∧DocSide fx args S S' [.int .i64 an]
theorem HS.linked_cases (S:HS) (g:Int):S.linked g=none∨∃ (i:Nat) (x:Gr),g=(i:Int)∧i≠0∧i<32∧S.G i=some x:=by
 unfold HS.linked
 by_cases h0:g=0
 · exact .inl (if_pos h0)
 ·
  rw [if_neg h0]
  rcases S.at_cases g with e | ⟨i,x,rfl,h1,h2,_⟩
  · exact .inl e
  · exact .inr ⟨i,x,rfl,by omega,h1,h2⟩
theorem two_link (H:HGood S) (hK:K+10000≤1000000000000000) (g pa:Int):Two 9 53 [.int .i64 g,.int .i64 pa] S K:=by
 by_cases hbad:g<1∨31<g∨S.at_ pa=none
 ·
  refine ⟨1,S,H,rfl,fun w h F a=>?_,fun w X a=>doc_same (xlink_bad a H.inv.tree hbad)⟩
  obtain ⟨gb,qb,Fq,m,e⟩:=a.ex
  exact go_same hK a (hlink_arg m hbad)
 ·
  rcases S.at_cases pa with e | ⟨k,p,rfl,_,hp,_⟩
  · exact absurd (.inr (.inr e)) hbad
  ·
   obtain ⟨i,rfl⟩:∃ i:Nat,g=(i:Int):=⟨g.toNat,by omega⟩
   have h0:1≤i:=by omega
   have hi:i<32:=by omega
   cases hx:S.G i with
   | some x =>
    refine ⟨6,S,H,rfl,fun w h F a=>?_,fun w X a=>doc_same (xlink_busy a H.inv.tree h0 hx hp)⟩
    obtain ⟨gb,qb,Fq,m,e⟩:=a.ex
    exact go_same hK a (hlink_busy m h0 hx hp)
   | none =>
    by_cases hd:p.deep=8
    · exact ⟨5,S,H,rfl,fun w h F a=>go_same hK a (hlink_deep a h0 hi hx hp hd),fun w X a=>doc_same (xlink_deep a H.inv.tree h0 hi hx hp hd)⟩
    ·
     have:=H.inv.tree.deep k p hp
     exact ⟨0,_,link_good H (by omega) hi hx hp (by omega),rfl,fun w h F a=>go_up hK (hlink_ok a h0 hi hx hp (by omega)),fun w X a=>xlink_ok a H.inv.tree h0 hi hx hp (by omega)⟩
theorem two_unlink (H:HGood S) (hK:K+10000≤1000000000000000) (g:Int):Two 54 55 [.int .i64 g] S K:=by
 rcases S.linked_cases g with e | ⟨i,x,rfl,h0,hi,hx⟩
 ·
  refine ⟨1,S,H,rfl,fun w h F a=>?_,fun w X a=>doc_same (xunlink_bad a H.inv.tree e)⟩
  obtain ⟨gb,qb,Fq,m,_⟩:=a.ex
  exact go_same hK a (hunlink_none m e)
 ·
  by_cases hc:kidless S i∧x.q.L=[]
  ·
   refine ⟨0,_,unlink_good H h0 hx hc.1 hc.2,rfl,fun w h F a=>?_,fun w X a=>(xunlink_any a H.inv.tree h0 hx).mono fun r w' hp=>?_⟩
   ·
    obtain ⟨gb,qb,Fq,m,rfl⟩:=a.ex
    refine (hunlink_any m h0 hi hx (H.inv.qok i x hx)).mono fun e w' hp=>?_
    rcases hp with ⟨n,_⟩ | ⟨_,he,hT⟩
    · exact absurd hc n
    ·
     obtain ⟨F',hT⟩:=hT.out
     exact ⟨he,F',hT.up hK⟩
   ·
    rcases hp with ⟨n,_⟩ | ⟨_,hp⟩
    · exact absurd hc n
    · exact hp
  ·
   refine ⟨6,S,H,rfl,fun w h F a=>?_,fun w X a=>(xunlink_any a H.inv.tree h0 hx).mono fun r w' hp=>?_⟩
   ·
    have a2:=a
    obtain ⟨gb,qb,Fq,m,rfl⟩:=a.ex
    refine (hunlink_any m h0 hi hx (H.inv.qok i x hx)).mono fun e w' hp=>?_
    rcases hp with ⟨_,he,hB⟩ | ⟨n,_⟩
    · exact ⟨he,_,HTurned.stay hK a2 hB.out⟩
    · exact absurd n hc
   ·
    rcases hp with ⟨_,hp⟩ | ⟨n,_⟩
    · exact ⟨X,hp⟩
    · exact absurd n hc
theorem moveR_good {i j:Nat} {x p:Gr} (H:HGood S) (h0:i≠0) (hx:S.G i=some x) (hp:S.G j=some p) (hu:underF 9 S j (i:Int)=false):HGood (moveR S i j x p):=by
 by_cases hc:moveC S i x p=0
 ·
  rw [moveR_yes hc]
  exact move_good H h0 hx hp hu hc
 ·
  rw [moveR_no hc]
  exact H
theorem two_move (H:HGood S) (hK:K+10000≤1000000000000000) (g k:Int):Two 56 57 [.int .i64 g,.int .i64 k] S K:=by
 by_cases hbad:S.linked g=none∨S.at_ k=none
 ·
  refine ⟨1,S,H,rfl,fun w h F a=>?_,fun w X a=>doc_same (xmove_bad a H.inv.tree hbad)⟩
  obtain ⟨gb,qb,Fq,m,e⟩:=a.ex
  exact go_same hK a (hmove_none m hbad)
 ·
  rcases S.linked_cases g with e | ⟨i,x,rfl,h0,hi,hx⟩
  · exact absurd (.inl e) hbad
  ·
   rcases S.at_cases k with e | ⟨j,p,rfl,_,hp,_⟩
   · exact absurd (.inr e) hbad
   ·
    cases hu:underF 9 S j (i:Int) with
    | true =>
     refine ⟨10,S,H,rfl,fun w h F a=>?_,fun w X a=>doc_same (xmove_loop a H.inv.tree h0 hx hp hu)⟩
     obtain ⟨gb,qb,Fq,m,e⟩:=a.ex
     exact go_same hK a (hmove_loop m H.inv.tree h0 hx hp hu)
    | false =>
     have O:=H.inv.own i x h0 hx
     refine ⟨moveC S i x p,moveR S i j x p,moveR_good H h0 hx hp hu,?_,fun w h F a=>?_,fun w X a=>xmove_any a H h0 hx hp hu⟩
     ·
      by_cases hc:moveC S i x p=0
      ·
       rw [moveR_yes hc]
       exact (deepL_grans (by_:=moveBy x p) (unders S i 32) S).2
      · rw [moveR_no hc]
     ·
      have a2:=a
      obtain ⟨gb,qb,Fq,m,rfl⟩:=a.ex
      refine (hmove_all m H.inv.tree h0 hx hp (fun u y hy=>H.inv.qok u y hy) O.v1 O.v2 hu).mono fun e w' hpp=>?_
      obtain ⟨he,hm⟩:=hpp
      refine ⟨he,?_⟩
      by_cases hc:moveC S i x p=0
      ·
       obtain ⟨m',t⟩:=hm.out.1 hc
       rw [moveR_yes hc]
       refine ⟨_,HTurned.up hK ⟨⟨gb,qb,Fq,m',rfl⟩,t,fun b hb=>.inl ?_⟩⟩
       rcases (hblocks_mem m'.top).1 hb with rfl | ⟨u,y,hy,hc2⟩
       · exact (hblocks_mem m.top).2 (.inl rfl)
       ·
        cases hS:S.G u with
        | some z=>exact (hblocks_mem m.top).2 (.inr ⟨u,z,hS,hc2⟩)
        | none =>
         exfalso
         unfold moveHS at hy
         have hui:u≠i:=by rintro rfl;rw [hx] at hS;simp at hS
         rw [HS.put_other _ _ hui,deepL_none _ _ (fun a ha=>(unders_mem.1 ha).2.1) hS] at hy
         simp at hy
      ·
       rw [moveR_no hc]
       exact ⟨_,HTurned.stay hK a2 (hm.out.2 hc)⟩
theorem two_weigh (H:HGood S) (hK:K+10000≤1000000000000000) (g:Int) {wn:Nat} (hwn:wn<18446744073709551616):Two 58 59 [.int .i64 g,.int .u64 wn] S K:=by
 rcases S.linked_cases g with e | ⟨i,x,rfl,h0,hi,hx⟩
 ·
  refine ⟨1,S,H,rfl,fun w h F a=>?_,fun w X a=>doc_same (xweigh_bad a H.inv.tree e wn)⟩
  obtain ⟨gb,qb,Fq,m,_⟩:=a.ex
  exact go_same hK a (hweigh_none m wn e)
 ·
  by_cases hw:2≤wn∧wn≤262144
  ·
   obtain ⟨u,p,hu,hp,_⟩:=H.inv.tree.up i x h0 hx
   have hwg:=weigh_good H h0 hx hw.1 hw.2
   cases hon:x.on with
   | false =>
    have e:weighHS S i x wn=S.put i (some { x with own:=weighed x.own wn }):=by
     unfold weighHS
     rw [hon]
     rfl
    rw [e] at hwg
    refine ⟨0,_,hwg,rfl,fun w h F a=>?_,fun w X a=>xweigh_off a H.inv h0 hx hw.1 hw.2 hon⟩
    have:=hweigh_is a h0 hx hu hp (H.inv.num i x h0 hx) wn hw.1 hw.2
    rw [e,show (if x.on=true then weighC p.q (2*(i:Int)+1) wn else 0)=0 from by rw [hon];rfl] at this
    exact go_up hK this
   | true =>
    have e:weighHS S i x wn=S.put u (some { p with q:=weighQ p.q (2*(i:Int)+1) wn }):=by
     unfold weighHS
     rw [hon,if_pos rfl,hu,Int.toNat_natCast,hp]
    rw [e] at hwg
    refine ⟨weighC p.q (2*(i:Int)+1) wn,_,hwg,rfl,fun w h F a=>?_,fun w X a=>xweigh_on a H.inv h0 hx hu hp hw.1 hw.2 hon⟩
    have:=hweigh_is a h0 hx hu hp (H.inv.num i x h0 hx) wn hw.1 hw.2
    rw [e,hon,if_pos rfl] at this
    exact go_up hK this
  ·
   refine ⟨4,S,H,rfl,fun w h F a=>?_,fun w X a=>doc_same (xweigh_no a H.inv.tree h0 hx hwn hw)⟩
   obtain ⟨gb,qb,Fq,m,_⟩:=a.ex
   exact go_same hK a (hweigh_bad m h0 hx (by omega))
theorem two_stop (H:HGood S) (hK:K+10000≤1000000000000000) (g:Int) (b:Bool):Two 60 61 [.int .i64 g,.bool b] S K:=by
 rcases S.linked_cases g with e | ⟨i,x,rfl,h0,hi,hx⟩
 ·
  refine ⟨1,S,H,rfl,fun w h F a=>?_,fun w X a=>doc_same (xstop_bad a H.inv.tree e b)⟩
  obtain ⟨gb,qb,Fq,m,_⟩:=a.ex
  exact go_same hK a (hstop_none m b e)
 · exact ⟨0,_,stop_good H h0 hx b,(settleH_grans _ _ _).1,fun w h F a=>hstop_some a hK h0 hx (H.inv.chain hx) b,fun w X a=>xstop_ok a H h0 hx b⟩
theorem two_put (H:HGood S) (hK:K+10000≤1000000000000000) (g:Int) {e:En} (he:e.num):Two 10 18 [.int .i64 g,enV e] S K:=by
 by_cases hbad:S.at_ g=none∨¬(0≤e.id∧e.id<64)
 ·
  refine ⟨1,S,H,rfl,fun w h F a=>?_,fun w X a=>doc_same (xput_bad a H.inv.tree hbad)⟩
  obtain ⟨gb,qb,Fq,m,_⟩:=a.ex
  exact go_below hK a (hput_bad m hbad)
 ·
  rcases S.at_cases g with e1 | ⟨i,x,rfl,_,hx,_⟩
  · exact absurd (.inl e1) hbad
  ·
   have ht:0≤e.id∧e.id<64:=Decidable.byContradiction fun n=>hbad (.inr n)
   exact ⟨_,_,put_good H hx (e:=dblE e) (t:=e.id.toNat) (by omega) (by show 2*e.id=_;omega) ⟨he.v1,he.v2⟩,(putHS_grans _ _ _ _).1,fun w h F a=>hput_some a hK hx (H.inv.chain hx) e he ht.1 ht.2,fun w X a=>xput_ok a H hx ht.1 ht.2 he⟩
theorem two_nice (H:HGood S) (hK:K+10000≤1000000000000000) (g t:Int) {wn:Nat} (hwn:wn<18446744073709551616):Two 21 22 [.int .i64 g,.int .i64 t,.int .u64 wn] S K:=by
 by_cases hbad:S.at_ g=none∨¬(0≤t∧t<64)
 ·
  refine ⟨1,S,H,rfl,fun w h F a=>?_,fun w X a=>doc_same (xnice_bad a H.inv.tree hbad)⟩
  obtain ⟨gb,qb,Fq,m,_⟩:=a.ex
  exact go_same hK a (hnice_bad m hbad)
 ·
  rcases S.at_cases g with e1 | ⟨i,x,rfl,_,hx,_⟩
  · exact absurd (.inl e1) hbad
  ·
   have ht:0≤t∧t<64:=Decidable.byContradiction fun n=>hbad (.inr n)
   exact ⟨_,_,nice_good H hx (2*t) wn,rfl,fun w h F a=>go_up hK (hnice_ok a hx ht.1 ht.2 hwn),fun w X a=>xnice_ok a H hx ht.1 ht.2 hwn⟩
theorem two_charge (H:HGood S) (hK:K+10000≤1000000000000000) {ns:Nat} (hns:ns<18446744073709551616):Two 12 23 [.int .u64 ns] S K:=by
 by_cases hr:runI 9 S = -1
 ·
  refine ⟨7,S,H,rfl,fun w h F a=>go_up hK (hcharge_no a 9 H.cur0 ns hr),fun w X a=>(xcharge_any a H hns).mono fun r w' hp=>?_⟩
  rcases hp with ⟨_,h1,h2⟩ | ⟨n,_⟩ | ⟨n,_⟩
  · exact ⟨X,h1,h2⟩
  · exact absurd hr n
  · exact absurd hr n
 ·
  by_cases hb:1000000000<ns
  ·
   refine ⟨8,S,H,rfl,fun w h F a=>go_up hK (hcharge_big a 9 H.cur0 ns hb hr),fun w X a=>(xcharge_any a H hns).mono fun r w' hp=>?_⟩
   rcases hp with ⟨n,_⟩ | ⟨_,_,h1,h2⟩ | ⟨_,n,_⟩
   · exact absurd n hr
   · exact ⟨X,h1,h2⟩
   · exact absurd hb n
  ·
   refine ⟨0,_,charge_good ns 9 S 0 H,(chargeF_grans _ _ _ _).1,fun w h F a=>(hcharge_yes a 9 (by omega) H.cur0 ns (by omega) hr).mono fun e w' hp=>?_,fun w X a=>(xcharge_any a H hns).mono fun r w' hp=>?_⟩
   ·
    obtain ⟨he,F',hT⟩:=hp
    exact ⟨he,F',⟨hT.out.at_.mono (by omega) hK,hT.out.turns,hT.out.sub⟩⟩
   ·
    rcases hp with ⟨n,_⟩ | ⟨_,n,_⟩ | ⟨_,_,X',h1,h2⟩
    · exact absurd n hr
    · exact absurd n hb
    · exact ⟨X',h1,h2⟩
theorem two_pick (H:HGood S) (hK:K+10000≤1000000000000000) (g1:-9223372036854775808≤S.gran) (g2:S.gran≤9223372036854775807):Two 11 26 [] S K :=
 ⟨_,_,pick_good H,(pickN_grans _ _ _).1,fun w h F a=>go_up hK (hpick_any a 9 H.pick0 g1 g2),fun w X a=>xpick_any a H⟩
theorem yieldH_put (H:HGood S) {g:Nat} {x:Gr} (hx:S.G g=some x):HGood (S.put g (some { x with q:=yieldQ x.q S.gran })) :=
 H.same hx ((H.inv.qok g x hx).at_ ((H.inv.qok g x hx).yieldI_ok S.gran)) rfl
theorem two_yield (H:HGood S) (hK:K+10000≤1000000000000000) (g1:-9223372036854775808≤S.gran) (g2:S.gran≤9223372036854775807):Two 24 25 [] S K:=by
 refine ⟨_,_,yieldH_good H,?_,fun w h F a=>go_up hK (hyield_is a 9 H.cur0 (fun _=>H.pick0) (fun x hx _=>(yieldH_put H hx).pick0) g1 g2),fun w X a=>xyield_any a H⟩
 unfold yieldH
 split
 · exact (pickN_grans _ _ _).1
 ·
  split
  · rfl
  · exact (pickN_grans _ _ _).1
theorem two_drop (H:HGood S) (hK:K+10000≤1000000000000000) (g t:Int):∃ (e:En) (an:Int) (S':HS),HGood S'∧S'.gran=S.gran∧GoSide 19 [.int .i64 g,.int .i64 t] S S' K (.tuple #[enV e,.int .i64 an])∧DocSide 20 [.int .i64 g,.int .i64 t] S S' [enV e,.int .i64 an]:=by
 by_cases hbad:S.at_ g=none∨¬(0≤t∧t<64)
 ·
  refine ⟨⟨0,0,0,0⟩,1,S,H,rfl,fun w h F a=>?_,fun w X a=>doc_same (xdrop_bad a H.inv.tree hbad)⟩
  obtain ⟨gb,qb,Fq,m,_⟩:=a.ex
  exact go_below hK a (hdrop_bad m hbad)
 ·
  rcases S.at_cases g with e1 | ⟨i,x,rfl,_,hx,_⟩
  · exact absurd (.inl e1) hbad
  ·
   have ht:0≤t∧t<64:=Decidable.byContradiction fun n=>hbad (.inr n)
   cases hg:x.q.get (2*t) with
   | none=>exact ⟨⟨0,0,0,0⟩,12,S,H,rfl,fun w h F a=>hdrop_none a hK hx t ht.1 ht.2 hg,fun w X a=>doc_same (xdrop_none a H hx ht.1 ht.2 hg)⟩
   | some e =>
    refine ⟨{ e with id:=t },0,_,drop_good H hx t,?_,fun w h F a=>hdrop_some a hK hx (H.inv.chain hx) t ht.1 ht.2 e hg,fun w X a=>xdrop_ok a H hx ht.1 ht.2 hg⟩
    unfold dropHS
    rw [hg]
    exact (settleH_grans _ _ _).1
end
end Go.Proofs.YtefekboacghnjaaGreat
