/-
  hier.Hier: settle.
  hier.Hier: settle, where a group is put.
  hier.Hier: settle, where a group is dropped.
  hier.Hier: settle, however deep.
  hier.Hier: Put, Drop, Stop of a group that is there.
-/
import Derived.Test.YtefekboacghnjaaGreatMj
import Derived.Test.YtefekboacghnjaaGreatMi
import Derived.Deep.RegionHeld3
namespace Go.Proofs.YtefekboacghnjaaGreat
open Go.RowKit Go.Maps
theorem HS.put3 (S:HS) {i u:Nat} (_hn:u≠i) (a b c:Option Gr):((S.put i a).put u b).put i c=(S.put u b).put i c:=by
 unfold HS.put
 congr 1
 funext j
 by_cases h1:j=i
 · simp [h1]
 · by_cases h2:j=u <;> simp [h1,h2]
inductive Chain (S:HS):Nat→Nat→Prop
 | root {n i:Nat} {x:Gr}:S.G i=some x→x.up = -1→Chain S (n+1) i
 | step {n i u:Nat} {x p:Gr}:S.G i=some x→x.up=((u:Nat):Int)→x.own.num→S.G u=some p→u≠i→Chain S n u→Chain S (n+1) i
theorem Chain.congr {S S':HS} (h:∀ j x,S.G j=some x→∃ x',S'.G j=some x'∧x'.up=x.up∧(x.own.num→x'.own.num)) {n i:Nat} (c:Chain S n i):Chain S' n i:=by
 induction c with
 | root h1 h2 =>
  obtain ⟨x',e1,e2,_⟩:=h _ _ h1
  exact .root e1 (e2.trans h2)
 | step h1 h2 h3 h4 h5 _ ih =>
  obtain ⟨x',e1,e2,e3⟩:=h _ _ h1
  obtain ⟨p',f1,_,_⟩:=h _ _ h4
  exact .step e1 (e2.trans h2) (e3 h3) f1 h5 ih
theorem satZ_i64 (a b:Int):-9223372036854775808≤satZ a b∧satZ a b≤9223372036854775807:=⟨satZ_lo a b,satZ_hi a b⟩
theorem wakeZ_i64 {own mn c:Int} (h1:-9223372036854775808≤own) (h2:own≤9223372036854775807):-9223372036854775808≤wakeZ own mn c∧wakeZ own mn c≤9223372036854775807:=by
 unfold wakeZ
 have:=satZ_i64 mn (-(holdZ c 0 1099511627776))
 omega
theorem stepH_chain {S:HS} {i u n j:Nat} {x p:Gr} (hi:S.G i=some x) (hu:S.G u=some p) (hn:u≠i) (hx:x.own.num) (hp:p.q.ok) (c:Chain S n j):Chain (stepH S i u x p) n j:=by
 refine c.congr fun k y hk=>?_
 unfold stepH
 split
 ·
  by_cases hki:k=i
  ·
   subst hki
   obtain rfl:x=y:=by rw [hi] at hk;injection hk
   refine ⟨_,HS.put_same _ _ _,rfl,fun h=>?_⟩
   have:=wakeZ_i64 (own:=x.own.v) (mn:=p.q.mn) (c:=S.credit) hx.v1 hx.v2
   exact ⟨hx.i1,hx.i2,this.1,this.2,hx.w2,hx.r2⟩
  ·
   rw [HS.put_other _ _ hki]
   by_cases hku:k=u
   ·
    subst hku
    obtain rfl:p=y:=by rw [hu] at hk;injection hk
    exact ⟨_,HS.put_same _ _ _,rfl,fun h=>h⟩
   ·
    rw [HS.put_other _ _ hku]
    exact ⟨y,hk,rfl,fun h=>h⟩
 ·
  by_cases hki:k=i
  ·
   subst hki
   obtain rfl:x=y:=by rw [hi] at hk;injection hk
   refine ⟨_,HS.put_same _ _ _,rfl,fun _=>?_⟩
   show ((p.q.get (2*(k:Int)+1)).getD ⟨0,0,0,0⟩).num
   cases hg:p.q.get (2*(k:Int)+1) with
   | none=>exact ⟨by decide,by decide,by decide,by decide,by decide,by decide⟩
   | some e =>
    have:=hp.ents e (QS.get_some hg).1
    show e.num
    have hr:=this.r
    have hw:=this.w2
    have h0:=this.i1
    exact ⟨by omega,this.i2,this.v1,this.v2,by omega,by omega⟩
  ·
   rw [HS.put_other _ _ hki]
   by_cases hku:k=u
   ·
    subst hku
    obtain rfl:p=y:=by rw [hu] at hk;injection hk
    exact ⟨_,HS.put_same _ _ _,rfl,fun h=>h⟩
   ·
    rw [HS.put_other _ _ hku]
    exact ⟨y,hk,rfl,fun h=>h⟩
theorem HTree.chain {S:HS} (T:HTree S) (hnum:∀ i g,i≠0→S.G i=some g→g.own.num):∀ (n i:Nat) (g:Gr),S.G i=some g→g.deep<n→Chain S n i
 | 0,_,_,_,h=>absurd h (Nat.not_lt_zero _)
 | n+1,i,g,hg,h=>by
  by_cases h0:i=0
  ·
   subst h0
   obtain ⟨g0,e1,e2,e3⟩:=T.root
   exact .root e1 e2
  ·
   obtain ⟨u,p,e1,e2,e3⟩:=T.up i g h0 hg
   refine .step hg e1 (hnum i g h0 hg) e2 ?_ (T.chain hnum n u p e2 (by omega))
   rintro rfl
   rw [hg] at e2
   injection e2 with e2
   subst e2
   omega
section
variable {w w':World} {h:Nat} {gb qb:Nat→Nat} {Fq:Nat→List Nat} {S:HS} {K:Int} {F:List Nat}
structure GCells (w:World) (h g i:Nat) (q:Nat) (c:Int) (x:Gr):Prop where
 p:w.cell? ⟨h,2+i,none⟩=some (.pointer (some ⟨g,0,none⟩))
 cr:w.cell? ⟨h,0,none⟩=some (.int .i64 c)
 x0:w.cell? ⟨g,0,none⟩=some (.int .i64 x.up)
 x2:w.cell? ⟨g,2,none⟩=some (.pointer (some ⟨q,0,none⟩))
 x3:w.cell? ⟨g,3,none⟩=some (.int .i64 x.own.id)
 x4:w.cell? ⟨g,4,none⟩=some (.int .u64 x.own.wt)
 x5:w.cell? ⟨g,5,none⟩=some (.int .i64 x.own.v)
 x6:w.cell? ⟨g,6,none⟩=some (.int .u64 x.own.rem)
 x7:w.cell? ⟨g,7,none⟩=some (.bool x.on)
 x8:w.cell? ⟨g,8,none⟩=some (.bool x.stopped)
theorem HMem.gcells (m:HMem w h gb qb Fq S K) {i:Nat} {g:Gr} (hg:S.G i=some g):GCells w h (gb i) i (qb i) S.credit g:=by
 obtain ⟨a0,a1,a2,a3,a4,a5,a6,a7,a8,_⟩:=m.cells hg
 exact ⟨m.ptr_some hg,m.cred.1,a0,a2,a3,a4,a5,a6,a7,a8⟩
set_option maxRecDepth 100000 in
theorem settle_root (m:HMem w h gb qb Fq S K) {i:Nat} {x:Gr} (hg:S.G i=some x) (hu:x.up = -1) :
  Calls Tryz.prog 44 #[.pointer (some ⟨h,0,none⟩),.int .i64 (i:Int)] w fun e w'=>e=.returned (.tuple #[])∧w=w':=by
 have c:=m.gcells hg
 have hi:=m.idx hg
 have c1:=c.p
 have c2:=c.x0
 rw [hu] at c2
 have z0:(0:Int)≤(i:Int):=by omega
 have z1:(i:Int)<32:=by omega
 clear m hg c hu
 go_enter Tryz.func44,Tryz.ntmps44
 go_wp2_with fail
 refine bodyPost_ret (results_none rfl _ _ _) rfl ?_
 exact ⟨rfl,rfl⟩
theorem shouldB_cases (x:Gr):(x.stopped=true∧shouldB x=false)∨(x.stopped=false∧x.q.L=[]∧shouldB x=false)∨(x.stopped=false∧0<x.q.L.length∧shouldB x=true):=by
 unfold shouldB
 cases hs:x.stopped with
 | true=>exact .inl ⟨rfl,rfl⟩
 | false =>
  cases hl:x.q.L with
  | nil=>exact .inr (.inl ⟨rfl,rfl,rfl⟩)
  | cons e L=>exact .inr (.inr ⟨rfl,by simp,rfl⟩)
theorem ents_pos {X:QS} (h:X.ok):X.ents.length=X.L.length:=by
 rw [ents_len]
 have key:∀ (L:List En),(L.map (·.id)).Nodup→(ksOf L).length=L.length:=by
  intro L hn
  have hp:(ksOf L).Perm (L.map En.key):=by
   refine (List.perm_ext_iff_of_nodup ?_ ?_).2 fun k=>ksOf_mem L k
   ·
    refine (ksOf_up L).imp fun {a b} hab he=>?_
    subst he
    exact keyLt_irrefl _ hab
   · exact List.pairwise_map.2 ((List.pairwise_map.1 hn).imp fun hab he=>hab (congrArg Prod.snd he))
  rw [hp.length_eq,List.length_map]
 exact key X.L h.ids
theorem settle_cells {W w1:World} {n:Nat} (hb:Below (W.drewN n).heap.size (W.drewN n) w1):(∀ b o,b<W.heap.size→w1.cell? ⟨b,o,none⟩=W.cell? ⟨b,o,none⟩)∧(∀ b o,b<W.heap.size→w1.frozen? ⟨b,o,none⟩=W.frozen? ⟨b,o,none⟩) :=
 ⟨fun b o h=>hb.cell (p:=⟨b,o,none⟩) h,fun b o h=>hb.frozen (p:=⟨b,o,none⟩) h⟩
set_option maxRecDepth 100000 in
set_option maxHeartbeats 4000000 in
theorem settle_same (m:HMem w h gb qb Fq S K) {i u:Nat} {x p:Gr} (hg:S.G i=some x) (hu:x.up=((u:Nat):Int)) (hp:S.G u=some p) (hs:shouldB x=x.on) :
  Calls Tryz.prog 44 #[.pointer (some ⟨h,0,none⟩),.int .i64 (i:Int)] w fun e w'=>e=.returned (.tuple #[])∧Below w.heap.size w w':=by
 have c:=m.gcells hg
 have d:=m.gcells hp
 have hi:=m.idx hg
 have hui:=m.idx hp
 have c1:=c.p
 have c2:=c.x0
 have c3:=c.x2
 have c7:=c.x7
 have c8:=c.x8
 have d1:=d.p
 have d2:=d.x2
 have hc:=m.cells hg
 rw [hu] at c2
 have z0:(0:Int)≤(i:Int):=by omega
 have z1:(i:Int)<32:=by omega
 have z2:(0:Int)≤(u:Int):=by omega
 have z3:(u:Int)<32:=by omega
 have z4:decide ((u:Int) = -1)=false:=decide_eq_false (by omega)
 have lt1:=(m.grp i x hg).lt
 have ME:=fun n=>qents_any ((m.que i x hg).below (below_drewN (Below.refl _ _) n))
 have hlen:=ents_pos (m.que i x hg).ok
 rcases shouldB_cases x with ⟨s1,s2⟩ | ⟨s1,s2,s3⟩ | ⟨s1,s2,s3⟩
 ·
  rw [s2] at hs
  rw [← hs] at c7
  rw [s1] at c8
  clear m hg hp c d hc hs s1 s2 ME hlen hu
  go_enter Tryz.func44,Tryz.ntmps44
  go_wp2_with fail
  go_big_quiet (fail)
  go_wp2_with fail
  refine bodyPost_ret (results_none rfl _ _ _) rfl ?_
  exact ⟨rfl,below_drewN (Below.refl _ _) _⟩
 ·
  rw [s3] at hs
  rw [← hs] at c7
  rw [s1] at c8
  rw [s2] at hlen
  have ME:=Lib.hid ME
  generalize x.q.ents=es at *
  have hl0:es.length=0:=hlen
  have HL:=Lib.hid hl0
  clear m hg hp c d hc hs s1 s2 s3 hlen hl0 hu
  go_enter Tryz.func44,Tryz.ntmps44
  go_wp2_with fail
  go_big_quiet (fail)
  go_wp2_with fail
  refine (ME.out _).mono ?_
  rintro r w1 ⟨v,rfl,hO⟩
  obtain ⟨A,cc,rfl,hrow,hle⟩:=own_ents hO.out.1
  have HB:=Lib.hid hO.out.2
  clear hO hrow ME
  obtain ⟨n,hn⟩:∃ n,n=es.length:=⟨_,rfl⟩
  rw [← hn] at hle ⊢
  have hl1:=HL.out
  rw [← hn] at hl1
  clear hn
  subst hl1
  have B0:=HB.out
  obtain ⟨bc,bf⟩:=settle_cells B0
  have c7':w1.cell? ⟨gb i,7,none⟩=some (.bool false):=(bc (gb i) 7 lt1).trans c7
  clear bc bf B0
  go_wp2_with fail
  refine bodyPost_ret (results_none rfl _ _ _) rfl ?_
  exact ⟨rfl,(below_drewN (Below.refl _ _) _).trans (HB.out.mono (by simp))⟩
 ·
  rw [s3] at hs
  rw [← hs] at c7
  rw [s1] at c8
  have ME:=Lib.hid ME
  generalize x.q.ents=es at *
  have hl0:0<es.length:=by rw [hlen];exact s2
  have HL:=Lib.hid hl0
  clear m hg hp c d hc hs s1 s2 s3 hlen hl0 hu
  go_enter Tryz.func44,Tryz.ntmps44
  go_wp2_with fail
  go_big_quiet (fail)
  go_wp2_with fail
  refine (ME.out _).mono ?_
  rintro r w1 ⟨v,rfl,hO⟩
  obtain ⟨A,cc,rfl,hrow,hle⟩:=own_ents hO.out.1
  have HB:=Lib.hid hO.out.2
  clear hO hrow ME
  obtain ⟨n,hn⟩:∃ n,n=es.length:=⟨_,rfl⟩
  rw [← hn] at hle ⊢
  have hl1:=HL.out
  rw [← hn] at hl1
  clear hn
  have hl2:decide ((0:Int)<(n:Int))=true:=decide_eq_true (by omega)
  have B0:=HB.out
  obtain ⟨bc,bf⟩:=settle_cells B0
  have c7':w1.cell? ⟨gb i,7,none⟩=some (.bool true):=(bc (gb i) 7 lt1).trans c7
  clear bc bf B0
  go_wp2_with fail
  refine bodyPost_ret (results_none rfl _ _ _) rfl ?_
  exact ⟨rfl,(below_drewN (Below.refl _ _) _).trans (HB.out.mono (by simp))⟩
end
end Go.Proofs.YtefekboacghnjaaGreat
namespace Go.Proofs.YtefekboacghnjaaGreat
open Go.RowKit Go.Maps
section
variable {w w':World} {h:Nat} {gb qb:Nat→Nat} {Fq:Nat→List Nat} {S:HS} {K:Int} {F:List Nat}
set_option maxRecDepth 100000 in
set_option maxHeartbeats 8000000 in
theorem settle_put (m:HMem w h gb qb Fq S K) (hK:K+1000≤1000000000000000) {i u:Nat} {x p:Gr} (hg:S.G i=some x) (hu:x.up=((u:Nat):Int)) (hp:S.G u=some p) (hne:u≠i) (hnum:x.own.num) (hs:shouldB x=true) (hon:x.on=false) (R:World→Prop)
  (M:∀ W F',HTurned w (hblocks h gb Fq S) h (stepH S i u x p) (K+1000) W F'→Calls Tryz.prog 44 #[.pointer (some ⟨h,0,none⟩),.int .i64 (u:Int)] W fun e w'=>e=.returned (.tuple #[])∧R w') :
  Calls Tryz.prog 44 #[.pointer (some ⟨h,0,none⟩),.int .i64 (i:Int)] w fun e w'=>e=.returned (.tuple #[])∧R w':=by
 have c:=m.gcells hg
 have d:=m.gcells hp
 have hi:=m.idx hg
 have hui:=m.idx hp
 have c1:=c.p
 have c2:=c.x0
 have c3:=c.x2
 have c7:=c.x7
 have c8:=c.x8
 have d1:=d.p
 have d2:=d.x2
 rw [hu] at c2
 have z0:(0:Int)≤(i:Int):=by omega
 have z1:(i:Int)<32:=by omega
 have z2:(0:Int)≤(u:Int):=by omega
 have z3:(u:Int)<32:=by omega
 have z4:decide ((u:Int) = -1)=false:=decide_eq_false (by omega)
 have lt1:=(m.grp i x hg).lt
 have ME:=fun n=>qents_any ((m.que i x hg).below (below_drewN (Below.refl _ _) n))
 have hlen:=ents_pos (m.que i x hg).ok
 rcases shouldB_cases x with ⟨s1,s2⟩ | ⟨s1,s2,s3⟩ | ⟨s1,s2,s3⟩
 · rw [s2] at hs;simp at hs
 · rw [s3] at hs;simp at hs
 rw [hon] at c7
 rw [s1] at c8
 have ME:=Lib.hid ME
 generalize hes:x.q.ents=es at *
 have hl0:0<es.length:=by rw [hlen];exact s2
 have HL:=Lib.hid hl0
 have HM:=Lib.hid (And.intro m (And.intro hg (And.intro hp (And.intro hne (And.intro hnum (And.intro hs hon))))))
 have HR:=Lib.hid M
 have HU:=Lib.hid hu
 clear m hg hp c d hs s1 s2 s3 hlen hl0 hu hes hnum hon M
 go_enter Tryz.func44,Tryz.ntmps44
 go_wp2_with fail
 go_big_quiet (fail)
 go_wp2_with fail
 refine (ME.out _).mono ?_
 rintro r w1 ⟨v,rfl,hO⟩
 obtain ⟨A,cc,rfl,hrow,hle⟩:=own_ents hO.out.1
 have HB:=Lib.hid hO.out.2
 clear hO hrow ME
 obtain ⟨n,hn⟩:∃ n,n=es.length:=⟨_,rfl⟩
 rw [← hn] at hle ⊢
 have hl1:=HL.out
 rw [← hn] at hl1
 clear hn
 have hl2:decide ((0:Int)<(n:Int))=true:=decide_eq_true (by omega)
 have B0:=HB.out
 obtain ⟨bc,bf⟩:=settle_cells B0
 have c7':w1.cell? ⟨gb i,7,none⟩=some (.bool false):=(bc (gb i) 7 lt1).trans c7
 clear bc bf B0 c7
 go_wp2_with fail
 have hB1:Below w.heap.size w w1:=(below_drewN (Below.refl _ _) _).trans (HB.out.mono (by simp))
 have m1:=HM.out.1.below hB1
 have c:=m1.gcells HM.out.2.1
 have f:=(m1.cells HM.out.2.1).2.2.2.2.2.2.2.2.2
 have e0:=c.cr
 have e5:=c.x5
 have MM:=Lib.hid (fun W (hW:Below w1.heap.size w1 W)=>qmin_any ((m1.que u p HM.out.2.2.1).below hW))
 have MW:=Lib.hid (fun W=>wake_any x.own.v p.q.mn S.credit (m1.que u p HM.out.2.2.1).ok.m1 (m1.que u p HM.out.2.2.1).ok.m2 W)
 have HM1:=Lib.hid (And.intro m1 hB1)
 clear c1 c2 c3 c7' c8 d1 d2 c m1 hB1 lt1 HB
 obtain ⟨v2,hv2⟩:∃ v2,v2=wakeZ x.own.v p.q.mn S.credit:=⟨_,rfl⟩
 rw [← hv2] at MW
 have HV2:=Lib.hid hv2
 clear hv2
 obtain ⟨xv,hxv⟩:∃ xv,xv=x.own.v:=⟨_,rfl⟩
 obtain ⟨cr,hcr⟩:∃ cr,cr=S.credit:=⟨_,rfl⟩
 obtain ⟨pm,hpm⟩:∃ pm,pm=p.q.mn:=⟨_,rfl⟩
 rw [← hxv] at e5 MW
 rw [← hcr] at e0 MW
 rw [← hpm] at MW MM
 have HX:=Lib.hid (And.intro hxv (And.intro hcr hpm))
 have MW2:Hid (∀ W,Below w1.heap.size w1 W→Calls Tryz.prog 83 #[.int .i64 xv,.int .i64 pm,.int .i64 cr] W fun e w'=>e=.returned (.int .i64 v2)∧(w'.cell? ⟨gb i,5,none⟩=some (.int .i64 xv)∧w'.frozen? ⟨gb i,5,none⟩=false)∧Hid (Below w1.heap.size w1 w')):=Lib.hid fun W hW=>(MW.out W).mono fun e w' hp=>by
  have hB:=hW.trans (hp.2.mono hW.size)
  have c:=HM1.out.1.below hB
  have g:=c.gcells HM.out.2.1
  exact ⟨hp.1,⟨by rw [hxv];exact g.x5,(c.cells HM.out.2.1).2.2.2.2.2.2.2.2.2 5⟩,hB⟩
 clear hxv hcr hpm MW
 apply wp_region_to (fun W=>Hid (HMem W h gb qb Fq (S.put i (some { x with own:={ x.own with v:=v2 } })) K∧Turns (hblocks h gb Fq S) w W))
 case h =>
  go_region_with (first
   | (go_at_call 76;refine (MM.out _ (by first | exact (Below.refl _ _).drew | exact Below.refl _ _)).mono ?_;rintro r w' ⟨rfl,rfl⟩)
   | (go_at_call 83;refine (MW2.out _ (by first | exact (Below.refl _ _).drew | exact Below.refl _ _)).mono ?_;rintro r w5 ⟨rfl,⟨y5,yf⟩,HB5⟩))
  all_goals
   refine ⟨rfl,?_⟩
   have m5:=HM1.out.1.below HB5.out
   have hb:=Blk.set (m5.grp i x HM.out.2.1) 5 (.int .i64 v2)
   exact ⟨m5.group HM.out.2.1 (g':={ x with own:={ x.own with v:=v2 } }) rfl hb rfl (fun b _ hb=>Below.heap_setCell _ _ _ _ hb),((Turns.of_below HM1.out.2).below HB5.out HM1.out.2.size).setCell (.inl ((hblocks_mem m5.top).2 (.inr ⟨i,x,HM.out.2.1,.inl rfl⟩))) _⟩
 rintro W6 HM6
 clear e0 e5 f MM MW2 HX
 have hg6:Hid ((S.put i (some { x with own:={ x.own with v:=v2 } })).G i=some { x with own:={ x.own with v:=v2 } } ∧ (S.put i (some { x with own:={ x.own with v:=v2 } })).G u=some p):=Lib.hid ⟨HS.put_same _ _ _,(HS.put_other _ _ hne).trans HM.out.2.2.1⟩
 obtain ⟨d3,d4,d5,d6⟩:W6.cell? ⟨gb i,3,none⟩=some (.int .i64 x.own.id)∧W6.cell? ⟨gb i,4,none⟩=some (.int .u64 x.own.wt)∧W6.cell? ⟨gb i,5,none⟩=some (.int .i64 v2)∧W6.cell? ⟨gb i,6,none⟩=some (.int .u64 x.own.rem):=by
  have g:=HM6.out.1.gcells hg6.out.1
  exact ⟨g.x3,g.x4,g.x5,g.x6⟩
 have MP:=fun (hq:QAt W6 (qb u) (Fq u) p.q K)=>qput_any hq hK { x.own with v:=v2 } HM.out.2.2.2.2.1.i1 HM.out.2.2.2.2.1.i2 (by rw [HV2.out];exact (wakeZ_i64 HM.out.2.2.2.2.1.v1 HM.out.2.2.2.2.1.v2).1) (by rw [HV2.out];exact (wakeZ_i64 HM.out.2.2.2.2.1.v1 HM.out.2.2.2.2.1.v2).2) HM.out.2.2.2.2.1.w2 HM.out.2.2.2.2.1.r2
 have MP:=Lib.hid (MP (HM6.out.1.que u p hg6.out.2))
 go_wp2_with fail
 refine MP.out.mono ?_
 rintro r w7 ⟨F7,rfl,HT7⟩
 have m7:=HM6.out.1.queue hg6.out.2 HT7.out (by omega) hK
 have s7:=HM6.out.1.queue_sub hg6.out.2 HT7.out
 have t7:=HM6.out.2.trans ((HM6.out.1.queue_turns hg6.out.2 HT7.out.turns).mono (fun b hb=>by rw [hblocks_same HM1.out.1 HM.out.2.1] at hb;exact hb))
 have hg7:((S.put i (some { x with own:={ x.own with v:=v2 } })).put u (some { p with q:=putQ p.q { x.own with v:=v2 } })).G i=some { x with own:={ x.own with v:=v2 } }:=(HS.put_other _ _ (Ne.symm hne)).trans hg6.out.1
 obtain ⟨-,-,-,-,-,-,-,y7,-,yf⟩:=m7.cells hg7
 have y0:=(m7.cells hg7).1
 rw [HU.out] at y0
 have HM7:=Lib.hid (And.intro m7 (And.intro s7 (And.intro t7 hg7)))
 clear d3 d4 d5 d6 MP m7 s7 t7 hg7
 go_wp2_with fail
 have m8:HMem (w7.setCell ⟨gb i,7,none⟩ (.bool true)) h gb qb (fun j=>if j=u then F7 else Fq j) (stepH S i u x p) (K+1000):=by
  have hb:=Blk.set (HM7.out.1.grp i _ HM7.out.2.2.2) 7 (.bool true)
  have:=HM7.out.1.group HM7.out.2.2.2 (g':={ x with own:={ x.own with v:=v2 },on:=true }) rfl hb rfl (fun b _ hb=>Below.heap_setCell _ _ _ _ hb)
  rw [HS.put3 S hne] at this
  unfold stepH
  rw [if_pos HM.out.2.2.2.2.2.1,← HV2.out]
  exact this
 have hF8:hblocks h gb (fun j=>if j=u then F7 else Fq j) (stepH S i u x p)=hblocks h gb (fun j=>if j=u then F7 else Fq j) ((S.put i (some { x with own:={ x.own with v:=v2 } })).put u (some { p with q:=putQ p.q { x.own with v:=v2 } })):=by
  have:=hblocks_same HM7.out.1 HM7.out.2.2.2 (g':={ x with own:={ x.own with v:=v2 },on:=true })
  rw [HS.put3 S hne] at this
  unfold stepH
  rw [if_pos HM.out.2.2.2.2.2.1,← HV2.out]
  exact this
 have hT8:HTurned w (hblocks h gb Fq S) h (stepH S i u x p) (K+1000) (w7.setCell ⟨gb i,7,none⟩ (.bool true)) (hblocks h gb (fun j=>if j=u then F7 else Fq j) (stepH S i u x p)):=by
  refine ⟨⟨gb,qb,_,m8,rfl⟩,HM7.out.2.2.1.setCell (.inl ((hblocks_mem HM.out.1.top).2 (.inr ⟨i,x,HM.out.2.1,.inl rfl⟩))) _,fun b hb=>?_⟩
  rw [hF8] at hb
  rcases HM7.out.2.1 b hb with hb | hb
  ·
   rw [hblocks_same HM1.out.1 HM.out.2.1] at hb
   exact .inl hb
  ·
   have:=HM6.out.2.size
   exact .inr (by omega)
 refine (HR.out _ _ hT8).mono ?_
 rintro r w9 ⟨rfl,hR⟩
 have HR9:=Lib.hid hR
 clear hR m8 hF8 hT8
 go_wp2_with fail
 go_end0
 exact ⟨rfl,HR9.out⟩
end
end Go.Proofs.YtefekboacghnjaaGreat
namespace Go.Proofs.YtefekboacghnjaaGreat
open Go.RowKit Go.Maps
section
variable {w w':World} {h:Nat} {gb qb:Nat→Nat} {Fq:Nat→List Nat} {S:HS} {K:Int} {F:List Nat}
set_option maxRecDepth 100000 in
set_option maxHeartbeats 8000000 in
theorem settle_drop (m:HMem w h gb qb Fq S K) (hK:K+1000≤1000000000000000) {i u:Nat} {x p:Gr} (hg:S.G i=some x) (hu:x.up=((u:Nat):Int)) (hp:S.G u=some p) (hne:u≠i) (hs:shouldB x=false) (hon:x.on=true) (R:World→Prop)
  (M:∀ W F',HTurned w (hblocks h gb Fq S) h (stepH S i u x p) (K+1000) W F'→Calls Tryz.prog 44 #[.pointer (some ⟨h,0,none⟩),.int .i64 (u:Int)] W fun e w'=>e=.returned (.tuple #[])∧R w') :
  Calls Tryz.prog 44 #[.pointer (some ⟨h,0,none⟩),.int .i64 (i:Int)] w fun e w'=>e=.returned (.tuple #[])∧R w':=by
 have c:=m.gcells hg
 have d:=m.gcells hp
 have hi:=m.idx hg
 have hui:=m.idx hp
 have c1:=c.p
 have c2:=c.x0
 have c3:=c.x2
 have c7:=c.x7
 have c8:=c.x8
 have d1:=d.p
 have d2:=d.x2
 rw [hu] at c2
 have z0:(0:Int)≤(i:Int):=by omega
 have z1:(i:Int)<32:=by omega
 have z2:(0:Int)≤(u:Int):=by omega
 have z3:(u:Int)<32:=by omega
 have z4:decide ((u:Int) = -1)=false:=decide_eq_false (by omega)
 have lt1:=(m.grp i x hg).lt
 have ME:=fun n=>qents_any ((m.que i x hg).below (below_drewN (Below.refl _ _) n))
 have hlen:=ents_pos (m.que i x hg).ok
 have MI:=Lib.hid fun W=>hid_any i hi W
 rw [hon] at c7
 have HM:=Lib.hid (And.intro m (And.intro hg (And.intro hp (And.intro hne (And.intro hs hon)))))
 have HR:=Lib.hid M
 have HU:=Lib.hid hu
 -- behind the tests
 have MD:Hid (∀ W,Below w.heap.size w W→Calls Tryz.prog 65 #[.pointer (some ⟨qb u,0,none⟩),.int .i64 (2*(i:Int)+1)] W fun r w'=>∃ F',r=.returned (dropV (p.q.get (2*(i:Int)+1)))∧Hid (QTurned W (Fq u) (qb u) (dropQ p.q (2*(i:Int)+1)) (K+1000) w' F')):=Lib.hid fun W hW=>qdrop_any ((m.below hW).que u p hp) hK (2*(i:Int)+1) (by omega) (by omega)
 obtain ⟨oe,hoe⟩:∃ oe,oe=p.q.get (2*(i:Int)+1):=⟨_,rfl⟩
 rw [← hoe] at MD
 obtain ⟨e0,he0,hv0⟩:∃ e0:En,e0=oe.getD ⟨0,0,0,0⟩∧∃ code:Int,dropV oe=.tuple #[.agg #[.int .i64 e0.id,.int .u64 e0.wt,.int .i64 e0.v,.int .u64 e0.rem],.int .i64 code]:=by
  cases oe with
  | none=>exact ⟨⟨0,0,0,0⟩,rfl,12,rfl⟩
  | some e=>exact ⟨e,rfl,0,rfl⟩
 obtain ⟨code,hv0⟩:=hv0
 rw [hv0] at MD
 have HE:=Lib.hid (And.intro hoe he0)
 clear hoe he0 hv0
 -- the end, behind the drop
 have END:Hid (∀ w1 w7 F7,Below w.heap.size w w1→QTurned w1 (Fq u) (qb u) (dropQ p.q (2*(i:Int)+1)) (K+1000) w7 F7→∃ F',HTurned w (hblocks h gb Fq S) h (stepH S i u x p) (K+1000) ((set4 w7 (gb i) 3 e0).setCell ⟨gb i,7,none⟩ (.bool false)) F'):=Lib.hid fun w1 w7 F7 hB hT=>by
  have m1:=HM.out.1.below hB
  have m7:=m1.queue HM.out.2.2.1 hT (by omega) hK
  have s7:=m1.queue_sub HM.out.2.2.1 hT
  have t7:=(Turns.of_below hB).trans (m1.queue_turns HM.out.2.2.1 hT.turns)
  have hg7:(S.put u (some { p with q:=dropQ p.q (2*(i:Int)+1) })).G i=some x:=(HS.put_other _ _ (Ne.symm hne)).trans HM.out.2.1
  have hb7:=m7.grp i _ hg7
  have hb8:Blk (set4 w7 (gb i) 3 e0) (gb i) _ _:=Blk.set (Blk.set (Blk.set (Blk.set hb7 3 (.int .i64 e0.id)) 4 (.int .u64 e0.wt)) 5 (.int .i64 e0.v)) 6 (.int .u64 e0.rem)
  have m8:=m7.group hg7 (g':={ x with own:=e0 }) rfl hb8 rfl (fun b _ hb=>set4_other _ _ _ _ hb)
  have hg8:((S.put u (some { p with q:=dropQ p.q (2*(i:Int)+1) })).put i (some { x with own:=e0 })).G i=some { x with own:=e0 }:=HS.put_same _ _ _
  have hb9:=Blk.set (m8.grp i _ hg8) 7 (.bool false)
  have m9:=m8.group hg8 (g':={ x with own:=e0,on:=false }) rfl hb9 rfl (fun b _ hb=>Below.heap_setCell _ _ _ _ hb)
  have e8:=hblocks_same m7 hg7 (g':={ x with own:=e0 })
  have e9:=hblocks_same m8 hg8 (g':={ x with own:=e0,on:=false })
  rw [HS.put_put] at m9 e9
  have hst:stepH S i u x p=(S.put u (some { p with q:=dropQ p.q (2*(i:Int)+1) })).put i (some { x with own:=e0,on:=false }):=by
   unfold stepH
   rw [if_neg (by rw [HM.out.2.2.2.2.1];decide),← HE.out.1,← HE.out.2]
  have hin:gb i ∈ hblocks h gb Fq S:=(hblocks_mem HM.out.1.top).2 (.inr ⟨i,x,HM.out.2.1,.inl rfl⟩)
  rw [← hst] at m9 e9
  refine ⟨_,⟨gb,qb,_,m9,rfl⟩,(t7.trans (set4_turns _ _ _ _ hin)).setCell (.inl hin) _,fun b hb=>?_⟩
  rw [e9,e8] at hb
  rcases s7 b hb with hb | hb
  · exact .inl hb
  ·
   have:=hB.size
   exact .inr (by omega)
 have HCELL:Hid (∀ w1 w7 F7,Below w.heap.size w w1→QTurned w1 (Fq u) (qb u) (dropQ p.q (2*(i:Int)+1)) (K+1000) w7 F7→w7.cell? ⟨gb i,0,none⟩=some (.int .i64 (u:Int))∧(w7.cell? ⟨gb i,3,none⟩=some (.int .i64 x.own.id)∧w7.cell? ⟨gb i,4,none⟩=some (.int .u64 x.own.wt)∧w7.cell? ⟨gb i,5,none⟩=some (.int .i64 x.own.v)∧w7.cell? ⟨gb i,6,none⟩=some (.int .u64 x.own.rem)∧w7.cell? ⟨gb i,7,none⟩=some (.bool x.on))∧∀ j,w7.frozen? ⟨gb i,j,none⟩=false):=Lib.hid fun w1 w7 F7 hB hT=>by
  have m1:=HM.out.1.below hB
  have m7:=m1.queue HM.out.2.2.1 hT (by omega) hK
  have hg7:(S.put u (some { p with q:=dropQ p.q (2*(i:Int)+1) })).G i=some x:=(HS.put_other _ _ (Ne.symm hne)).trans HM.out.2.1
  have:=m7.cells hg7
  exact ⟨by rw [← HU.out];exact this.1,⟨this.2.2.2.1,this.2.2.2.2.1,this.2.2.2.2.2.1,this.2.2.2.2.2.2.1,this.2.2.2.2.2.2.2.1⟩,this.2.2.2.2.2.2.2.2.2⟩
 rcases shouldB_cases x with ⟨s1,s2⟩ | ⟨s1,s2,s3⟩ | ⟨s1,s2,s3⟩
 ·
  rw [s1] at c8
  clear m hg hp c d hs s1 s2 hlen hu hon M ME
  go_enter Tryz.func44,Tryz.ntmps44
  go_wp2_with fail
  go_big_quiet (fail)
  go_wp2_with fail
  refine (MI.out _).mono ?_
  rintro r w' ⟨rfl,rfl⟩
  go_wp2_with fail
  refine (MD.out _ (below_drewN (Below.refl _ _) _)).mono ?_
  rintro r w7 ⟨F7,rfl,HT7⟩
  obtain ⟨y0,⟨y3,y4,y5,y6,y7⟩,yf⟩:=HCELL.out _ _ _ (below_drewN (Below.refl _ _) _) HT7.out
  clear c1 c2 c3 c7 c8 d1 d2 MD MI
  go_wp2_with fail
  obtain ⟨F',hT8⟩:=END.out _ _ _ (below_drewN (Below.refl _ _) _) HT7.out
  refine (HR.out _ _ hT8).mono ?_
  rintro r w9 ⟨rfl,hR⟩
  have HR9:=Lib.hid hR
  clear hR hT8
  go_wp2_with fail
  go_end0
  exact ⟨rfl,HR9.out⟩
 ·
  rw [s1] at c8
  have ME:=Lib.hid ME
  generalize hes:x.q.ents=es at *
  have hl0:es.length=0:=by rw [hlen,s2];rfl
  have HL:=Lib.hid hl0
  clear m hg hp c d hs s1 s2 s3 hlen hl0 hu hon M hes
  go_enter Tryz.func44,Tryz.ntmps44
  go_wp2_with fail
  go_big_quiet (fail)
  go_wp2_with fail
  refine (ME.out _).mono ?_
  rintro r w1 ⟨v,rfl,hO⟩
  obtain ⟨A,cc,rfl,hrow,hle⟩:=own_ents hO.out.1
  have HB:=Lib.hid hO.out.2
  clear hO hrow ME
  obtain ⟨n,hn⟩:∃ n,n=es.length:=⟨_,rfl⟩
  rw [← hn] at hle ⊢
  have hl1:=HL.out
  rw [← hn] at hl1
  clear hn
  subst hl1
  have B0:=HB.out
  obtain ⟨bc,bf⟩:=settle_cells B0
  have c7':w1.cell? ⟨gb i,7,none⟩=some (.bool true):=(bc (gb i) 7 lt1).trans c7
  have HB1:=Lib.hid ((below_drewN (Below.refl w.heap.size w) _).trans (HB.out.mono (by simp)))
  clear bc bf B0 c7 HB
  go_wp2_with fail
  refine (MI.out _).mono ?_
  rintro r w' ⟨rfl,rfl⟩
  go_wp2_with fail
  refine (MD.out _ HB1.out).mono ?_
  rintro r w7 ⟨F7,rfl,HT7⟩
  obtain ⟨y0,⟨y3,y4,y5,y6,y7⟩,yf⟩:=HCELL.out _ _ _ HB1.out HT7.out
  clear c1 c2 c3 c7' c8 d1 d2 MD MI
  go_wp2_with fail
  obtain ⟨F',hT8⟩:=END.out _ _ _ HB1.out HT7.out
  refine (HR.out _ _ hT8).mono ?_
  rintro r w9 ⟨rfl,hR⟩
  have HR9:=Lib.hid hR
  clear hR hT8
  go_wp2_with fail
  go_end0
  exact ⟨rfl,HR9.out⟩
 · rw [s3] at hs;simp at hs
end
end Go.Proofs.YtefekboacghnjaaGreat
namespace Go.Proofs.YtefekboacghnjaaGreat
open Go.RowKit Go.Maps
section
variable {S:HS}
theorem settleH_root {n i:Nat} {x:Gr} (hi:S.G i=some x) (hu:x.up = -1):settleH (n+1) S i=S:=by
 unfold settleH
 rw [hi]
 dsimp only
 rw [if_pos hu]
theorem settleH_same {n i u:Nat} {x:Gr} (hi:S.G i=some x) (hu:x.up=((u:Nat):Int)) (hs:shouldB x=x.on):settleH (n+1) S i=S:=by
 unfold settleH
 rw [hi]
 dsimp only
 rw [if_neg (by omega),if_pos hs]
theorem settleH_step {n i u:Nat} {x p:Gr} (hi:S.G i=some x) (hu:x.up=((u:Nat):Int)) (hp:S.G u=some p) (hs:shouldB x≠x.on):settleH (n+1) S i=settleH n (stepH S i u x p) u:=by
 have hu2:x.up.toNat=u:=by omega
 conv=>lhs;unfold settleH
 rw [hi]
 dsimp only
 rw [if_neg (by omega),if_neg hs,hu2,hp]
end
theorem hsettle_any:∀ (n:Nat) {w:World} {h:Nat} {F:List Nat} {S:HS} {K:Int} {i:Nat} (_H:HAt w h F S K) (_hK:K+1000*(n:Int)≤1000000000000000) (_hc:Chain S n i),
  Calls Tryz.prog 44 #[.pointer (some ⟨h,0,none⟩),.int .i64 (i:Int)] w fun e w'=>e=.returned (.tuple #[])∧∃ F',Hid (HTurned w F h (settleH n S i) (K+1000*(n:Int)) w' F')
 | 0,_,_,_,_,_,_,_,_,hc=>by cases hc
 | n+1,w,h,F,S,K,i,H,hK,hc=>by
  have hK2:K+1000*((n:Int)+1)≤1000000000000000:=by have:=hK;push_cast at this;exact this
  have hcast:K+1000*((n+1:Nat):Int)=K+1000*((n:Int)+1):=by push_cast;rfl
  rw [hcast]
  obtain ⟨gb,qb,Fq,m,rfl⟩:=H.ex
  have idle:∀ w',Below w.heap.size w w'→∃ F',Hid (HTurned w (hblocks h gb Fq S) h S (K+1000*((n:Int)+1)) w' F'):=fun w' hB =>
   ⟨_,⟨(HAt.mk ⟨gb,qb,Fq,m.below hB,rfl⟩).mono (by omega) hK2,Turns.of_below hB,fun _ hb=>.inl hb⟩⟩
  cases hc with
  | root h1 h2 =>
   rw [settleH_root h1 h2]
   exact (settle_root m h1 h2).mono fun e w' hp=>⟨hp.1,idle w' (by rw [← hp.2];exact Below.refl _ _)⟩
  | step h1 h2 h3 h4 h5 h6 =>
   rename_i u x p
   by_cases hs:shouldB x=x.on
   ·
    rw [settleH_same h1 h2 hs]
    exact (settle_same m h1 h2 h4 hs).mono fun e w' hp=>⟨hp.1,idle w' hp.2⟩
   ·
    rw [settleH_step h1 h2 h4 hs]
    have hc2:=stepH_chain h1 h4 h5 h3 (m.que u p h4).ok h6
    have M:∀ W F',HTurned w (hblocks h gb Fq S) h (stepH S i u x p) (K+1000) W F'→Calls Tryz.prog 44 #[.pointer (some ⟨h,0,none⟩),.int .i64 (u:Int)] W fun e w'=>e=.returned (.tuple #[])∧∃ F',Hid (HTurned w (hblocks h gb Fq S) h (settleH n (stepH S i u x p) u) (K+1000*((n:Int)+1)) w' F'):=fun W F' hT=>by
     refine (hsettle_any n hT.at_ (by omega) hc2).mono fun e w' hp=>?_
     obtain ⟨he,F2,hT2⟩:=hp
     have e2:K+1000+1000*(n:Int)=K+1000*((n:Int)+1):=by omega
     have:=hT.trans hT2.out
     rw [e2] at this
     exact ⟨he,F2,this⟩
    cases hsh:shouldB x with
    | true =>
     have hon:x.on=false:=by
      cases hx:x.on with
      | false=>rfl
      | true=>rw [hsh,hx] at hs;exact absurd rfl hs
     exact settle_put m (by omega) h1 h2 h4 h5 h3 hsh hon _ M
    | false =>
     have hon:x.on=true:=by
      cases hx:x.on with
      | true=>rfl
      | false=>rw [hsh,hx] at hs;exact absurd rfl hs
     exact settle_drop m (by omega) h1 h2 h4 h5 hsh hon _ M
end Go.Proofs.YtefekboacghnjaaGreat
namespace Go.Proofs.YtefekboacghnjaaGreat
open Go.RowKit Go.Maps
def dblE (e:En):En:={ e with id:=2*e.id }
def putHS (S:HS) (i:Nat) (x:Gr) (e:En):HS:=if putC x.q e=0 then settleH 9 (S.put i (some { x with q:=putQ x.q e })) i else S
def dropHS (S:HS) (i:Nat) (x:Gr) (k:Int):HS:=match x.q.get k with
 | none=>S
 | some _=>settleH 9 (S.put i (some { x with q:=dropQ x.q k })) i
def stopHS (S:HS) (i:Nat) (x:Gr) (is:Bool):HS:=settleH 9 (S.put i (some { x with stopped:=is })) i
section
variable {w w':World} {h:Nat} {gb qb:Nat→Nat} {Fq:Nat→List Nat} {S:HS} {K K':Int} {F:List Nat}
theorem Chain.put {S:HS} {i:Nat} {x y:Gr} (hi:S.G i=some x) (h1:y.up=x.up) (h2:x.own.num→y.own.num) {n j:Nat} (c:Chain S n j):Chain (S.put i (some y)) n j :=
 c.congr fun k z hk=>by
  by_cases hki:k=i
  ·
   subst hki
   rw [hi] at hk
   injection hk with hk
   subst hk
   exact ⟨y,HS.put_same _ _ _,h1,h2⟩
  · exact ⟨z,(HS.put_other _ _ hki).trans hk,rfl,fun h=>h⟩
theorem HMem.turned (m:HMem w h gb qb Fq S K) {i:Nat} {g:Gr} (hg:S.G i=some g) {X:QS} {Fi:List Nat} (hT:QTurned w (Fq i) (qb i) X K' w' Fi) (hK:K≤K') (h2:K'≤1000000000000000) :
  ∃ F',HTurned w (hblocks h gb Fq S) h (S.put i (some { g with q:=X })) K' w' F' :=
 ⟨_,⟨gb,qb,_,m.queue hg hT hK h2,rfl⟩,m.queue_turns hg hT.turns,m.queue_sub hg hT⟩
theorem HMem.gturned (m:HMem w h gb qb Fq S K) {i:Nat} {g g':Gr} (hg:S.G i=some g) (hq:g'.q=g.q) {cs:Array Value} (hb:Blk w' (gb i) cs 59) (hcs:cs=Go.Proofs.YtefekboacghnjaaGreat.gcells (qb i) g') (e:∀ b,b≠gb i→w'.heap[b]?=w.heap[b]?) (hT:Turns [gb i] w w') :
  HTurned w (hblocks h gb Fq S) h (S.put i (some g')) K w' (hblocks h gb Fq S) :=
 ⟨⟨gb,qb,Fq,m.group hg hq hb hcs (fun b _ hb=>e b hb),(hblocks_same m hg).symm⟩,hT.mono fun b hb=>by
  rw [List.mem_singleton] at hb
  exact (hblocks_mem m.top).2 (.inr ⟨i,g,hg,.inl hb⟩),fun _ hb=>.inl hb⟩
set_option maxRecDepth 100000 in
set_option maxHeartbeats 4000000 in
theorem hput_some (H:HAt w h F S K) (hK:K+10000≤1000000000000000) {i:Nat} {x:Gr} (hg:S.G i=some x) (hc:Chain S 9 i) (e:En) (he:e.num) (t0:0≤e.id) (t1:e.id<64) :
  Calls Tryz.prog 10 #[.pointer (some ⟨h,0,none⟩),.int .i64 (i:Int),enV e] w fun r w'=>r=.returned (.int .i64 (putC x.q (dblE e)))∧∃ F',Hid (HTurned w F h (putHS S i x (dblE e)) (K+10000) w' F'):=by
 obtain ⟨gb,qb,Fq,m,rfl⟩:=H.ex
 obtain ⟨W1,hW1⟩:∃ W1,W1=w.alloc (.cells #[.int .i64 e.id,.int .u64 e.wt,.int .i64 e.v,.int .u64 e.rem] 34):=⟨_,rfl⟩
 have hb1:Below w.heap.size w W1:=by rw [hW1];exact (Below.refl _ _).alloc (Nat.le_refl _) _
 have hx1:Blk W1 w.heap.size #[.int .i64 e.id,.int .u64 e.wt,.int .i64 e.v,.int .u64 e.rem] 34:=by rw [hW1];exact Blk.new _ _ _
 have d0:W1.cell? ⟨w.heap.size,0,none⟩=some (.int .i64 e.id):=Blk.cell hx1 0
 have d1:W1.cell? ⟨w.heap.size,1,none⟩=some (.int .u64 e.wt):=Blk.cell hx1 1
 have d2:W1.cell? ⟨w.heap.size,2,none⟩=some (.int .i64 e.v):=Blk.cell hx1 2
 have d3:W1.cell? ⟨w.heap.size,3,none⟩=some (.int .u64 e.rem):=Blk.cell hx1 3
 have df:=Blk.frozen hx1
 have m1:=m.below hb1
 have x2:=(m1.cells hg).2.2.1
 have hne:gb i≠w.heap.size:=by have:=(m.grp i x hg).lt;omega
 have ne1:(gb i=w.heap.size)=False:=eq_false hne
 have ne2:(w.heap.size=gb i)=False:=eq_false (Ne.symm hne)
 have MA:=Lib.hid (hat_some m1 hg)
 have MT:=Lib.hid fun W=>htask_any e.id W
 rw [decide_eq_true (show 0≤e.id∧e.id<64 from ⟨t0,t1⟩)] at MT
 obtain ⟨W2,hW2⟩:∃ W2,W2=W1.setCell ⟨w.heap.size,0,none⟩ (.int .i64 (2*e.id)):=⟨_,rfl⟩
 have hb2:Below w.heap.size w W2:=by rw [hW2];exact hb1.setCell (Nat.le_refl _) _
 have hx2:Blk W2 w.heap.size #[.int .i64 (2*e.id),.int .u64 e.wt,.int .i64 e.v,.int .u64 e.rem] 34:=by rw [hW2];exact Blk.set hx1 0 _
 have m2:=m.below hb2
 have MP:Hid (∀ W,Below w.heap.size w W→Calls Tryz.prog 43 #[.pointer (some ⟨qb i,0,none⟩),.agg #[.int .i64 (2*e.id),.int .u64 e.wt,.int .i64 e.v,.int .u64 e.rem]] W fun r w'=>r=.returned (.int .i64 (putC x.q (dblE e)))∧∃ F',Hid (HTurned W (hblocks h gb Fq S) h (S.put i (some { x with q:=putQ x.q (dblE e) })) (K+1000) w' F')):=Lib.hid fun W hW=>by
  have mW:=m.below hW
  refine (qput_any (mW.que i x hg) (by omega) (dblE e) (by show _≤2*e.id;omega) (by show 2*e.id≤_;omega) he.v1 he.v2 he.w2 he.r2).mono fun r w' hp=>?_
  obtain ⟨F',hr,hT⟩:=hp
  exact ⟨hr,mW.turned hg hT.out (by omega) (by omega)⟩
 have e2:e.id*2=2*e.id:=Int.mul_comm _ _
 have HW1:=Lib.hid hW1
 have HW2:=Lib.hid hW2
 have HB:=Lib.hid (And.intro hb1 (And.intro hb2 hx2))
 have HH:=Lib.hid (And.intro m (And.intro hg hc))
 have HN:=Lib.hid he
 have y2:W2.cell? ⟨gb i,2,none⟩=some (.pointer (some ⟨qb i,0,none⟩)):=(m2.cells hg).2.2.1
 have y3:W2.cell? ⟨w.heap.size,0,none⟩=some (.int .i64 (2*e.id)):=Blk.cell hx2 0
 have y4:W2.cell? ⟨w.heap.size,1,none⟩=some (.int .u64 e.wt):=Blk.cell hx2 1
 have y5:W2.cell? ⟨w.heap.size,2,none⟩=some (.int .i64 e.v):=Blk.cell hx2 2
 have y6:W2.cell? ⟨w.heap.size,3,none⟩=some (.int .u64 e.rem):=Blk.cell hx2 3
 obtain ⟨pc,hpc⟩:∃ pc,pc=putC x.q (dblE e):=⟨_,rfl⟩
 rw [← hpc] at MP ⊢
 have HPC:=Lib.hid hpc
 clear hW1 hW2 hb1 hb2 hx1 hx2 m m1 m2 hg hc H he hne hpc
 go_enter Tryz.func10,Tryz.ntmps10
 go_wp2_with fail
 rw [← HW1.out]
 refine MA.out.mono ?_
 rintro r w' ⟨rfl,rfl⟩
 go_wp2_with fail
 refine (MT.out _).mono ?_
 rintro r w' ⟨rfl,rfl⟩
 go_wp2_with fail
 rw [← HW2.out]
 clear x2 d0 d1 d2 d3 df
 go_still_tail 5,(by kernel_rfl)
 change wpList _ _ _ _ _ (W2.drew)
 go_wp2_with fail
 refine (MP.out _ (HB.out.2.1.drew)).mono ?_
 rintro r w7 ⟨rfl,F7,HT7⟩
 by_cases hz:pc=0
 ·
  have HZ:=Lib.hid hz
  have hz1:(pc != 0)=false:=by rw [hz];rfl
  have MS:=Lib.hid (hsettle_any 9 HT7.out.at_ (by omega) ((HH.out.2.2.put HH.out.2.1 (y:={ x with q:=putQ x.q (dblE e) }) rfl (fun h=>h))))
  clear hz MP MA MT y2 y3 y4 y5 y6
  go_wp2_with fail
  refine MS.out.mono ?_
  rintro r w9 ⟨rfl,F9,HT9⟩
  go_wp2_with fail
  go_ret
  refine ⟨by rw [HZ.out];rfl,F9,?_⟩
  have t0:=HTurned.of_below (HAt.mk ⟨gb,qb,Fq,HH.out.1,rfl⟩) HB.out.2.1.drew
  have t:=(t0.trans HT7.out).trans HT9.out
  unfold putHS
  rw [if_pos (by rw [← HPC.out];exact HZ.out)]
  have e3:K+1000+1000*((9:Nat):Int)=K+10000:=by omega
  rw [e3] at t
  exact t
 ·
  have HZ:=Lib.hid hz
  have hz1:(pc != 0)=true:=by simpa using hz
  clear MP MA MT y2 y3 y4 y5 y6
  go_wp2_with fail
  go_ret
  refine ⟨rfl,F7,?_⟩
  have t0:=HTurned.of_below (HAt.mk ⟨gb,qb,Fq,HH.out.1,rfl⟩) HB.out.2.1.drew
  have t:=t0.trans HT7.out
  unfold putHS
  have hne:putC x.q (dblE e)≠0:=by rw [← HPC.out];exact HZ.out
  rw [if_neg hne]
  have e3:S.put i (some { x with q:=putQ x.q (dblE e) })=S:=by
   have:putQ x.q (dblE e)=x.q:=if_neg hne
   rw [this]
   exact S.put_self HH.out.2.1
  rw [e3] at t
  exact ⟨t.at_.mono (by omega) (by omega),t.turns,t.sub⟩
set_option maxRecDepth 100000 in
set_option maxHeartbeats 4000000 in
theorem hstop_some (H:HAt w h F S K) (hK:K+10000≤1000000000000000) {i:Nat} {x:Gr} (h0:i≠0) (hg:S.G i=some x) (hc:Chain S 9 i) (is:Bool) :
  Calls Tryz.prog 60 #[.pointer (some ⟨h,0,none⟩),.int .i64 (i:Int),.bool is] w fun r w'=>r=.returned (.int .i64 0)∧∃ F',Hid (HTurned w F h (stopHS S i x is) (K+10000) w' F'):=by
 obtain ⟨gb,qb,Fq,m,rfl⟩:=H.ex
 have MA:=Lib.hid (hlinked_some m h0 hg)
 obtain ⟨-,-,-,-,-,-,-,-,y8,yf⟩:=m.cells hg
 have hb:=Blk.set (m.grp i x hg) 8 (.bool is)
 have hT:=m.gturned (g':={ x with stopped:=is }) hg rfl hb rfl (fun b hb=>Below.heap_setCell _ _ _ _ hb) ((Turns.refl _ _).setCell (.inl (by simp)) _)
 have MS:=Lib.hid (hsettle_any 9 hT.at_ (by omega) (hc.put hg (y:={ x with stopped:=is }) rfl (fun h=>h)))
 have HT:=Lib.hid hT
 clear H m hb hT hg hc
 go_enter Tryz.func60,Tryz.ntmps60
 go_wp2_with fail
 refine MA.out.mono ?_
 rintro r w' ⟨rfl,rfl⟩
 go_wp2_with fail
 refine MS.out.mono ?_
 rintro r w9 ⟨rfl,F9,HT9⟩
 clear y8 yf MA
 go_wp2_with fail
 go_ret
 refine ⟨rfl,F9,?_⟩
 have t:=HT.out.trans HT9.out
 exact ⟨t.at_.mono (by omega) (by omega),t.turns,t.sub⟩
theorem HTurned.beside {F':List Nat} (hT:HTurned w F h S K w' F') {w'':World} (e:∀ b,b ∈ F'→w''.heap[b]?=w'.heap[b]?) (t:Turns F w w''):HTurned w F h S K w'' F':=⟨hT.at_.of e,t,hT.sub⟩
set_option maxRecDepth 100000 in
set_option maxHeartbeats 4000000 in
theorem hdrop_none (H:HAt w h F S K) (hK:K+10000≤1000000000000000) {i:Nat} {x:Gr} (hg:S.G i=some x) (t:Int) (t0:0≤t) (t1:t<64) (hx:x.q.get (2*t)=none) :
  Calls Tryz.prog 19 #[.pointer (some ⟨h,0,none⟩),.int .i64 (i:Int),.int .i64 t] w fun r w'=>r=.returned (.tuple #[.agg zeroE,.int .i64 12])∧∃ F',Hid (HTurned w F h S (K+10000) w' F'):=by
 obtain ⟨gb,qb,Fq,m,rfl⟩:=H.ex
 obtain ⟨W1,hW1⟩:∃ W1,W1=w.alloc (.cells zeroE 34):=⟨_,rfl⟩
 have hb1:Below w.heap.size w W1:=by rw [hW1];exact (Below.refl _ _).alloc (Nat.le_refl _) _
 have hx1:Blk W1 w.heap.size zeroE 34:=by rw [hW1];exact Blk.new _ _ _
 have m1:=m.below hb1
 have x2:=(m1.cells hg).2.2.1
 have MA:=Lib.hid (hat_some m1 hg)
 have MT:=Lib.hid fun W=>htask_any t W
 rw [decide_eq_true (show 0≤t∧t<64 from ⟨t0,t1⟩)] at MT
 have hout:w.heap.size<W1.heap.size:=hx1.lt
 have hnq:w.heap.size ∉ hblocks h gb Fq S:=fun hb=>by have:=m.lt _ hb;omega
 have hdq:dropQ x.q (2*t)=x.q:=if_neg (QS.get_none hx)
 have MD:=(qdrop_any (m1.que i x hg) (by omega) (2*t) (by omega) (by omega)).mono (R':=fun r w'=>r=.returned (.tuple #[.agg zeroE,.int .i64 12])∧(∀ j,w'.frozen? ⟨w.heap.size,j,none⟩=false)∧Hid (Blk w' w.heap.size zeroE 34∧∃ F',w.heap.size ∉ F'∧HTurned W1 (hblocks h gb Fq S) h S (K+1000) w' F')) fun r w' hp=>by
  obtain ⟨F',hr,hT⟩:=hp
  rw [hx] at hr
  obtain ⟨F2,hT2⟩:=m1.turned hg hT.out (by omega) (by omega)
  rw [hdq] at hT2
  have e3:S.put i (some { x with q:=x.q })=S:=S.put_self hg
  rw [e3] at hT2
  have hbk:=hx1.turns hT2.turns hnq
  refine ⟨hr,Blk.frozen hbk,hbk,F2,fun hb=>?_,hT2⟩
  rcases hT2.sub _ hb with hb | hb
  · exact hnq hb
  · omega
 have MD:=Lib.hid MD
 have HW1:=Lib.hid hW1
 have HB:=Lib.hid (And.intro m (And.intro hb1 hx1))
 clear hW1 hb1 hx1 m m1 hg H hx hnq hdq
 go_enter Tryz.func19,Tryz.ntmps19
 go_wp2_with fail
 rw [← HW1.out]
 refine MA.out.mono ?_
 rintro r w' ⟨rfl,rfl⟩
 go_wp2_with fail
 refine (MT.out _).mono ?_
 rintro r w' ⟨rfl,rfl⟩
 go_wp2_with fail
 refine MD.out.mono ?_
 rintro r w7 ⟨rfl,df,HD⟩
 have d0:w7.cell? ⟨w.heap.size,0,none⟩=some (.int .i64 0):=Blk.cell HD.out.1 0
 have d1:w7.cell? ⟨w.heap.size,1,none⟩=some (.int .u64 0):=Blk.cell HD.out.1 1
 have d2:w7.cell? ⟨w.heap.size,2,none⟩=some (.int .i64 0):=Blk.cell HD.out.1 2
 have d3:w7.cell? ⟨w.heap.size,3,none⟩=some (.int .u64 0):=Blk.cell HD.out.1 3
 have hlt:w.heap.size<w7.heap.size:=HD.out.1.lt
 have q1:(w.heap.size=w7.heap.size)=False:=eq_false (by omega)
 have q2:(w7.heap.size=w.heap.size)=False:=eq_false (by omega)
 clear MD x2 MA MT
 go_wp2_with fail
 obtain ⟨hbk,F2,hn2,hT2⟩:=HD.out
 change bodyPost _ _ _ _ _ ((set4 w7 w.heap.size 0 ⟨0,0,0,0⟩).alloc (.cells zeroE 34))
 have t:=(HTurned.of_below (HAt.mk ⟨gb,qb,Fq,HB.out.1,rfl⟩) HB.out.2.1).trans hT2
 have t2:=t.beside (w'':=(set4 w7 w.heap.size 0 ⟨0,0,0,0⟩).alloc (.cells zeroE 34)) (fun b hb=>by
  have hlt:=t.at_.lt b hb
  refine (Below.heap_alloc _ _ b ?_).trans (set4_other _ _ _ _ (fun e=>hn2 (e ▸ hb)))
  have:=(set4_turns w7 w.heap.size 0 ⟨0,0,0,0⟩ (S:=[w.heap.size]) (by simp)).size
  omega) ((t.turns.then (set4_turns w7 w.heap.size 0 ⟨0,0,0,0⟩ (S:=[w.heap.size]) (by simp)) (fun x hx hlt=>by simp at hx;omega)).alloc _)
 have hb8:Blk ((set4 w7 w.heap.size 0 ⟨0,0,0,0⟩).alloc (.cells zeroE 34)) w.heap.size _ _:=Blk.alloc (Blk.set (Blk.set (Blk.set (Blk.set hbk 0 (.int .i64 0)) 1 (.int .u64 0)) 2 (.int .i64 0)) 3 (.int .u64 0)) _
 generalize (set4 w7 w.heap.size 0 ⟨0,0,0,0⟩).alloc (.cells zeroE 34)=W8 at *
 have r0:W8.cell? ⟨w.heap.size,0,none⟩=some (.int .i64 0):=Blk.cell hb8 0
 have r1:W8.cell? ⟨w.heap.size,1,none⟩=some (.int .u64 0):=Blk.cell hb8 1
 have r2:W8.cell? ⟨w.heap.size,2,none⟩=some (.int .i64 0):=Blk.cell hb8 2
 have r3:W8.cell? ⟨w.heap.size,3,none⟩=some (.int .u64 0):=Blk.cell hb8 3
 refine bodyPost_ret (v:=.tuple #[.agg zeroE,.int .i64 12]) (by simp [results,Tryz.results19,go_sem,r0,r1,r2,r3]) rfl ⟨rfl,F2,?_⟩
 exact ⟨t2.at_.mono (by omega) (by omega),t2.turns,t2.sub⟩
set_option maxRecDepth 100000 in
set_option maxHeartbeats 4000000 in
theorem hdrop_some (H:HAt w h F S K) (hK:K+10000≤1000000000000000) {i:Nat} {x:Gr} (hg:S.G i=some x) (hc:Chain S 9 i) (t:Int) (t0:0≤t) (t1:t<64) (e:En) (hx:x.q.get (2*t)=some e) :
  Calls Tryz.prog 19 #[.pointer (some ⟨h,0,none⟩),.int .i64 (i:Int),.int .i64 t] w fun r w'=>r=.returned (.tuple #[enV { e with id:=t },.int .i64 0])∧∃ F',Hid (HTurned w F h (dropHS S i x (2*t)) (K+10000) w' F'):=by
 obtain ⟨gb,qb,Fq,m,rfl⟩:=H.ex
 obtain ⟨W1,hW1⟩:∃ W1,W1=w.alloc (.cells zeroE 34):=⟨_,rfl⟩
 have hb1:Below w.heap.size w W1:=by rw [hW1];exact (Below.refl _ _).alloc (Nat.le_refl _) _
 have hx1:Blk W1 w.heap.size zeroE 34:=by rw [hW1];exact Blk.new _ _ _
 have m1:=m.below hb1
 have x2:=(m1.cells hg).2.2.1
 have MA:=Lib.hid (hat_some m1 hg)
 have MT:=Lib.hid fun W=>htask_any t W
 rw [decide_eq_true (show 0≤t∧t<64 from ⟨t0,t1⟩)] at MT
 have hout:w.heap.size<W1.heap.size:=hx1.lt
 have hnq:w.heap.size ∉ hblocks h gb Fq S:=fun hb=>by have:=m.lt _ hb;omega
 have MD:=(qdrop_any (m1.que i x hg) (by omega) (2*t) (by omega) (by omega)).mono (R':=fun r w'=>r=.returned (.tuple #[.agg #[.int .i64 e.id,.int .u64 e.wt,.int .i64 e.v,.int .u64 e.rem],.int .i64 0])∧Hid (Blk w' w.heap.size zeroE 34∧∃ F',w.heap.size ∉ F'∧HTurned W1 (hblocks h gb Fq S) h (S.put i (some { x with q:=dropQ x.q (2*t) })) (K+1000) w' F')) fun r w' hp=>by
  obtain ⟨F',hr,hT⟩:=hp
  rw [hx] at hr
  obtain ⟨F2,hT2⟩:=m1.turned hg hT.out (by omega) (by omega)
  have hbk:=hx1.turns hT2.turns hnq
  refine ⟨hr,hbk,F2,fun hb=>?_,hT2⟩
  rcases hT2.sub _ hb with hb | hb
  · exact hnq hb
  · omega
 have MD:=Lib.hid MD
 have HW1:=Lib.hid hW1
 have HB:=Lib.hid (And.intro m (And.intro hb1 (And.intro hx1 (And.intro hg (And.intro hc hx)))))
 clear hW1 hb1 hx1 m m1 hg H hx hnq hc
 obtain ⟨ei,ew,ev,er⟩:=e
 dsimp only at MD ⊢
 go_enter Tryz.func19,Tryz.ntmps19
 go_wp2_with fail
 rw [← HW1.out]
 refine MA.out.mono ?_
 rintro r w' ⟨rfl,rfl⟩
 go_wp2_with fail
 refine (MT.out _).mono ?_
 rintro r w' ⟨rfl,rfl⟩
 go_wp2_with fail
 refine MD.out.mono ?_
 rintro r w7 ⟨rfl,HD⟩
 have hlt:w.heap.size<w7.heap.size:=HD.out.1.lt
 have q1:(w.heap.size=w7.heap.size)=False:=eq_false (by omega)
 have q2:(w7.heap.size=w.heap.size)=False:=eq_false (by omega)
 clear MD x2 MA MT
 go_wp2_with fail
 obtain ⟨hbk,F2,hn2,hT2⟩:=HD.out
 have HT:=Lib.hid ((HTurned.of_below (HAt.mk ⟨gb,qb,Fq,HB.out.1,rfl⟩) HB.out.2.1).trans hT2)
 obtain ⟨W8,hW8⟩:∃ W8,W8=w7.alloc (.cells #[.int .i64 t,.int .u64 ew,.int .i64 ev,.int .u64 er] 34):=⟨_,rfl⟩
 have hb8:Below w7.heap.size w7 W8:=by rw [hW8];exact (Below.refl _ _).alloc (Nat.le_refl _) _
 have hx8:Blk W8 w7.heap.size #[.int .i64 t,.int .u64 ew,.int .i64 ev,.int .u64 er] 34:=by rw [hW8];exact Blk.new _ _ _
 have hy8:=hbk.below hb8 hlt
 have hA8:=HT.out.at_.below hb8
 have hlt2:w7.heap.size ∉ F2:=fun hb=>by have:=HT.out.at_.lt _ hb;omega
 have MS:=Lib.hid (hsettle_any 9 hA8 (by omega) ((HB.out.2.2.2.2.1.put HB.out.2.2.2.1 (y:={ x with q:=dropQ x.q (2*t) }) rfl (fun h=>h))))
 have hs8:=hx8.lt
 rw [← hW8]
 have H8:=Lib.hid (And.intro hb8 (And.intro hx8 (And.intro hy8 (And.intro hn2 hlt2))))
 clear hW8 hb8 hx8 hy8 hA8 hbk hn2 hT2 hlt2
 refine MS.out.mono ?_
 rintro r w9 ⟨rfl,F9,HT9⟩
 have hx9:=H8.out.2.1.turns HT9.out.turns H8.out.2.2.2.2
 have hy9:=H8.out.2.2.1.turns HT9.out.turns H8.out.2.2.2.1
 have hs9:=HT9.out.turns.size
 have d0:w9.cell? ⟨w7.heap.size,0,none⟩=some (.int .i64 t):=Blk.cell hx9 0
 have d1:w9.cell? ⟨w7.heap.size,1,none⟩=some (.int .u64 ew):=Blk.cell hx9 1
 have d2:w9.cell? ⟨w7.heap.size,2,none⟩=some (.int .i64 ev):=Blk.cell hx9 2
 have d3:w9.cell? ⟨w7.heap.size,3,none⟩=some (.int .u64 er):=Blk.cell hx9 3
 have c0:w9.cell? ⟨w.heap.size,0,none⟩=some (.int .i64 0):=Blk.cell hy9 0
 have c1:w9.cell? ⟨w.heap.size,1,none⟩=some (.int .u64 0):=Blk.cell hy9 1
 have c2:w9.cell? ⟨w.heap.size,2,none⟩=some (.int .i64 0):=Blk.cell hy9 2
 have c3:w9.cell? ⟨w.heap.size,3,none⟩=some (.int .u64 0):=Blk.cell hy9 3
 have cf:=Blk.frozen hy9
 have HY:=Lib.hid hy9
 clear MS hx9 hy9
 go_wp2_with fail
 change bodyPost _ _ _ _ _ (set4 w9 w.heap.size 0 ⟨t,ew,ev,er⟩)
 have hn9:w.heap.size ∉ F9:=fun hb=>by
  rcases HT9.out.sub _ hb with hb | hb
  · exact H8.out.2.2.2.1 hb
  · omega
 have e3:K+1000+1000*((9:Nat):Int)=K+10000:=by omega
 have tt:=(HT.out.trans (HTurned.of_below HT.out.at_ H8.out.1)).trans HT9.out
 rw [e3] at tt
 have t2:=tt.beside (w'':=set4 w9 w.heap.size 0 ⟨t,ew,ev,er⟩) (fun b hb=>set4_other _ _ _ _ (fun e=>hn9 (e ▸ hb))) (tt.turns.then (set4_turns w9 w.heap.size 0 ⟨t,ew,ev,er⟩ (S:=[w.heap.size]) (by simp)) (fun x hx hlt=>by simp at hx;omega))
 have hb8:Blk (set4 w9 w.heap.size 0 ⟨t,ew,ev,er⟩) w.heap.size _ _:=Blk.set (Blk.set (Blk.set (Blk.set HY.out 0 (.int .i64 t)) 1 (.int .u64 ew)) 2 (.int .i64 ev)) 3 (.int .u64 er)
 generalize set4 w9 w.heap.size 0 ⟨t,ew,ev,er⟩=W9 at *
 have r0:W9.cell? ⟨w.heap.size,0,none⟩=some (.int .i64 t):=Blk.cell hb8 0
 have r1:W9.cell? ⟨w.heap.size,1,none⟩=some (.int .u64 ew):=Blk.cell hb8 1
 have r2:W9.cell? ⟨w.heap.size,2,none⟩=some (.int .i64 ev):=Blk.cell hb8 2
 have r3:W9.cell? ⟨w.heap.size,3,none⟩=some (.int .u64 er):=Blk.cell hb8 3
 refine bodyPost_ret (v:=.tuple #[.agg #[.int .i64 t,.int .u64 ew,.int .i64 ev,.int .u64 er],.int .i64 0]) (by simp [results,Tryz.results19,go_sem,r0,r1,r2,r3]) rfl ⟨rfl,F9,?_⟩
 unfold dropHS
 rw [HB.out.2.2.2.2.2]
 exact t2
end
end Go.Proofs.YtefekboacghnjaaGreat
