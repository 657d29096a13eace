/-
  hier.Hier: Weigh of a group that is there; New, Link.
  hier.Hier: New, Link.
-/
import Derived.Test.YtefekboacghnjaaGreatMk
import Derived.Test.YtefekboacghnjaaGreatMj
import Derived.Deep.RegionWith
namespace Go.Proofs.YtefekboacghnjaaGreat
open Go.RowKit Go.Maps
def weighHS (S:HS) (i:Nat) (x:Gr) (wn:Nat):HS :=
 if x.on then (match S.G x.up.toNat with
  | none=>S
  | some p=>S.put x.up.toNat (some { p with q:=weighQ p.q (2*(i:Int)+1) wn }))
 else S.put i (some { x with own:=weighed x.own wn })
section
variable {w w':World} {h:Nat} {gb qb:Nat→Nat} {Fq:Nat→List Nat} {S:HS} {K K':Int} {F:List Nat}
set_option maxRecDepth 100000 in
set_option maxHeartbeats 8000000 in
theorem hweigh_is (H:HAt w h F S K) {i u:Nat} {x p:Gr} (h0:i≠0) (hg:S.G i=some x) (hu:x.up=((u:Nat):Int)) (hp:S.G u=some p) (hnum:x.own.num) (wn:Nat) (w1:2≤wn) (w2:wn≤262144) :
  Calls Tryz.prog 58 #[.pointer (some ⟨h,0,none⟩),.int .i64 (i:Int),.int .u64 wn] w fun r w'=>r=.returned (.int .i64 (if x.on=true then weighC p.q (2*(i:Int)+1) wn else 0))∧∃ F',Hid (HTurned w F h (weighHS S i x wn) K w' F'):=by
 obtain ⟨gb,qb,Fq,m,rfl⟩:=H.ex
 have MA:=Lib.hid (hlinked_some m h0 hg)
 have c:=m.gcells hg
 have d:=m.gcells hp
 have hi:=m.idx hg
 have hui:=m.idx hp
 have c0:=c.x0
 have c4:=c.x4
 have c6:=c.x6
 have c7:=c.x7
 have d1:=d.p
 have d2:=d.x2
 have df:=(m.cells hg).2.2.2.2.2.2.2.2.2
 rw [hu] at c0
 have z1:decide ((wn:Int)<2)=false:=decide_eq_false (by omega)
 have z2:decide ((262144:Int)<(wn:Int))=false:=decide_eq_false (by omega)
 have z3:(0:Int)≤(u:Int):=by omega
 have z4:(u:Int)<32:=by omega
 have hu2:x.up.toNat=u:=by omega
 cases hon:x.on with
 | true =>
  rw [hon] at c7
  rw [if_pos rfl]
  have MI:=Lib.hid fun W=>hid_any i hi W
  have MW:Hid (∀ W,Below w.heap.size w W→Calls Tryz.prog 67 #[.pointer (some ⟨qb u,0,none⟩),.int .i64 (2*(i:Int)+1),.int .u64 wn] W fun r w'=>r=.returned (.int .i64 (weighC p.q (2*(i:Int)+1) wn))∧∃ F',Hid (HTurned w (hblocks h gb Fq S) h (weighHS S i x wn) K w' F')):=Lib.hid fun W hW=>by
   have mW:=m.below hW
   refine (qweigh_any (mW.que u p hp) (2*(i:Int)+1) (by omega) (by omega) wn (by omega)).mono fun r w' hpp=>?_
   obtain ⟨F',hr,hT⟩:=hpp
   refine ⟨hr,?_⟩
   have hK:=(mW.que u p hp).ex
   obtain ⟨bm,bt,S1,g1,hM,_⟩:=hK
   obtain ⟨F2,hT2⟩:=mW.turned hp hT.out (Int.le_refl _) hM.k2
   have e:weighHS S i x wn=S.put u (some { p with q:=weighQ p.q (2*(i:Int)+1) wn }):=by
    unfold weighHS
    rw [if_pos hon,hu2,hp]
   rw [e]
   exact ⟨F2,(HTurned.of_below (HAt.mk ⟨gb,qb,Fq,m,rfl⟩) hW).trans hT2⟩
  generalize weighC p.q (2*(i:Int)+1) wn=wc at MW ⊢
  clear m hg hp c d hnum hon H c4 c6 df hu hu2
  go_enter Tryz.func58,Tryz.ntmps58
  go_wp2_with fail
  refine MA.out.mono ?_
  rintro r w' ⟨rfl,rfl⟩
  go_wp2_with fail
  apply wp_region_to (fun W=>∃ F',Hid (HTurned w (hblocks h gb Fq S) h (weighHS S i x wn) K W F'))
  case h =>
   go_region_with (first
    | (go_at_call 41;refine (MI.out _).mono ?_;rintro r w' ⟨rfl,rfl⟩)
    | (go_at_call 67;refine (MW.out _ (by first | exact (Below.refl _ _).drew | exact Below.refl _ _)).mono ?_;rintro r w5 ⟨rfl,HW⟩))
   all_goals exact ⟨rfl,HW⟩
  rintro W7 HW7
  clear MI MW MA c0 c7 d1 d2
  go_wp2_with fail
  go_ret
  exact ⟨rfl,HW7⟩
 | false =>
  rw [hon] at c7
  rw [if_neg (by decide)]
  have MM:Hid (∀ W,Below w.heap.size w W→Calls Tryz.prog 96 #[.int .u64 x.own.rem,.int .u64 wn,.int .u64 x.own.wt] W fun r w'=>r=.returned (.tuple #[.int .u64 (mdQ x.own.rem wn x.own.wt:Nat),.int .u64 (mdR x.own.rem wn x.own.wt:Nat),.bool (mdOk x.own.rem wn x.own.wt)])∧(w'.cell? ⟨gb i,6,none⟩=some (.int .u64 x.own.rem)∧w'.cell? ⟨gb i,4,none⟩=some (.int .u64 x.own.wt)∧∀ j,w'.frozen? ⟨gb i,j,none⟩=false)∧Hid (Below w.heap.size w w')):=Lib.hid fun W hW=>(mulDiv_any x.own.rem wn x.own.wt hnum.r2 (by omega) hnum.w2 W).mono fun r w' hpp=>by
   have hB:=hW.trans (hpp.2.mono hW.size)
   have mW:=m.below hB
   have cW:=mW.gcells hg
   exact ⟨hpp.1,⟨cW.x6,cW.x4,(mW.cells hg).2.2.2.2.2.2.2.2.2⟩,hB⟩
  obtain ⟨q1,hq1⟩:∃ q1,q1=mdQ x.own.rem wn x.own.wt:=⟨_,rfl⟩
  rw [← hq1] at MM
  generalize mdR x.own.rem wn x.own.wt=q2 at MM
  generalize mdOk x.own.rem wn x.own.wt=q3 at MM
  have HM:=Lib.hid (And.intro m (And.intro hg (And.intro hon hq1)))
  obtain ⟨xr,hxr⟩:∃ xr,xr=x.own.rem:=⟨_,rfl⟩
  obtain ⟨xw,hxw⟩:∃ xw,xw=x.own.wt:=⟨_,rfl⟩
  rw [← hxr,← hxw] at MM
  rw [← hxr] at c6
  rw [← hxw] at c4
  have HX:=Lib.hid (And.intro hxr hxw)
  clear m hg hp c d hnum hon H c0 d1 d2 hq1 hxr hxw hu hu2
  go_enter Tryz.func58,Tryz.ntmps58
  go_wp2_with fail
  refine MA.out.mono ?_
  rintro r w' ⟨rfl,rfl⟩
  go_wp2_with fail
  apply wp_region_to (fun W=>(W.cell? ⟨gb i,4,none⟩=some (.int .u64 xw)∧∀ j,W.frozen? ⟨gb i,j,none⟩=false)∧Hid (HMem W h gb qb Fq (S.put i (some { x with own:={ x.own with rem:=q1 } })) K∧Turns (hblocks h gb Fq S) w W))
  case h =>
   go_region_with (go_at_call 96;refine (MM.out _ (by first | exact (Below.refl _ _).drew | exact Below.refl _ _)).mono ?_;rintro r w5 ⟨rfl,⟨y6,y4,yf⟩,HB⟩)
   all_goals
    have m5:=HM.out.1.below HB.out
    have hb:=Blk.set (m5.grp i x HM.out.2.1) 6 (.int .u64 (q1:Nat))
    have mg:=m5.group (g':={ x with own:={ x.own with rem:=q1 } }) HM.out.2.1 rfl hb rfl (fun b _ hb=>Below.heap_setCell _ _ _ _ hb)
    refine ⟨rfl,⟨?_,Blk.frozen hb⟩,mg,(Turns.of_below HB.out).setCell (.inl ((hblocks_mem HM.out.1.top).2 (.inr ⟨i,x,HM.out.2.1,.inl rfl⟩))) _⟩
    rw [HX.out.2]
    exact Blk.cell hb 4
  rintro W7 ⟨⟨y4,yf⟩,HW7⟩
  clear MM MA c4 c6 c7 df
  go_wp2_with fail
  go_ret
  refine ⟨rfl,hblocks h gb Fq S,?_⟩
  have hg7:(S.put i (some { x with own:={ x.own with rem:=q1 } })).G i=some { x with own:={ x.own with rem:=q1 } }:=HS.put_same _ _ _
  have hb:=Blk.set (HW7.out.1.grp i _ hg7) 4 (.int .u64 (wn:Nat))
  have hT:=HW7.out.1.gturned (g':={ x with own:={ x.own with rem:=q1,wt:=wn } }) hg7 rfl hb rfl (fun b hb=>Below.heap_setCell _ _ _ _ hb) ((Turns.refl _ _).setCell (.inl (by simp)) _)
  have e:weighHS S i x wn=S.put i (some { x with own:={ x.own with rem:=q1,wt:=wn } }):=by
   unfold weighHS weighed
   rw [if_neg (by rw [HM.out.2.2.1];decide),HM.out.2.2.2]
  rw [HS.put_put,← e,hblocks_same HM.out.1 HM.out.2.1] at hT
  exact ⟨hT.at_,HW7.out.2.then hT.turns (fun b hb _=>hb),fun b hb=>.inl hb⟩
end
end Go.Proofs.YtefekboacghnjaaGreat
namespace Go.Proofs.YtefekboacghnjaaGreat
open Go.RowKit Go.Maps
section
variable {w w':World} {h:Nat} {gb qb:Nat→Nat} {Fq:Nat→List Nat} {S:HS} {K K':Int} {F:List Nat}
theorem hcells_set (gb:Nat→Nat) (S:HS) {i:Nat} (hi:i<32) (b:Nat) (x:Gr):(hcells gb S).setIfInBounds (2+i) (.pointer (some ⟨b,0,none⟩))=hcells (fun j=>if j=i then b else gb j) (S.put i (some x)):=by
 unfold hcells
 rw [List.setIfInBounds_toArray]
 congr 1
 rw [show 2+i=i+1+1 by omega,List.set_cons_succ,List.set_cons_succ]
 have hc:(S.put i (some x)).credit=S.credit:=rfl
 have hg:(S.put i (some x)).gran=S.gran:=rfl
 rw [hc,hg]
 congr 2
 refine List.ext_getElem? fun j=>?_
 rw [List.getElem?_set,List.getElem?_map,List.getElem?_map]
 by_cases hj:j<32
 ·
  rw [List.getElem?_range hj]
  by_cases hij:i=j
  ·
   subst hij
   rw [if_pos rfl,if_pos (by simpa using hi)]
   simp only [Option.map_some,gpV,HS.put_same,if_true]
  ·
   rw [if_neg hij]
   simp only [Option.map_some,gpV,HS.put_other S _ (Ne.symm hij),if_neg (Ne.symm hij)]
 ·
  rw [if_neg (by omega)]
  rw [List.getElem?_eq_none (by simp;omega)]
  rfl
theorem HMem.link (m:HMem w h gb qb Fq S K) {i:Nat} (hi:i<32) (hn:S.G i=none) {x:Gr} {b q:Nat} {Fi:List Nat} (hb:Blk w' b (Go.Proofs.YtefekboacghnjaaGreat.gcells q x) 59) (hq:QAt w' q Fi x.q K) (hB:w.heap.size≤b) (hF:∀ c,c ∈ Fi→w.heap.size≤c) (hbF:b ∉ Fi)
  (hh:Blk w' h ((hcells gb S).setIfInBounds (2+i) (.pointer (some ⟨b,0,none⟩))) 55) (e:∀ c,c<w.heap.size→c≠h→w'.heap[c]?=w.heap[c]?) :
  HMem w' h (fun j=>if j=i then b else gb j) (fun j=>if j=i then q else qb j) (fun j=>if j=i then Fi else Fq j) (S.put i (some x)) K:=by
 have old:∀ j y,j≠i→(S.put i (some x)).G j=some y→S.G j=some y:=fun j y hji hj=>by
  rw [HS.put_other S _ hji] at hj;exact hj
 have hlt:=m.blk.lt
 refine ⟨?_,fun j y hj=>?_,fun j y hj=>?_,fun j hj=>?_,fun j y hj=>?_,fun j y k z hj hk=>?_,fun j y k z hj hk hne=>?_,fun j y k z hj hk hne c hc=>?_⟩
 · rw [← hcells_set gb S hi b x];exact hh
 ·
  by_cases hji:j=i
  ·
   subst hji
   rw [HS.put_same] at hj
   injection hj with hj
   subst hj
   simp only [if_true]
   exact hb
  ·
   have hj2:=old j y hji hj
   simp only [if_neg hji]
   have hg:=m.grp j y hj2
   exact hg.of (e _ hg.lt (m.neH hj2))
 ·
  by_cases hji:j=i
  ·
   subst hji
   rw [HS.put_same] at hj
   injection hj with hj
   subst hj
   simp only [if_true]
   exact hq
  ·
   have hj2:=old j y hji hj
   simp only [if_neg hji]
   have hqq:=m.que j y hj2
   exact hqq.of fun c hc=>e c (hqq.lt c hc) (fun he=>m.apH j y hj2 (he ▸ hc))
 · rw [HS.put_other S _ (by omega)];exact m.top j hj
 ·
  by_cases hji:j=i
  ·
   subst hji
   simp only [if_true]
   intro hc
   have:=hF _ hc
   omega
  ·
   have hj2:=old j y hji hj
   simp only [if_neg hji]
   exact m.apH j y hj2
 ·
  by_cases hji:j=i
  ·
   subst hji
   by_cases hki:k=j
   ·
    subst hki
    simp only [if_true]
    exact hbF
   ·
    have hk2:=old k z hki hk
    simp only [if_true,if_neg hki]
    intro hc
    have:=(m.que k z hk2).lt _ hc
    omega
  ·
   have hj2:=old j y hji hj
   by_cases hki:k=i
   ·
    subst hki
    simp only [if_true,if_neg hji]
    intro hc
    have:=hF _ hc
    have:=(m.grp j y hj2).lt
    omega
   ·
    have hk2:=old k z hki hk
    simp only [if_neg hji,if_neg hki]
    exact m.apG j y k z hj2 hk2
 ·
  by_cases hji:j=i
  ·
   subst hji
   have hki:k≠j:=Ne.symm hne
   have hk2:=old k z hki hk
   simp only [if_true,if_neg hki]
   have:=(m.grp k z hk2).lt
   omega
  ·
   have hj2:=old j y hji hj
   by_cases hki:k=i
   ·
    subst hki
    simp only [if_true,if_neg hji]
    have:=(m.grp j y hj2).lt
    omega
   ·
    have hk2:=old k z hki hk
    simp only [if_neg hji,if_neg hki]
    exact m.apGG j y k z hj2 hk2 hne
 ·
  by_cases hji:j=i
  ·
   subst hji
   have hki:k≠j:=Ne.symm hne
   have hk2:=old k z hki hk
   simp only [if_true] at hc
   simp only [if_neg hki]
   intro hc2
   have:=(m.que k z hk2).lt _ hc2
   have:=hF _ hc
   omega
  ·
   have hj2:=old j y hji hj
   simp only [if_neg hji] at hc
   by_cases hki:k=i
   ·
    subst hki
    simp only [if_true]
    intro hc2
    have:=hF _ hc2
    have:=(m.que j y hj2).lt _ hc
    omega
   ·
    have hk2:=old k z hki hk
    simp only [if_neg hki]
    exact m.apF j y k z hj2 hk2 hne c hc
theorem HMem.link_sub (m:HMem w h gb qb Fq S K) {i:Nat} (hi:i<32) {x:Gr} {b:Nat} {Fi:List Nat} (hB:w.heap.size≤b) (hF:∀ c,c ∈ Fi→w.heap.size≤c) :
  ∀ c,c ∈ hblocks h (fun j=>if j=i then b else gb j) (fun j=>if j=i then Fi else Fq j) (S.put i (some x))→c ∈ hblocks h gb Fq S∨w.heap.size≤c:=by
 have ht:∀ j,32≤j→(S.put i (some x)).G j=none:=fun j hj=>by rw [HS.put_other S _ (by omega)];exact m.top j hj
 intro c hc
 rcases (hblocks_mem ht).1 hc with rfl | ⟨j,y,hj,hc⟩
 · exact .inl ((hblocks_mem m.top).2 (.inl rfl))
 ·
  by_cases hji:j=i
  ·
   subst hji
   simp only [if_true] at hc
   rcases hc with rfl | hc
   · exact .inr hB
   · exact .inr (hF _ hc)
  ·
   rw [HS.put_other S _ hji] at hj
   simp only [if_neg hji] at hc
   exact .inl ((hblocks_mem m.top).2 (.inr ⟨j,y,hj,hc⟩))
theorem HMem.link_w {W1 w5 w6:World} (m:HMem W1 h gb qb Fq S K) (hB:Below W1.heap.size W1 w5) {i:Nat} (hi:i<32) (hn:S.G i=none) {x:Gr} {q:Nat} {Fi:List Nat} (hq:QAt w5 q Fi x.q K) (hF:∀ c,c ∈ Fi→W1.heap.size≤c)
  (hw:w6=(w5.setCell ⟨h,2+i,none⟩ (.pointer (some ⟨w5.heap.size,0,none⟩))).alloc (.cells (Go.Proofs.YtefekboacghnjaaGreat.gcells q x) 59)):∃ F',HTurned W1 (hblocks h gb Fq S) h (S.put i (some x)) K w6 F':=by
 have hlt:=m.blk.lt
 have hsz:=hB.size
 have hne:w5.heap.size≠h:=by omega
 have m5:=m.below hB
 have hFl:∀ c,c ∈ Fi→c<w5.heap.size:=hq.lt
 have hss:(w5.setCell ⟨h,2+i,none⟩ (.pointer (some ⟨w5.heap.size,0,none⟩))).heap.size=w5.heap.size:=by simp
 have hb:Blk w6 w5.heap.size (Go.Proofs.YtefekboacghnjaaGreat.gcells q x) 59:=by
  have:=Blk.new (w5.setCell ⟨h,2+i,none⟩ (.pointer (some ⟨w5.heap.size,0,none⟩))) (Go.Proofs.YtefekboacghnjaaGreat.gcells q x) 59
  rw [hss] at this
  rw [hw]
  exact this
 have hh:Blk w6 h ((hcells gb S).setIfInBounds (2+i) (.pointer (some ⟨w5.heap.size,0,none⟩))) 55:=by
  rw [hw]
  exact Blk.alloc (Blk.set m5.blk (2+i) _) _
 have keep:∀ c,c<w5.heap.size→c≠h→w6.heap[c]?=w5.heap[c]?:=fun c hc hch=>by
  rw [hw]
  exact (Below.heap_alloc _ _ c (by rw [hss];exact hc)).trans (Below.heap_setCell _ _ _ c hch)
 have hq6:QAt w6 q Fi x.q K:=hq.of fun c hc=>keep c (hFl c hc) (fun e=>by have:=hF c hc;omega)
 have m6:=m.link hi hn (b:=w5.heap.size) hb hq6 hsz hF (fun hc=>by have:=hFl _ hc;omega) hh (fun c hc hch=>(keep c (by omega) hch).trans (hB.block c hc))
 have ht:Turns (hblocks h gb Fq S) W1 w6:=by
  rw [hw]
  exact ((Turns.of_below hB).setCell (p:=⟨h,2+i,none⟩) (.inl ((hblocks_mem m.top).2 (.inl rfl))) _).alloc _
 exact ⟨_,⟨_,_,_,m6,rfl⟩,ht,m.link_sub hi hsz hF⟩
def noneH (credit gran:Int):HS:=⟨credit,gran,fun _=>none⟩
theorem newH_eq (credit gran:Int):newH credit gran=(noneH credit gran).put 0 (some ⟨-1,0,emptyQ,⟨0,0,0,0⟩,false,false⟩):=by
 unfold newH noneH HS.put
 congr 1
theorem noneH_mem {w:World} {h:Nat} {credit gran:Int} (hb:Blk w h (hcells (fun _=>0) (noneH credit gran)) 55) (K:Int):HMem w h (fun _=>0) (fun _=>0) (fun _=>[]) (noneH credit gran) K :=
 ⟨hb,fun _ _ h=>by simp [noneH] at h,fun _ _ h=>by simp [noneH] at h,fun _ _=>rfl,fun _ _ h=>by simp [noneH] at h,fun _ _ _ _ h=>by simp [noneH] at h,fun _ _ _ _ h=>by simp [noneH] at h,fun _ _ _ _ h=>by simp [noneH] at h⟩
set_option maxRecDepth 100000 in
set_option maxHeartbeats 4000000 in
theorem hnew_any (credit gran:Int) (w:World) :
  Calls Tryz.prog 5 #[.int .i64 credit,.int .i64 gran] w fun e w'=>∃ h F,e=.returned (.pointer (some ⟨h,0,none⟩))∧Hid (HAt w' h F (newH credit gran) 1∧Below w.heap.size w w'∧w.heap.size≤h∧∀ b,b ∈ F→w.heap.size≤b):=by
 go_enter Tryz.func5,Tryz.ntmps5
 go_wp2_with fail
 change Code.wp _ _ _ _ (w.alloc (.cells (hcells (fun _=>0) (noneH credit gran)) 55))
 obtain ⟨W1,hW1⟩:∃ W1,W1=w.alloc (.cells (hcells (fun _=>0) (noneH credit gran)) 55):=⟨_,rfl⟩
 have hb1:Below w.heap.size w W1:=by rw [hW1];exact (Below.refl _ _).alloc (Nat.le_refl _) _
 have hx1:Blk W1 w.heap.size (hcells (fun _=>0) (noneH credit gran)) 55:=by rw [hW1];exact Blk.new _ _ _
 rw [← hW1]
 have MQ:Hid (∀ W,Below W1.heap.size W1 W→Calls Tryz.prog 15 #[] W fun e w'=>∃ q F,e=.returned (.pointer (some ⟨q,0,none⟩))∧(w'.cell? ⟨w.heap.size,2,none⟩=some (.pointer none)∧(∀ j,w'.frozen? ⟨w.heap.size,j,none⟩=false)∧w.heap.size<w'.heap.size)∧Hid (QAt w' q F emptyQ 1∧Below W1.heap.size W1 w'∧∀ b,b ∈ F→W1.heap.size≤b)):=Lib.hid fun W hW=>(qnew_any W).mono fun e w' hp=>by
  obtain ⟨q,F,he,hQ,hb,_,hF⟩:=hp
  have hB:=hW.trans (hb.mono hW.size)
  have hbk:=hx1.below hB hx1.lt
  exact ⟨q,F,he,⟨Blk.cell hbk 2,Blk.frozen hbk,hbk.lt⟩,hQ,hB,fun b hb=>Nat.le_trans hW.size (hF b hb)⟩
 have HB:=Lib.hid (And.intro hb1 hx1)
 clear hW1 hb1 hx1
 go_region_with (go_at_call 15;refine (MQ.out _ (by first | exact (Below.refl _ _).drew | exact Below.refl _ _)).mono ?_;rintro r w5 ⟨q,Fi,rfl,⟨y2,yf,yl⟩,HQ⟩)
 all_goals
  go_wp2_with fail
  go_ret
 all_goals
  have m1:=noneH_mem HB.out.2 1
  obtain ⟨F',hT⟩:=m1.link_w HQ.out.2.1 (i:=0) (by omega) rfl (x:=⟨-1,0,emptyQ,⟨0,0,0,0⟩,false,false⟩) HQ.out.1 HQ.out.2.2 rfl
  rw [← newH_eq] at hT
  have hs1:=HB.out.1.size
  refine ⟨w.heap.size,F',rfl,⟨hT.at_,Below.turns HB.out.1 hT.turns (fun b hb=>?_) hs1,Nat.le_refl _,fun b hb=>?_⟩⟩
  ·
   rcases (hblocks_mem m1.top).1 hb with rfl | ⟨j,g,hj,_⟩
   · exact Nat.le_refl _
   · simp [noneH] at hj
  ·
   rcases hT.sub b hb with hb | hb
   ·
    rcases (hblocks_mem m1.top).1 hb with rfl | ⟨j,g,hj,_⟩
    · exact Nat.le_refl _
    · simp [noneH] at hj
   · omega
def linkG (i pa dp:Nat):Gr:=⟨(pa:Int),dp+1,emptyQ,⟨2*(i:Int)+1,1024,0,0⟩,false,false⟩
set_option maxRecDepth 100000 in
set_option maxHeartbeats 4000000 in
theorem hlink_ok (H:HAt w h F S K) {i pa:Nat} {p:Gr} (h0:1≤i) (hi:i<32) (hn:S.G i=none) (hp:S.G pa=some p) (hd:p.deep<8) :
  Calls Tryz.prog 9 #[.pointer (some ⟨h,0,none⟩),.int .i64 (i:Int),.int .i64 (pa:Int)] w fun r w'=>r=.returned (.int .i64 0)∧∃ F',Hid (HTurned w F h (S.put i (some (linkG i pa p.deep))) K w' F'):=by
 obtain ⟨gb,qb,Fq,m,rfl⟩:=H.ex
 have MA:=Lib.hid (hat_some m hp)
 have MI:=Lib.hid fun W=>hid_any i hi W
 have c1:=(m.cells hp).2.1
 have c2:=m.ptr_none hi hn
 have z0:(0:Int)≤(i:Int):=by omega
 have z1:(i:Int)<32:=by omega
 have z2:decide ((i:Int)<1)=false:=decide_eq_false (by omega)
 have z3:decide ((32:Int)≤(i:Int))=false:=decide_eq_false (by omega)
 have z4:decide (p.deep=8)=false:=decide_eq_false (by omega)
 have z5:decide ((p.deep:Int)=8)=false:=decide_eq_false (by omega)
 have z6:(((p.deep:Nat):Int) == 8)=false:=by simpa using (by omega:¬ ((p.deep:Nat):Int)=8)
 have lp:=(m.grp pa p hp).lt
 have lh:=m.blk.lt
 have hk:=(m.que pa p hp)
 obtain ⟨_,_,_,_,hM0,_⟩:=hk.ex
 have k1:=hM0.k1
 have k2:=hM0.k2
 have MQ:Hid (∀ W,Below w.heap.size w W→Calls Tryz.prog 15 #[] W fun e w'=>∃ q F,e=.returned (.pointer (some ⟨q,0,none⟩))∧((w'.cell? ⟨h,2+i,none⟩=some (.pointer none)∧w'.cell? ⟨gb pa,1,none⟩=some (.int .i64 (p.deep:Nat)))∧(∀ j,w'.frozen? ⟨h,j,none⟩=false)∧h<w'.heap.size)∧Hid (QAt w' q F emptyQ K∧Below w.heap.size w w'∧∀ b,b ∈ F→w.heap.size≤b)):=Lib.hid fun W hW=>(qnew_any W).mono fun e w' hpp=>by
  obtain ⟨q,F,he,hQ,hb,_,hF⟩:=hpp
  have hB:=hW.trans (hb.mono hW.size)
  have mB:=m.below hB
  exact ⟨q,F,he,⟨⟨mB.ptr_none hi hn,(mB.cells hp).2.1⟩,Blk.frozen mB.blk,mB.blk.lt⟩,hQ.mono k1 k2,hB,fun b hb=>Nat.le_trans hW.size (hF b hb)⟩
 have HM:=Lib.hid (And.intro m (And.intro hn hp))
 obtain ⟨dp,hdp⟩:∃ dp,dp=p.deep:=⟨_,rfl⟩
 rw [← hdp] at c1 MQ z4 z5 z6 hd ⊢
 have e1:IntKind.i64.wrap ((dp:Int)+1)=(dp:Int)+1:=by rw [IntKind.wrap_i64];omega
 have HD:=Lib.hid hdp
 clear m hn hp hk hM0 H hdp
 go_enter Tryz.func9,Tryz.ntmps9
 go_wp2_with fail
 refine MA.out.mono ?_
 rintro r w' ⟨rfl,rfl⟩
 go_wp2_with fail
 go_region_with (first
  | (go_at_call 41;refine (MI.out _).mono ?_;rintro r w' ⟨rfl,rfl⟩)
  | (go_at_call 15;refine (MQ.out _ (by first | exact (Below.refl _ _).drew | exact Below.refl _ _)).mono ?_;rintro r w5 ⟨q,Fi,rfl,⟨⟨y2,y1⟩,yf,yl⟩,HQ⟩))
 all_goals
  go_wp2_with fail
  go_ret
  refine ⟨rfl,?_⟩
  obtain ⟨F',hT⟩:=HM.out.1.link_w HQ.out.2.1 hi HM.out.2.1 (x:=linkG i pa dp) HQ.out.1 HQ.out.2.2 rfl
  exact ⟨F',hT⟩
set_option maxRecDepth 100000 in
theorem hlink_deep (H:HAt w h F S K) {i pa:Nat} {p:Gr} (h0:1≤i) (hi:i<32) (hn:S.G i=none) (hp:S.G pa=some p) (hd:p.deep=8) :
  Calls Tryz.prog 9 #[.pointer (some ⟨h,0,none⟩),.int .i64 (i:Int),.int .i64 (pa:Int)] w fun r w'=>r=.returned (.int .i64 5)∧w=w':=by
 obtain ⟨gb,qb,Fq,m,rfl⟩:=H.ex
 have MA:=Lib.hid (hat_some m hp)
 have c1:=(m.cells hp).2.1
 rw [hd] at c1
 have c2:=m.ptr_none hi hn
 have z0:(0:Int)≤(i:Int):=by omega
 have z1:(i:Int)<32:=by omega
 have z2:decide ((i:Int)<1)=false:=decide_eq_false (by omega)
 have z3:decide ((32:Int)≤(i:Int))=false:=decide_eq_false (by omega)
 clear m H hn hp hd
 go_enter Tryz.func9,Tryz.ntmps9
 go_wp2_with fail
 refine MA.out.mono ?_
 rintro r w' ⟨rfl,rfl⟩
 go_wp2_with fail
 go_ret
 exact ⟨rfl,rfl⟩
end
end Go.Proofs.YtefekboacghnjaaGreat
