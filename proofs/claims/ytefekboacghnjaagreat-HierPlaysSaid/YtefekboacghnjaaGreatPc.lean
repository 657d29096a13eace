/-
  doleref08: Pick, Yield, Load.
  doleref08: Yield, Load, New.
-/
import Derived.Test.YtefekboacghnjaaGreatPb
namespace Go.Proofs.YtefekboacghnjaaGreat
open Go.RowKit Go.Maps
theorem up_find {p:Int × Int→Bool}:∀ {l:List (Int × Int)} {x:Int × Int},Up l→x ∈ l→p x=true→(∀ y,y ∈ l→p y=true→¬ ahead y x)→l.find? p=some x
 | [],x,_,hx,_,_=>by simp at hx
 | a::r,x,hu,hx,hp,hm=>by
  rw [Up,List.pairwise_cons] at hu
  rw [List.find?_cons]
  by_cases ha:p a=true
  ·
   rw [ha]
   rcases List.mem_cons.1 hx with h | h
   · rw [h]
   · exact absurd (hu.1 x h) (hm a (by simp) ha)
  ·
   rw [Bool.not_eq_true] at ha
   rw [ha]
   rcases List.mem_cons.1 hx with h | h
   · rw [h,ha] at hp;simp at hp
   · exact up_find hu.2 h hp (fun y hy=>hm y (by simp [hy]))
section
variable {X:QS} {but:Int} {gran:Int}
theorem key_of {m:Nat} (hm:m<X.L.length):(X.L.getD m En.nil).key ∈ ksOf X.L:=(ksOf_mem _ _).2 (List.mem_map.2 ⟨_,by rw [getD_at _ hm];exact List.getElem_mem _,rfl⟩)
theorem ks_at {y:Int × Int} (hy:y ∈ ksOf X.L):∃ j,j<X.L.length∧(X.L.getD j En.nil).key=y:=by
 obtain ⟨e,he,rfl⟩:=ksOf_ent hy
 obtain ⟨j,hj,rfl⟩:=List.mem_iff_getElem.1 he
 exact ⟨j,hj,by rw [getD_at _ hj]⟩
theorem best_some {m:Nat} (hb:BestAt X.L but X.L.length (some m)):(ksOf X.L).find? (fun k=>decide (k.2≠but))=some (X.L.getD m En.nil).key:=by
 obtain ⟨h1,h2,h3⟩:=hb
 refine up_find (ksOf_up _) (key_of h1) (decide_eq_true h2) fun y hy hp=>?_
 obtain ⟨j,hj,rfl⟩:=ks_at hy
 exact h3 j hj (of_decide_eq_true hp)
theorem best_none (hb:BestAt X.L but X.L.length none):(ksOf X.L).find? (fun k=>decide (k.2≠but))=none:=by
 rw [List.find?_eq_none]
 intro y hy hp
 obtain ⟨j,hj,rfl⟩:=ks_at hy
 exact of_decide_eq_true hp (hb j hj)
theorem get_fnd {i:Int} {k:Nat} (h:fnd X.L i=some k):X.get i=some (X.L.getD k En.nil):=(fnd_at h).2.2
theorem get_not {i:Int} (h:fnd X.L i=none):X.get i=none:=(fnd_not h).1
theorem pick_1 (hb:BestAt X.L X.cur X.L.length none):X.pickI gran=X.cur:=by
 have h1:X.firstK=none:=best_none hb
 unfold QS.pickI
 rw [h1]
theorem pick_2 {k m:Nat} (hf:fnd X.L X.cur=some k) (hb:BestAt X.L X.cur X.L.length (some m)):X.pickI gran=if nearB (X.L.getD k En.nil).v (X.L.getD m En.nil).v gran then X.cur else (X.L.getD m En.nil).id:=by
 have h1:X.firstK=some (X.L.getD m En.nil).key:=best_some hb
 unfold QS.pickI
 rw [h1,get_fnd hf]
 rfl
theorem pick_3 (h:X.ok) {k m:Nat} (hf:fnd X.L X.cur=some k) (hb:BestAt X.L X.cur X.L.length (some m)) (hn:nearB (X.L.getD k En.nil).v (X.L.getD m En.nil).v gran=false):∀ b1,BestAt X.L (-1) X.L.length b1→∃ f,b1=some f∧f<X.L.length∧(X.L.getD f En.nil).id=X.pickI gran:=by
 intro b1 h1
 obtain ⟨m1,m2,m3⟩:=hb
 obtain ⟨k1,k2,_⟩:=fnd_at hf
 have hmem:∀ j,j<X.L.length→X.L.getD j En.nil ∈ X.L:=fun j hj=>by rw [getD_at _ hj];exact List.getElem_mem _
 have hid:∀ j,j<X.L.length→(X.L.getD j En.nil).id ≠ -1:=fun j hj=>by have:=(h.ents _ (hmem j hj)).i1;omega
 cases b1 with
 | none=>exact absurd (h1 m m1) (hid m m1)
 | some f =>
  obtain ⟨f1,f2,f3⟩:=h1
  refine ⟨f,rfl,f1,?_⟩
  rw [pick_2 hf ⟨m1,m2,m3⟩,if_neg (by rw [hn];simp)]
  have hlt:(X.L.getD m En.nil).v<(X.L.getD k En.nil).v:=by
   unfold nearB at hn
   have hn:=of_decide_eq_false hn
   have hh:=holdZ_credit gran
   have hs:=sat_ge (a:=(X.L.getD m En.nil).v) (b:=holdZ gran 0 1099511627776) (h.ents _ (hmem m m1)).v2 hh.1
   omega
  have hfm:=f3 m m1 (hid m m1)
  have hfc:(X.L.getD f En.nil).id≠X.cur:=fun hc=>by
   have:=En.same h.ids (hmem f f1) (hmem k k1) (hc.trans k2.symm)
   rw [this] at hfm
   exact hfm (.inl hlt)
  have hmf:=m3 f f1 hfc
  have e1:¬ ((X.L.getD m En.nil).v<(X.L.getD f En.nil).v∨((X.L.getD m En.nil).v=(X.L.getD f En.nil).v∧(X.L.getD m En.nil).id<(X.L.getD f En.nil).id)):=hfm
  have e2:¬ ((X.L.getD f En.nil).v<(X.L.getD m En.nil).v∨((X.L.getD f En.nil).v=(X.L.getD m En.nil).v∧(X.L.getD f En.nil).id<(X.L.getD m En.nil).id)):=hmf
  omega
theorem pick_4 (h:X.ok) (hf:fnd X.L X.cur=none):∀ b1,BestAt X.L (-1) X.L.length b1→(b1=none∧X.cur = -1∧X.pickI gran = -1)∨∃ f,b1=some f∧f<X.L.length∧(X.L.getD f En.nil).id=X.pickI gran:=by
 intro b1 h1
 have hnc:=(fnd_not hf).2
 have hmem:∀ j,j<X.L.length→X.L.getD j En.nil ∈ X.L:=fun j hj=>by rw [getD_at _ hj];exact List.getElem_mem _
 have hid:∀ j,j<X.L.length→(X.L.getD j En.nil).id ≠ -1:=fun j hj=>by have:=(h.ents _ (hmem j hj)).i1;omega
 have hcc:X.cur = -1:=by
  rcases h.cur with hc | ⟨x,hx,hxc⟩
  · exact hc
  · exact absurd (List.mem_map.2 ⟨x,hx,hxc⟩) hnc
 cases b1 with
 | none =>
  refine .inl ⟨rfl,hcc,?_⟩
  rw [← hcc] at h1
  rw [pick_1 h1,hcc]
 | some f =>
  refine .inr ⟨f,rfl,h1.1,?_⟩
  rw [← hcc] at h1
  have h2:X.firstK=some (X.L.getD f En.nil).key:=best_some h1
  unfold QS.pickI
  rw [h2,get_not hf]
  rfl
theorem yield_1 {k m:Nat} (hf:fnd X.L X.cur=some k) (hb:BestAt X.L X.cur X.L.length (some m)):X.yieldI gran=if nearB (X.L.getD m En.nil).v (X.L.getD k En.nil).v gran then (X.L.getD m En.nil).id else X.pickI gran:=by
 have h1:X.firstK=some (X.L.getD m En.nil).key:=best_some hb
 unfold QS.yieldI
 rw [h1,get_fnd hf]
 rfl
theorem yield_2 (hb:BestAt X.L X.cur X.L.length none):X.yieldI gran=X.pickI gran:=by
 have h1:X.firstK=none:=best_none hb
 unfold QS.yieldI
 rw [h1]
theorem yield_3 (hf:fnd X.L X.cur=none):X.yieldI gran=X.pickI gran:=by
 unfold QS.yieldI
 rw [get_not hf]
 split
 · rename_i h;simp at h
 · rfl
end
set_option maxRecDepth 100000 in
set_option maxHeartbeats 16000000 in
theorem rpick_any (A:Option Addr) (c:Nat) (X:QS) (hok:X.ok) (gran:Int) (w:World) (hA:RQ w w.heap.size A c X.L) (hl:X.L.length≤1000) :
  Calls Tryz.prog 72 #[rqV A X.L.length c X.cur X.mn X.over,.int .i64 gran] w fun r w'=>r=.returned (.tuple #[rqV A X.L.length c (X.pickI gran) X.mn X.over,.int .i64 (X.pickI gran)])∧Below w.heap.size w w':=by
 obtain ⟨L,cur,mn,fl⟩:=X
 dsimp only at hA hl ⊢
 have HA:=Lib.hid hA
 obtain ⟨n,hn⟩:∃ n,n=L.length:=⟨_,rfl⟩
 have HN:=Lib.hid hn
 obtain ⟨W2,hW2,hb2,hs2,hbx⟩:=boxed_new w A n c cur mn fl
 have MF:=rfind_any A c L cur mn fl cur W2 ((hA.1.below hb2).mono (by omega)) (by omega)
 have M1:Hid (∀ W but,RowE W W.heap.size A L→Calls Tryz.prog 78 #[rqV A n c cur mn fl,.int .i64 but] W fun e w'=>∃ bo,e=.returned (.int .i64 (idxZ bo))∧Hid (BestAt L but n bo∧Below W.heap.size W w')):=Lib.hid fun W but hW=>by
  have:=rfirst_any A c L cur mn fl but W hW hl
  rw [← hn] at this
  exact this
 obtain ⟨pk,hpk⟩:∃ pk,pk=QS.pickI ⟨L,cur,mn,fl⟩ gran:=⟨_,rfl⟩
 rw [← hpk]
 have HP1:Hid (BestAt L cur n none→pk=cur):=Lib.hid fun h=>by rw [hn] at h;rw [hpk];exact pick_1 (X:=⟨L,cur,mn,fl⟩) h
 have HP2:Hid (∀ k m,fnd L cur=some k→BestAt L cur n (some m)→nearB (L.getD k En.nil).v (L.getD m En.nil).v gran=true→pk=cur):=Lib.hid fun k m h1 h2 h3=>by
  rw [hn] at h2
  rw [hpk,pick_2 (X:=⟨L,cur,mn,fl⟩) h1 h2,if_pos h3]
 have HP3:Hid (∀ k m,fnd L cur=some k→BestAt L cur n (some m)→nearB (L.getD k En.nil).v (L.getD m En.nil).v gran=false→∀ b1,BestAt L (-1) n b1→∃ f,b1=some f∧f<L.length∧(L.getD f En.nil).id=pk):=Lib.hid fun k m h1 h2 h3 b1 h4=>by
  rw [hn] at h2 h4
  rw [hpk]
  exact pick_3 (X:=⟨L,cur,mn,fl⟩) hok h1 h2 h3 b1 h4
 have HP4:Hid (fnd L cur=none→∀ b1,BestAt L (-1) n b1→(b1=none∧cur = -1∧pk = -1)∨∃ f,b1=some f∧f<L.length∧(L.getD f En.nil).id=pk):=Lib.hid fun h1 b1 h4=>by
  rw [hn] at h4
  rw [hpk]
  exact pick_4 (X:=⟨L,cur,mn,fl⟩) hok h1 b1 h4
 have HV:Hid (∀ j,j<L.length → -9223372036854775808≤(L.getD j En.nil).v∧(L.getD j En.nil).v≤9223372036854775807):=Lib.hid fun j hj=>by
  have:=hok.ents (L.getD j En.nil) (by rw [getD_at L hj];exact List.getElem_mem _)
  exact ⟨this.v1,this.v2⟩
 rw [← hn] at MF hl ⊢
 have MF:=Lib.hid MF
 have HW2:=Lib.hid hW2
 have HB2:=Lib.hid (And.intro hb2 (And.intro hs2 hbx))
 obtain ⟨⟨x0,x1,x2,x3⟩,_,_,_⟩:=hbx.cells
 clear hA hn hW2 hb2 hs2 hbx hok hpk
 -- the rest from the second First on
 cases hf:fnd L cur with
 | none =>
  have HP5:=Lib.hid (HP4.out hf)
  rw [hf] at MF
  rw [show idxZ none = -1 from rfl] at MF
  clear hf HP1 HP2 HP3 HP4
  go_enter Tryz.func72,Tryz.ntmps72
  go_wp2_with fail
  rw [← HW2.out]
  go_wp2_with fail
  refine MF.out.mono ?_
  rintro r w5 ⟨rfl,hb5⟩
  have hbx5:=HB2.out.2.2.below hb5
  obtain ⟨⟨x0,x1,x2,x3⟩,⟨r0,r1,r2,r3⟩,f0,f1⟩:=hbx5.cells
  have H5:=Lib.hid (And.intro (HB2.out.1.trans (hb5.mono HB2.out.1.size)) hbx5)
  clear hbx5 hb5
  go_wp2_with fail
  refine (M1.out _ cur ((HA.out.1.below H5.out.1).mono H5.out.1.size)).mono ?_
  rintro r w6 ⟨bo,rfl,H6⟩
  have hbx6:=H5.out.2.below H6.out.2
  obtain ⟨⟨x0,x1,x2,x3⟩,⟨r0,r1,r2,r3⟩,f0,f1⟩:=hbx6.cells
  have H7:=Lib.hid (And.intro (H5.out.1.trans (H6.out.2.mono H5.out.1.size)) hbx6)
  generalize idxZ bo=bz at *
  clear hbx6
  go_wp2_with fail
  go_big_quiet (fail)
  go_wp2_with fail
  have H8:=Lib.hid (below_drewN H7.out.1 nq)
  have H9:=Lib.hid (H7.out.2.below (below_drewN (Below.refl _ _) nq))
  refine (M1.out _ (-1) ((HA.out.1.below H8.out).mono H8.out.size)).mono ?_
  rintro r w10 ⟨b1,rfl,H10⟩
  have hbx10:=H9.out.below H10.out.2
  clear x0 x1 x2 x3 r0 r1 r2 r3 f0 f1
  obtain ⟨⟨x0,x1,x2,x3⟩,⟨r0,r1,r2,r3⟩,f0,f1⟩:=hbx10.cells
  have H11:=Lib.hid (And.intro (H8.out.trans (H10.out.2.mono H8.out.size)) hbx10)
  clear hbx10
  rcases HP5.out b1 H10.out.1 with ⟨rfl,rfl,rfl⟩ | ⟨f,rfl,hfl,hfi⟩
  ·
   rw [show idxZ none = -1 from rfl]
   go_wp2_with fail
   refine bodyPost_ret (v:=.tuple #[rqV A n c (-1) mn fl,.int .i64 (-1)]) (by simp [results,Tryz.results72,go_sem,r0,r1,r2,r3]) rfl ⟨rfl,?_⟩
   exact four_below H11.out.1 _ (by omega) _ _ _ _
  ·
   rw [show idxZ (some f)=(f:Int) from rfl]
   obtain ⟨b,off,rfl,hb,hc⟩:=HA.out.1.at_ (by omega)
   obtain ⟨y0,_,_,_⟩:=(hc f hfl).below H11.out.1 hb
   rw [hfi] at y0
   have m0:(0:Int)≤(f:Int):=Int.natCast_nonneg _
   have m1:(f:Int)<(n:Int):=by have:=HN.out;omega
   have m2:decide ((f:Int)<0)=false:=decide_eq_false (by omega)
   have hz1:=H11.out.2.r.lt
   have hz0:=H11.out.2.q.lt
   clear hc hfi hfl
   go_wp2_with fail
   go_region_with fail
   all_goals
    go_wp2_with fail
    refine bodyPost_ret (v:=.tuple #[rqV (some ⟨b,off,none⟩) n c pk mn fl,.int .i64 pk]) (by simp [results,Tryz.results72,go_sem,r0,r1,r2,r3]) rfl ⟨rfl,?_⟩
    exact (four_below (H11.out.1.setCell (p:=⟨w.heap.size,1,none⟩) (Nat.le_refl _) _) _ (by omega) _ _ _ _).drew
 | some k =>
  obtain ⟨hk,hki,_⟩:=fnd_at hf
  have HP6:Hid (∀ m,BestAt L cur n (some m)→nearB (L.getD k En.nil).v (L.getD m En.nil).v gran=true→pk=cur):=Lib.hid fun m h1 h2=>HP2.out k m hf h1 h2
  have HP7:Hid (∀ m,BestAt L cur n (some m)→nearB (L.getD k En.nil).v (L.getD m En.nil).v gran=false→∀ b1,BestAt L (-1) n b1→∃ f,b1=some f∧f<L.length∧(L.getD f En.nil).id=pk):=Lib.hid fun m h1 h2=>HP3.out k m hf h1 h2
  rw [hf] at MF
  rw [show idxZ (some k)=(k:Int) from rfl] at MF
  obtain ⟨b,off,rfl,hb,hc⟩:=HA.out.1.at_ (by omega)
  have HC:=Lib.hid (And.intro hb hc)
  have k0:(0:Int)≤(k:Int):=Int.natCast_nonneg _
  have k1:(k:Int)<(n:Int):=by have:=HN.out;omega
  have k2:decide ((0:Int)≤(k:Int))=true:=decide_eq_true k0
  clear hf HP2 HP3 HP4 hki hc hb
  go_enter Tryz.func72,Tryz.ntmps72
  go_wp2_with fail
  rw [← HW2.out]
  go_wp2_with fail
  refine MF.out.mono ?_
  rintro r w5 ⟨rfl,hb5⟩
  have hbx5:=HB2.out.2.2.below hb5
  obtain ⟨⟨x0,x1,x2,x3⟩,⟨r0,r1,r2,r3⟩,f0,f1⟩:=hbx5.cells
  have H5:=Lib.hid (And.intro (HB2.out.1.trans (hb5.mono HB2.out.1.size)) hbx5)
  clear hbx5 hb5
  go_wp2_with fail
  refine (M1.out _ cur ((HA.out.1.below H5.out.1).mono H5.out.1.size)).mono ?_
  rintro r w6 ⟨bo,rfl,H6⟩
  have hbx6:=H5.out.2.below H6.out.2
  obtain ⟨⟨x0,x1,x2,x3⟩,⟨r0,r1,r2,r3⟩,f0,f1⟩:=hbx6.cells
  have H7:=Lib.hid (And.intro (H5.out.1.trans (H6.out.2.mono H5.out.1.size)) hbx6)
  have hz1:=hbx6.r.lt
  have hz0:=hbx6.q.lt
  clear hbx6
  cases bo with
  | none =>
   have hpc:=HP1.out H6.out.1
   subst hpc
   rw [show idxZ none = -1 from rfl]
   go_wp2_with fail
   go_big_quiet (fail)
   go_wp2_with fail
   go_region_with fail
   all_goals
    go_wp2_with fail
    refine bodyPost_ret (v:=.tuple #[rqV (some ⟨b,off,none⟩) n c pk mn fl,.int .i64 pk]) (by simp [results,Tryz.results72,go_sem,r0,r1,r2,r3]) rfl ⟨rfl,?_⟩
    first
     | exact (four_below (below_drewN H7.out.1 _) _ (by omega) _ _ _ _).drew
     | exact four_below (below_drewN H7.out.1 _).drew _ (by omega) _ _ _ _
     | exact below_drewN (four_below H7.out.1 _ (by omega) _ _ _ _) _
  | some m =>
   have hmL:m<L.length:=by have:=H6.out.1.1;have:=HN.out;omega
   obtain ⟨_,_,y2,_⟩:=(HC.out.2 k hk).below H7.out.1 HC.out.1
   obtain ⟨_,_,z2,_⟩:=(HC.out.2 m hmL).below H7.out.1 HC.out.1
   have hvb:=HV.out m hmL
   have m0:(0:Int)≤(m:Int):=Int.natCast_nonneg _
   have m1:(m:Int)<(n:Int):=by have:=HN.out;omega
   have m2:decide ((m:Int)<0)=false:=decide_eq_false (by omega)
   rw [show idxZ (some m)=(m:Int) from rfl]
   have MN:Hid (∀ i,Calls Tryz.prog 105 #[.int .i64 (L.getD k En.nil).v,.int .i64 (L.getD m En.nil).v,.int .i64 gran] (World.drewN w6 i) fun e w'=>e=.returned (.bool (nearB (L.getD k En.nil).v (L.getD m En.nil).v gran))∧World.drewN w6 i=w'):=Lib.hid fun i=>rnear_any _ _ gran hvb.1 hvb.2 _
   have HQ1:=Lib.hid (HP6.out m H6.out.1)
   have HQ2:=Lib.hid (HP7.out m H6.out.1)
   cases hnb:nearB (L.getD k En.nil).v (L.getD m En.nil).v gran with
   | true =>
    have hpc:=HQ1.out hnb
    subst hpc
    rw [hnb] at MN
    generalize (L.getD k En.nil).v=vk at *
    generalize (L.getD m En.nil).v=vm at *
    clear HQ1 HQ2 hnb hmL hvb hk
    go_wp2_with fail
    go_big_quiet ((go_at_call 105;exact quiet_left (MN.out _)))
    go_wp2_with fail
    go_region_with fail
    all_goals
     go_wp2_with fail
     refine bodyPost_ret (v:=.tuple #[rqV (some ⟨b,off,none⟩) n c pk mn fl,.int .i64 pk]) (by simp [results,Tryz.results72,go_sem,r0,r1,r2,r3]) rfl ⟨rfl,?_⟩
     first
      | exact (four_below (below_drewN H7.out.1 _) _ (by omega) _ _ _ _).drew
      | exact four_below (below_drewN H7.out.1 _).drew _ (by omega) _ _ _ _
      | exact below_drewN (four_below H7.out.1 _ (by omega) _ _ _ _) _
   | false =>
    have HP5:=Lib.hid (HQ2.out hnb)
    rw [hnb] at MN
    generalize (L.getD k En.nil).v=vk at *
    generalize (L.getD m En.nil).v=vm at *
    clear HQ1 HQ2 hnb hmL hvb hk
    go_wp2_with fail
    go_big_quiet ((go_at_call 105;exact quiet_left (MN.out _)))
    go_wp2_with fail
    have H8:=Lib.hid (below_drewN H7.out.1 nq)
    have H9:=Lib.hid (H7.out.2.below (below_drewN (Below.refl _ _) nq))
    refine (M1.out _ (-1) ((HA.out.1.below H8.out).mono H8.out.size)).mono ?_
    rintro r w10 ⟨b1,rfl,H10⟩
    have hbx10:=H9.out.below H10.out.2
    clear x0 x1 x2 x3 r0 r1 r2 r3 f0 f1 y2 z2
    obtain ⟨⟨x0,x1,x2,x3⟩,⟨r0,r1,r2,r3⟩,f0,f1⟩:=hbx10.cells
    have H11:=Lib.hid (And.intro (H8.out.trans (H10.out.2.mono H8.out.size)) hbx10)
    clear hbx10
    obtain ⟨f,rfl,hfl,hfi⟩:=HP5.out b1 H10.out.1
    rw [show idxZ (some f)=(f:Int) from rfl]
    obtain ⟨y0,_,_,_⟩:=(HC.out.2 f hfl).below H11.out.1 HC.out.1
    rw [hfi] at y0
    have f00:(0:Int)≤(f:Int):=Int.natCast_nonneg _
    have f01:(f:Int)<(n:Int):=by have:=HN.out;omega
    have f02:decide ((f:Int)<0)=false:=decide_eq_false (by omega)
    have hy1:=H11.out.2.r.lt
    have hy0:=H11.out.2.q.lt
    clear hfi hfl
    go_wp2_with fail
    go_region_with fail
    all_goals
     go_wp2_with fail
     refine bodyPost_ret (v:=.tuple #[rqV (some ⟨b,off,none⟩) n c pk mn fl,.int .i64 pk]) (by simp [results,Tryz.results72,go_sem,r0,r1,r2,r3]) rfl ⟨rfl,?_⟩
     exact (four_below (H11.out.1.setCell (p:=⟨w.heap.size,1,none⟩) (Nat.le_refl _) _) _ (by omega) _ _ _ _).drew
end Go.Proofs.YtefekboacghnjaaGreat
namespace Go.Proofs.YtefekboacghnjaaGreat
open Go.RowKit Go.Maps
set_option maxRecDepth 100000 in
set_option maxHeartbeats 16000000 in
theorem ryield_any (A:Option Addr) (c:Nat) (X:QS) (hok:X.ok) (gran:Int) (w:World) (hA:RQ w w.heap.size A c X.L) (hl:X.L.length≤1000) :
  Calls Tryz.prog 71 #[rqV A X.L.length c X.cur X.mn X.over,.int .i64 gran] w fun r w'=>r=.returned (.tuple #[rqV A X.L.length c (X.yieldI gran) X.mn X.over,.int .i64 (X.yieldI gran)])∧Below w.heap.size w w':=by
 obtain ⟨L,cur,mn,fl⟩:=X
 dsimp only at hA hl ⊢
 have HA:=Lib.hid hA
 obtain ⟨n,hn⟩:∃ n,n=L.length:=⟨_,rfl⟩
 have HN:=Lib.hid hn
 obtain ⟨W2,hW2,hb2,hs2,hbx⟩:=boxed_new w A n c cur mn fl
 have MF:=rfind_any A c L cur mn fl cur W2 ((hA.1.below hb2).mono (by omega)) (by omega)
 have M1:Hid (∀ W but,RowE W W.heap.size A L→Calls Tryz.prog 78 #[rqV A n c cur mn fl,.int .i64 but] W fun e w'=>∃ bo,e=.returned (.int .i64 (idxZ bo))∧Hid (BestAt L but n bo∧Below W.heap.size W w')):=Lib.hid fun W but hW=>by
  have:=rfirst_any A c L cur mn fl but W hW hl
  rw [← hn] at this
  exact this
 obtain ⟨pk,hpk⟩:∃ pk,pk=QS.pickI ⟨L,cur,mn,fl⟩ gran:=⟨_,rfl⟩
 obtain ⟨yk,hyk⟩:∃ yk,yk=QS.yieldI ⟨L,cur,mn,fl⟩ gran:=⟨_,rfl⟩
 rw [← hyk]
 have MP:Hid (∀ W,RQ W W.heap.size A c L→Calls Tryz.prog 72 #[rqV A n c cur mn fl,.int .i64 gran] W fun r w'=>r=.returned (.tuple #[rqV A n c pk mn fl,.int .i64 pk])∧Below W.heap.size W w'):=Lib.hid fun W hW=>by
  have:=rpick_any A c ⟨L,cur,mn,fl⟩ hok gran W hW hl
  dsimp only at this
  rw [← hn,← hpk] at this
  exact this
 have HP1:Hid (BestAt L cur n none→yk=pk):=Lib.hid fun h=>by rw [hn] at h;rw [hyk,hpk];exact yield_2 (X:=⟨L,cur,mn,fl⟩) h
 have HP2:Hid (∀ k m,fnd L cur=some k→BestAt L cur n (some m)→yk=if nearB (L.getD m En.nil).v (L.getD k En.nil).v gran then (L.getD m En.nil).id else pk):=Lib.hid fun k m h1 h2=>by
  rw [hn] at h2
  rw [hyk,hpk]
  exact yield_1 (X:=⟨L,cur,mn,fl⟩) h1 h2
 have HP4:Hid (fnd L cur=none→yk=pk):=Lib.hid fun h1=>by
  rw [hyk,hpk]
  exact yield_3 (X:=⟨L,cur,mn,fl⟩) h1
 have HV:Hid (∀ j,j<L.length → -9223372036854775808≤(L.getD j En.nil).v∧(L.getD j En.nil).v≤9223372036854775807):=Lib.hid fun j hj=>by
  have:=hok.ents (L.getD j En.nil) (by rw [getD_at L hj];exact List.getElem_mem _)
  exact ⟨this.v1,this.v2⟩
 rw [← hn] at MF hl ⊢
 have MF:=Lib.hid MF
 have HW2:=Lib.hid hW2
 have HB2:=Lib.hid (And.intro hb2 (And.intro hs2 hbx))
 obtain ⟨⟨x0,x1,x2,x3⟩,_,_,_⟩:=hbx.cells
 clear hA hn hW2 hb2 hs2 hbx hok hpk hyk
 cases hf:fnd L cur with
 | none =>
  have hyp:=HP4.out hf
  obtain rfl:pk=yk:=hyp.symm
  rw [hf] at MF
  rw [show idxZ none = -1 from rfl] at MF
  clear hf HP1 HP2 HP4
  go_enter Tryz.func71,Tryz.ntmps71
  go_wp2_with fail
  rw [← HW2.out]
  go_wp2_with fail
  refine MF.out.mono ?_
  rintro r w5 ⟨rfl,hb5⟩
  have hbx5:=HB2.out.2.2.below hb5
  obtain ⟨⟨x0,x1,x2,x3⟩,⟨r0,r1,r2,r3⟩,f0,f1⟩:=hbx5.cells
  have H5:=Lib.hid (And.intro (HB2.out.1.trans (hb5.mono HB2.out.1.size)) hbx5)
  clear hbx5 hb5
  go_wp2_with fail
  refine (M1.out _ cur ((HA.out.1.below H5.out.1).mono H5.out.1.size)).mono ?_
  rintro r w6 ⟨bo,rfl,H6⟩
  have hbx6:=H5.out.2.below H6.out.2
  obtain ⟨⟨x0,x1,x2,x3⟩,⟨r0,r1,r2,r3⟩,f0,f1⟩:=hbx6.cells
  have H7:=Lib.hid (And.intro (H5.out.1.trans (H6.out.2.mono H5.out.1.size)) hbx6)
  have hz1:=hbx6.r.lt
  have hz0:=hbx6.q.lt
  clear hbx6
  generalize idxZ bo=bz at *
  go_wp2_with fail
  go_big_quiet (fail)
  go_wp2_with fail
  have H8:=Lib.hid (below_drewN H7.out.1 nq)
  have H9:=Lib.hid (H7.out.2.below (below_drewN (Below.refl _ _) nq))
  refine (MP.out _ ((HA.out.below H8.out).mono H8.out.size)).mono ?_
  rintro r w10 ⟨rfl,hb10⟩
  have hbx10:=H9.out.below hb10
  clear x0 x1 x2 x3 r0 r1 r2 r3 f0 f1
  obtain ⟨_,⟨r0,r1,r2,r3⟩,_,f1⟩:=hbx10.cells
  have H11:=Lib.hid (H8.out.trans (hb10.mono H8.out.size))
  have hz11:=hbx10.r.lt
  clear hbx10 hb10
  go_wp2_with fail
  refine bodyPost_ret (v:=.tuple #[rqV A n c pk mn fl,.int .i64 pk]) (by simp [results,Tryz.results71,go_sem,r0,r1,r2,r3]) rfl ⟨rfl,?_⟩
  exact four_below H11.out _ (by omega) _ _ _ _
 | some k =>
  obtain ⟨hk,_,_⟩:=fnd_at hf
  have HP6:Hid (∀ m,BestAt L cur n (some m)→yk=if nearB (L.getD m En.nil).v (L.getD k En.nil).v gran then (L.getD m En.nil).id else pk):=Lib.hid fun m h1=>HP2.out k m hf h1
  rw [hf] at MF
  rw [show idxZ (some k)=(k:Int) from rfl] at MF
  obtain ⟨b,off,rfl,hb,hc⟩:=HA.out.1.at_ (by omega)
  have HC:=Lib.hid (And.intro hb hc)
  have k0:(0:Int)≤(k:Int):=Int.natCast_nonneg _
  have k1:(k:Int)<(n:Int):=by have:=HN.out;omega
  have k2:decide ((0:Int)≤(k:Int))=true:=decide_eq_true k0
  clear hf HP2 HP4 hc hb
  go_enter Tryz.func71,Tryz.ntmps71
  go_wp2_with fail
  rw [← HW2.out]
  go_wp2_with fail
  refine MF.out.mono ?_
  rintro r w5 ⟨rfl,hb5⟩
  have hbx5:=HB2.out.2.2.below hb5
  obtain ⟨⟨x0,x1,x2,x3⟩,⟨r0,r1,r2,r3⟩,f0,f1⟩:=hbx5.cells
  have H5:=Lib.hid (And.intro (HB2.out.1.trans (hb5.mono HB2.out.1.size)) hbx5)
  clear hbx5 hb5
  go_wp2_with fail
  refine (M1.out _ cur ((HA.out.1.below H5.out.1).mono H5.out.1.size)).mono ?_
  rintro r w6 ⟨bo,rfl,H6⟩
  have hbx6:=H5.out.2.below H6.out.2
  obtain ⟨⟨x0,x1,x2,x3⟩,⟨r0,r1,r2,r3⟩,f0,f1⟩:=hbx6.cells
  have H7:=Lib.hid (And.intro (H5.out.1.trans (H6.out.2.mono H5.out.1.size)) hbx6)
  have hz1:=hbx6.r.lt
  have hz0:=hbx6.q.lt
  clear hbx6
  cases bo with
  | none =>
   obtain rfl:pk=yk:=(HP1.out H6.out.1).symm
   rw [show idxZ none = -1 from rfl]
   go_wp2_with fail
   go_big_quiet (fail)
   go_wp2_with fail
   have H8:=Lib.hid (below_drewN H7.out.1 nq)
   have H9:=Lib.hid (H7.out.2.below (below_drewN (Below.refl _ _) nq))
   refine (MP.out _ ((HA.out.below H8.out).mono H8.out.size)).mono ?_
   rintro r w10 ⟨rfl,hb10⟩
   have hbx10:=H9.out.below hb10
   clear x0 x1 x2 x3 r0 r1 r2 r3 f0 f1
   obtain ⟨_,⟨r0,r1,r2,r3⟩,_,f1⟩:=hbx10.cells
   have H11:=Lib.hid (H8.out.trans (hb10.mono H8.out.size))
   have hz11:=hbx10.r.lt
   clear hbx10 hb10
   go_wp2_with fail
   refine bodyPost_ret (v:=.tuple #[rqV (some ⟨b,off,none⟩) n c pk mn fl,.int .i64 pk]) (by simp [results,Tryz.results71,go_sem,r0,r1,r2,r3]) rfl ⟨rfl,?_⟩
   exact four_below H11.out _ (by omega) _ _ _ _
  | some m =>
   have hmL:m<L.length:=by have:=H6.out.1.1;have:=HN.out;omega
   obtain ⟨_,_,y2,_⟩:=(HC.out.2 k hk).below H7.out.1 HC.out.1
   obtain ⟨z0,_,z2,_⟩:=(HC.out.2 m hmL).below H7.out.1 HC.out.1
   have hvb:=HV.out k hk
   have m0:(0:Int)≤(m:Int):=Int.natCast_nonneg _
   have m1:(m:Int)<(n:Int):=by have:=HN.out;omega
   have m2:decide ((0:Int)≤(m:Int))=true:=decide_eq_true m0
   rw [show idxZ (some m)=(m:Int) from rfl]
   have MN:Hid (∀ i,Calls Tryz.prog 105 #[.int .i64 (L.getD m En.nil).v,.int .i64 (L.getD k En.nil).v,.int .i64 gran] (World.drewN w6 i) fun e w'=>e=.returned (.bool (nearB (L.getD m En.nil).v (L.getD k En.nil).v gran))∧World.drewN w6 i=w'):=Lib.hid fun i=>rnear_any _ _ gran hvb.1 hvb.2 _
   have HQ1:=HP6.out m H6.out.1
   cases hnb:nearB (L.getD m En.nil).v (L.getD k En.nil).v gran with
   | true =>
    rw [hnb] at MN HQ1
    rw [if_pos rfl] at HQ1
    rw [← HQ1] at z0
    clear HQ1 hnb hmL hvb
    generalize (L.getD k En.nil).v=vk at *
    generalize (L.getD m En.nil).v=vm at *
    go_wp2_with fail
    go_big_quiet ((go_at_call 105;exact quiet_left (MN.out _)))
    go_wp2_with fail
    go_region_with fail
    all_goals
     go_wp2_with fail
     refine bodyPost_ret (v:=.tuple #[rqV (some ⟨b,off,none⟩) n c yk mn fl,.int .i64 yk]) (by simp [results,Tryz.results71,go_sem,r0,r1,r2,r3]) rfl ⟨rfl,?_⟩
     first
      | exact (four_below ((below_drewN H7.out.1 _).setCell (p:=⟨w.heap.size,1,none⟩) (Nat.le_refl _) _) _ (by omega) _ _ _ _).drew
      | exact below_drewN (four_below (H7.out.1.setCell (p:=⟨w.heap.size,1,none⟩) (Nat.le_refl _) _) _ (by omega) _ _ _ _) _
   | false =>
    rw [hnb] at MN HQ1
    rw [if_neg (by simp)] at HQ1
    obtain rfl:pk=yk:=HQ1.symm
    clear hnb hmL hvb
    generalize (L.getD k En.nil).v=vk at *
    generalize (L.getD m En.nil).v=vm at *
    go_wp2_with fail
    go_big_quiet ((go_at_call 105;exact quiet_left (MN.out _)))
    go_wp2_with fail
    have H8:=Lib.hid (below_drewN H7.out.1 nq)
    have H9:=Lib.hid (H7.out.2.below (below_drewN (Below.refl _ _) nq))
    refine (MP.out _ ((HA.out.below H8.out).mono H8.out.size)).mono ?_
    rintro r w10 ⟨rfl,hb10⟩
    have hbx10:=H9.out.below hb10
    clear x0 x1 x2 x3 r0 r1 r2 r3 f0 f1
    obtain ⟨_,⟨r0,r1,r2,r3⟩,_,f1⟩:=hbx10.cells
    have H11:=Lib.hid (H8.out.trans (hb10.mono H8.out.size))
    have hz11:=hbx10.r.lt
    clear hbx10 hb10
    go_wp2_with fail
    refine bodyPost_ret (v:=.tuple #[rqV (some ⟨b,off,none⟩) n c pk mn fl,.int .i64 pk]) (by simp [results,Tryz.results71,go_sem,r0,r1,r2,r3]) rfl ⟨rfl,?_⟩
    exact four_below H11.out _ (by omega) _ _ _ _
set_option maxRecDepth 100000 in
set_option maxHeartbeats 8000000 in
theorem rload_any (A:Option Addr) (c:Nat) (L:List En) (cur mn:Int) (fl:Bool) (hL:∀ e ∈ L,e.ok) (w:World) (hA:RowE w w.heap.size A L) (hl:L.length≤1000) :
  Calls Tryz.prog 39 #[rqV A L.length c cur mn fl] w fun e w'=>e=.returned (.int .u64 (loadL L:Nat))∧Below w.heap.size w w':=by
 have HA:=Lib.hid hA
 have HS:Hid (∀ k,k<L.length→loadL (L.take (k+1))=loadL (L.take k)+(L.getD k En.nil).wt):=Lib.hid fun k hk=>by
  rw [getD_at L hk,← List.take_append_getElem hk]
  generalize L.take k=l
  induction l with
  | nil=>simp [loadL]
  | cons e l ih=>simp [loadL,ih];omega
 have HT:Hid (∀ k,k≤L.length→loadL (L.take k)≤k*262144):=Lib.hid fun k=>by
  induction k with
  | zero=>intro _;simp [loadL]
  | succ k ih =>
   intro hk
   have h1:=ih (by omega)
   have h2:=HS.out k (by omega)
   have h3:=(hL (L.getD k En.nil) (by rw [getD_at L (by omega:k<L.length)];exact List.getElem_mem _)).w2
   rw [h2,Nat.add_mul,Nat.one_mul]
   omega
 obtain ⟨n,hn⟩:∃ n,n=L.length:=⟨_,rfl⟩
 have HE:Hid (loadL (L.take n)=loadL L):=Lib.hid (by rw [hn,List.take_length])
 rw [← hn] at hl ⊢
 have HN:=Lib.hid hn
 clear hA hn hL
 obtain ⟨W1,hW1,hb1,hbx,_⟩:=rq_box w A n c cur mn fl
 have HW1:=Lib.hid hW1
 have b0:W1.cell? ⟨w.heap.size,0,none⟩=some (.slice A n c):=Blk.cell hbx 0
 have HB1:=Lib.hid hb1
 clear hW1 hb1 hbx
 go_enter Tryz.func39,Tryz.ntmps39
 go_wp2_with fail
 rw [← HW1.out]
 go_loopw [3,4] (fun s3 s4 wr=>∃ k t:Nat,k≤n∧s4=.int .i64 k∧s3=.int .u64 t∧W1=wr∧Hid (t=loadL (L.take k))) (fun _ s4 _=>n - (intOf s4).toNat)
 case atStart=>exact ⟨0,0,by omega,rfl,rfl,rfl,Lib.hid rfl⟩
 case round =>
  obtain ⟨k,t,hk,rfl,rfl,rfl,HTT⟩:=hrel
  by_cases hlt:k<n
  ·
   have hk1:k<L.length:=by rw [← HN.out];exact hlt
   obtain ⟨b,off,rfl,hb,hc⟩:=HA.out.at_ (by omega)
   obtain ⟨_,x1,_,_⟩:=(hc k hk1).below HB1.out hb
   have hs:=HS.out k hk1
   have ht:=HT.out (k+1) (by omega)
   clear hc
   generalize (L.getD k En.nil).wt=wt at *
   obtain ⟨t2,ht2⟩:∃ t2,t2=t+wt:=⟨_,rfl⟩
   have HT2:Hid (t2=loadL (L.take (k+1))):=Lib.hid (by rw [hs,ht2,HTT.out])
   rw [← HT2.out] at ht
   have e1:IntKind.u64.wrap ((t:Int)+(wt:Int))=(t2:Int):=by rw [IntKind.wrap_u64];omega
   have z1:decide ((k:Int)<(n:Int))=true:=decide_eq_true (by omega)
   have z2:decide (k<n)=true:=decide_eq_true hlt
   have j0:(0:Int)≤(k:Int):=Int.natCast_nonneg _
   have j1:(k:Int)<(n:Int):=by omega
   clear hs ht ht2 hk1
   go_wp2_with fail
   go_roundw
   case rel=>exact ⟨k+1,t2,by omega,by go_num,rfl,by first | rfl | trivial,HT2.out⟩
   case measure=>simp [intOf];omega
  ·
   obtain rfl:k=n:=by omega
   have z1:decide ((k:Int)<(k:Int))=false:=decide_eq_false (by omega)
   have ht:=HTT.out.trans HE.out
   have HF:=Lib.hid ht
   clear ht
   go_wp2_with fail
   go_ret
   exact ⟨by rw [← HF.out];rfl,HB1.out⟩
theorem rnew_any (w:World):Calls Tryz.prog 16 #[] w fun e w'=>e=.returned (rqV none 0 0 (-1) 0 false)∧Below w.heap.size w w':=by
 go_enter Tryz.func16,Tryz.ntmps16
 go_wp2_with fail
 refine bodyPost_ret (v:=rqV none 0 0 (-1) 0 false) (by simp [results,Tryz.results16,go_sem]) rfl ⟨rfl,?_⟩
 exact (Below.refl _ _).alloc (Nat.le_refl _) _
end Go.Proofs.YtefekboacghnjaaGreat
