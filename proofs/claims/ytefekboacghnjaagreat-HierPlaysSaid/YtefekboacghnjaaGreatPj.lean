/-
  doleref20.Drop.
  doleref20.Link.
  doleref20.Weigh.
  doleref20.Weigh, of a group that stands in its parent's queue.
  doleref20.Unlink.
-/
import Derived.Test.YtefekboacghnjaaGreatPi
import Derived.Deep.RegionHeld3
import Derived.StillTailTactics
import Derived.Test.YtefekboacghnjaaGreatMo
import Derived.LoopTactic
set_option linter.unusedVariables false
set_option linter.unusedSimpArgs false
namespace Go.Proofs.YtefekboacghnjaaGreat
open Go.RowKit Go.Maps
theorem XFr.new3 {w:World} {X:XH} {S:HS} (a:XAt w S X):∃ W,W=((w.alloc (.cells (xcells X).toArray 38)).alloc (.cells Tryz.zeroCells38 38)).alloc (.cells #[.int .i64 0,.int .u64 0,.int .i64 0,.int .u64 0] 34) ∧
  XFr 1 2 w W X X S∧Blk W (w.heap.size+1+1) #[.int .i64 0,.int .u64 0,.int .i64 0,.int .u64 0] 34:=by
 have hb:Below w.heap.size w (((w.alloc (.cells (xcells X).toArray 38)).alloc (.cells Tryz.zeroCells38 38)).alloc (.cells #[.int .i64 0,.int .u64 0,.int .i64 0,.int .u64 0] 34)):=(((Below.refl _ _).alloc (Nat.le_refl _) _).alloc (by simp) _).alloc (by simp;omega) _
 have n0:=Blk.new (w.alloc (.cells (xcells X).toArray 38)) Tryz.zeroCells38 38
 rw [World.size_alloc] at n0
 have n1:=Blk.new ((w.alloc (.cells (xcells X).toArray 38)).alloc (.cells Tryz.zeroCells38 38)) #[.int .i64 0,.int .u64 0,.int .i64 0,.int .u64 0] 34
 rw [World.size_alloc,World.size_alloc] at n1
 exact ⟨_,rfl,⟨Blk.alloc (Blk.alloc (XBlk.new w X) _) _,⟨_,Tryz.zeroCells38_size,n0.alloc _⟩,a.below hb,hb,⟨by omega,by omega,by simp⟩,fun i ad hi h1 h2=>.inl ⟨a.lt hi h1 h2,i,hi,h1,h2⟩⟩,n1⟩
theorem XFr.done4 {r k:Nat} {w W:World} {X Y:XH} {S:HS} (f:XFr r k w W X Y S) {W1 W':World} {Y1:XH} {S1:HS} (t:XTo W W1 Y Y1 S1) {b:Nat} (ho:∀ c,c≠w.heap.size+r→c≠b→W'.heap[c]?=W1.heap[c]?) (hs:W'.heap.size=W1.heap.size) (hB:Below w.heap.size w W')
  (h1:w.heap.size≤b) (h2:b≤w.heap.size+k):XTo w W' X Y1 S1:=by
 have hlim:=f.lim
 have hor:∀ i a,i<32→(Y1.g i).A=some a→(Y1.g i).q.L≠[]→(a.block<w.heap.size∧∃ j,j<32∧(X.g j).A=some a∧(X.g j).q.L≠[])∨w.heap.size+k<a.block:=fun i a hi e1 e2=>by
  rcases t.or i a hi e1 e2 with ⟨j,g1,g2,g3⟩ | h
  · exact f.or j a g1 g2 g3
  · exact .inr (by omega)
 refine ⟨⟨t.at_.cr,t.at_.gr,t.at_.no,t.at_.is,t.at_.rows (by omega) (fun i ad hi e1 e2=>ho _ ?_ ?_),t.at_.led⟩,hB,fun i ad hi e1 e2=>?_⟩
 · rcases hor i ad hi e1 e2 with ⟨h,_⟩ | h <;> omega
 · rcases hor i ad hi e1 e2 with ⟨h,_⟩ | h <;> omega
 ·
  rcases hor i ad hi e1 e2 with ⟨_,h⟩ | h
  · exact .inl h
  · exact .inr (by omega)
theorem ent_size:(Tryz.prog.info? 34).map (·.size)=some 4:=by kernel_rfl
theorem load_ent {w:World} {b:Nat} {e:En} (h:Blk w b #[.int .i64 e.id,.int .u64 e.wt,.int .i64 e.v,.int .u64 e.rem] 34):(loadVar 34 ⟨b,0,none⟩).run Tryz.prog w=.ok (enV e) w :=
 run_loadVar_mid w b 0 _ [.int .i64 e.id,.int .u64 e.wt,.int .i64 e.v,.int .u64 e.rem] _ (fun j v hv=>by rw [Nat.zero_add,Blk.cell h,List.getElem?_toArray];exact hv) Tryz.underlying34 rfl ent_size
theorem tn_call {S:List Nat} {W w w':World} {R:Prop} (hb:Below w.heap.size w w') (h:Turns S W w∧R):Turns S W w':=h.1.below hb h.1.size
theorem tn_sets {S:List Nat} {W w:World} {R:Prop} {b:Nat} (h:Turns S W w∧R) (hb:b ∈ S) (o:Nat) (vs:List Value):Turns S W (w.setCells b o vs):=by
 have key:∀ (vs:List Value) (o:Nat) (v:World),Turns S W v→Turns S W (v.setCells b o vs):=fun vs=>by
  induction vs with
  | nil=>exact fun _ _ h=>h
  | cons a vs ih=>exact fun o v h=>ih (o+1) _ (h.setCell (.inl hb) a)
 exact key vs o w h.1
theorem tn_four {S:List Nat} {W w:World} {R:Prop} {b:Nat} (h:Turns S W w∧R) (hb:b ∈ S) (u0 u1 u2 u3:Value):Turns S W ((((w.setCell ⟨b,0,none⟩ u0).setCell ⟨b,1,none⟩ u1).setCell ⟨b,2,none⟩ u2).setCell ⟨b,3,none⟩ u3) :=
 (((h.1.setCell (.inl hb) _).setCell (.inl hb) _).setCell (.inl hb) _).setCell (.inl hb) _
section
variable {w:World} {S:HS} {X:XH}
set_option maxRecDepth 100000 in
set_option maxHeartbeats 8000000 in
theorem xdrop_bad (a:XAt w S X) (T:HTree S) {g t:Int} (hbad:S.at_ g=none∨¬(0≤t∧t<64)) :
  Calls Tryz.prog 20 #[xV X,.int .i64 g,.int .i64 t] w fun r w'=>r=.returned (.tuple #[xV X,.agg zeroE,.int .i64 1])∧Hid (XTo w w' X X S):=by
 obtain ⟨W1,hW1,f,hbe⟩:=XFr.new3 a
 have hp:=f.pack
 rw [hW1] at hp
 have HR:=Lib.hid hp
 have MT:=Lib.hid fun W=>xthere_any a T g W
 have MK:=Lib.hid fun W=>xtask_any t W
 have HF:=Lib.hid (And.intro f hbe)
 have HW:=Lib.hid hW1
 clear hp f hW1 a T hbe
 have hcase:((S.at_ g).isSome=false)∨((S.at_ g).isSome=true∧decide (0≤t∧t<64)=false):=by
  cases hg:S.at_ g with
  | none=>exact .inl rfl
  | some x =>
   refine .inr ⟨rfl,?_⟩
   rcases hbad with h | h
   · rw [hg] at h;simp at h
   · exact decide_eq_false h
 clear hbad
 generalize decide (0≤t∧t<64)=bk at *
 generalize (S.at_ g).isSome=bt at *
 show Calls Tryz.prog _ #[.agg (xcells X).toArray,.int .i64 g,.int .i64 t] w _
 go_enter Tryz.func20,Tryz.ntmps20
 go_wp2_with (refine wpList_wload_mid rfl 38 (.tmp 3) rfl w.heap.size 0 rfl (xcells X) _ HR.out.1 Tryz.underlying38 rfl HR.out.2.1 ?_)
 rw [← HW.out]
 refine (MT.out _).mono ?_
 rintro r w2 ⟨rfl,hb⟩
 have f2:=HF.out.1.below hb
 have HF2:=Lib.hid (And.intro f2 (HF.out.2.below hb HF.out.2.lt))
 have HR2:=Lib.hid f2.pack
 clear f2 hb HF HW MT
 rcases hcase with rfl | ⟨rfl,rfl⟩
 ·
  obtain ⟨W8,hW8⟩:∃ W8,W8=w2.setCells (w.heap.size+1) 0 (xcells X):=⟨_,rfl⟩
  have hz9:=Blk.of HF2.out.2 (other_sets (b:=w.heap.size+1) (c:=w.heap.size+1+1) (by omega) (xcells X) 0 w2)
  have hd8:=HF2.out.1.done
  rw [← hW8] at hz9 hd8
  have z0:W8.cell? ⟨w.heap.size+1+1,0,none⟩=some (.int .i64 0):=Blk.cell hz9 0
  have z1:W8.cell? ⟨w.heap.size+1+1,1,none⟩=some (.int .u64 0):=Blk.cell hz9 1
  have z2':W8.cell? ⟨w.heap.size+1+1,2,none⟩=some (.int .i64 0):=Blk.cell hz9 2
  have z3':W8.cell? ⟨w.heap.size+1+1,3,none⟩=some (.int .u64 0):=Blk.cell hz9 3
  have zf:=Blk.frozen hz9
  have HZ9:=Lib.hid hz9
  have HW8:=Lib.hid hW8
  have HD8:=Lib.hid hd8
  clear hz9 hW8 hd8
  go_wp2_with (first
   | (refine wpList_wload_mid rfl 38 (.tmp 3) rfl w.heap.size 0 rfl (xcells X) _ HR2.out.1 Tryz.underlying38 rfl HR2.out.2.1 ?_)
   | ((refine wpList_store_mid rfl 38 (.tmp 6) (.tmp 21) rfl (w.heap.size+1) 0 (xcells X).toArray rfl rfl HR2.out.2.2.1 HR2.out.2.2.2.1 HR2.out.2.2.2.2 ?_);rw [List.toList_toArray,← HW8.out]))
  obtain ⟨W9,hW9⟩:∃ W9,W9=(((W8.setCell ⟨w.heap.size+1+1,0,none⟩ (.int .i64 0)).setCell ⟨w.heap.size+1+1,1,none⟩ (.int .u64 0)).setCell ⟨w.heap.size+1+1,2,none⟩ (.int .i64 0)).setCell ⟨w.heap.size+1+1,3,none⟩ (.int .u64 0):=⟨_,rfl⟩
  have hz:Blk W9 (w.heap.size+1+1) #[.int .i64 0,.int .u64 0,.int .i64 0,.int .u64 0] 34:=by
   rw [hW9]
   exact Blk.set (Blk.set (Blk.set (Blk.set HZ9.out 0 (.int .i64 0)) 1 (.int .u64 0)) 2 (.int .i64 0)) 3 (.int .u64 0)
  have hx9:XBlk W9 (w.heap.size+1) X:=Blk.of HD8.out.1 (by rw [hW9];exact four_other _ _ _ _ _ _ (by omega))
  have ht:=HF2.out.1.done4 (XTo.same HF2.out.1.at_ (Below.refl _ _)) (W':=W9) (b:=w.heap.size+1+1) (fun c h1 h2=>by rw [hW9,four_other _ _ _ _ _ _ h2,HW8.out];exact other_sets h1 _ _ _) (by rw [hW9,HW8.out];simp [size_sets]) (by rw [hW9];exact four_below HD8.out.2.bel _ (by omega) _ _ _ _) (by omega) (by omega)
  rw [← hW9]
  refine bodyPost_ret (v:=.tuple #[xV X,.agg zeroE,.int .i64 1]) (res_cell2_tmp Tryz.results20 rfl rfl rfl (xload hx9) (load_ent (e:=⟨0,0,0,0⟩) hz)) rfl ⟨rfl,Lib.hid ht⟩
 ·
  go_wp2_with fail
  refine (MK.out _).mono ?_
  rintro r w3 ⟨rfl,rfl⟩
  obtain ⟨W8,hW8⟩:∃ W8,W8=w2.setCells (w.heap.size+1) 0 (xcells X):=⟨_,rfl⟩
  have hz9:=Blk.of HF2.out.2 (other_sets (b:=w.heap.size+1) (c:=w.heap.size+1+1) (by omega) (xcells X) 0 w2)
  have hd8:=HF2.out.1.done
  rw [← hW8] at hz9 hd8
  have z0:W8.cell? ⟨w.heap.size+1+1,0,none⟩=some (.int .i64 0):=Blk.cell hz9 0
  have z1:W8.cell? ⟨w.heap.size+1+1,1,none⟩=some (.int .u64 0):=Blk.cell hz9 1
  have z2':W8.cell? ⟨w.heap.size+1+1,2,none⟩=some (.int .i64 0):=Blk.cell hz9 2
  have z3':W8.cell? ⟨w.heap.size+1+1,3,none⟩=some (.int .u64 0):=Blk.cell hz9 3
  have zf:=Blk.frozen hz9
  have HZ9:=Lib.hid hz9
  have HW8:=Lib.hid hW8
  have HD8:=Lib.hid hd8
  clear hz9 hW8 hd8
  go_wp2_with (first
   | (refine wpList_wload_mid rfl 38 (.tmp 3) rfl w.heap.size 0 rfl (xcells X) _ HR2.out.1 Tryz.underlying38 rfl HR2.out.2.1 ?_)
   | ((refine wpList_store_mid rfl 38 (.tmp 6) (.tmp 21) rfl (w.heap.size+1) 0 (xcells X).toArray rfl rfl HR2.out.2.2.1 HR2.out.2.2.2.1 HR2.out.2.2.2.2 ?_);rw [List.toList_toArray,← HW8.out]))
  obtain ⟨W9,hW9⟩:∃ W9,W9=(((W8.setCell ⟨w.heap.size+1+1,0,none⟩ (.int .i64 0)).setCell ⟨w.heap.size+1+1,1,none⟩ (.int .u64 0)).setCell ⟨w.heap.size+1+1,2,none⟩ (.int .i64 0)).setCell ⟨w.heap.size+1+1,3,none⟩ (.int .u64 0):=⟨_,rfl⟩
  have hz:Blk W9 (w.heap.size+1+1) #[.int .i64 0,.int .u64 0,.int .i64 0,.int .u64 0] 34:=by
   rw [hW9]
   exact Blk.set (Blk.set (Blk.set (Blk.set HZ9.out 0 (.int .i64 0)) 1 (.int .u64 0)) 2 (.int .i64 0)) 3 (.int .u64 0)
  have hx9:XBlk W9 (w.heap.size+1) X:=Blk.of HD8.out.1 (by rw [hW9];exact four_other _ _ _ _ _ _ (by omega))
  have ht:=HF2.out.1.done4 (XTo.same HF2.out.1.at_ (Below.refl _ _)) (W':=W9) (b:=w.heap.size+1+1) (fun c h1 h2=>by rw [hW9,four_other _ _ _ _ _ _ h2,HW8.out];exact other_sets h1 _ _ _) (by rw [hW9,HW8.out];simp [size_sets]) (by rw [hW9];exact four_below HD8.out.2.bel _ (by omega) _ _ _ _) (by omega) (by omega)
  rw [← hW9]
  refine bodyPost_ret (v:=.tuple #[xV X,.agg zeroE,.int .i64 1]) (res_cell2_tmp Tryz.results20 rfl rfl rfl (xload hx9) (load_ent (e:=⟨0,0,0,0⟩) hz)) rfl ⟨rfl,Lib.hid ht⟩
set_option maxRecDepth 100000 in
set_option maxHeartbeats 16000000 in
theorem xdrop_none (a:XAt w S X) (H:HGood S) {i:Nat} {x:Gr} (hx:S.G i=some x) {t:Int} (t0:0≤t) (t1:t<64) (hn:x.q.get (2*t)=none) :
  Calls Tryz.prog 20 #[xV X,.int .i64 (i:Int),.int .i64 t] w fun r w'=>r=.returned (.tuple #[xV X,.agg zeroE,.int .i64 12])∧Hid (XTo w w' X X S):=by
 have hi:=H.inv.tree.lt hx
 obtain ⟨W1,hW1,f,hbe⟩:=XFr.new3 a
 have hp:=f.pack
 rw [hW1] at hp
 have HR:=Lib.hid hp
 have MT:=fun W=>xthere_any a H.inv.tree (i:Int) W
 rw [S.at_nat hi,hx] at MT
 have MT:=Lib.hid MT
 have MK:=fun W=>xtask_any t W
 rw [decide_eq_true ⟨t0,t1⟩] at MK
 have MK:=Lib.hid MK
 have HF:=Lib.hid (And.intro f hbe)
 have HW:=Lib.hid hW1
 have hq:=(a.is i x hx).2.1
 have hqok:=H.inv.qok i x hx
 have MP:=fun (W:World) (hW:RQ W W.heap.size (X.g i).A (X.g i).c x.q.L)=>rf_drop (X.g i).A (X.g i).c x.q hqok (2*t) W hW
 have hr12:dropR x.q.L (2*t)=12:=by
  have:=(drop_all hqok (2*t)).2.2.2.2
  rw [hn] at this
  unfold dropV at this
  injection this with this
  injection this with this
  injection this with _ this
  injection this with this _
  injection this with _ this
  exact this.symm
 rw [hr12] at MP
 generalize dropQ x.q (2*t)=q2 at *
 generalize dropE x.q.L (2*t)=e2 at *
 obtain ⟨m2,hm2⟩:∃ m2,m2=q2.L.length:=⟨_,rfl⟩
 rw [← hm2] at MP
 have MP:=Lib.hid MP
 have HP:=Lib.hid (And.intro hx (And.intro hi hq))
 have j0:(0:Int)≤(i:Int):=by omega
 have j2:(i:Int)<32:=by omega
 have j5:decide (i<32)=true:=decide_eq_true hi
 clear hp f hW1 a H hx hq hqok hm2 hi hn hr12 hbe
 show Calls Tryz.prog _ #[.agg (xcells X).toArray,.int .i64 (i:Int),.int .i64 t] w _
 go_enter Tryz.func20,Tryz.ntmps20
 go_wp2_with (refine wpList_wload_mid rfl 38 (.tmp 3) rfl w.heap.size 0 rfl (xcells X) _ HR.out.1 Tryz.underlying38 rfl HR.out.2.1 ?_)
 rw [← HW.out]
 refine (MT.out _).mono ?_
 rintro r w2 ⟨rfl,hb⟩
 have f2:=HF.out.1.below hb
 obtain ⟨p0,p1,p2,p3⟩:=f2.box.q HP.out.2.1
 rw [HP.out.2.2] at p0 p1 p2 p3
 have hr2:=f2.at_.row i HP.out.2.1
 rw [HP.out.2.2] at hr2
 have HF2:=Lib.hid (And.intro f2 (HF.out.2.below hb HF.out.2.lt))
 have MP2:=Lib.hid (MP.out w2 hr2)
 clear f2 hb HF HW MT hr2 MP
 generalize x.q.L.length=m at *
 go_wp2_with fail
 refine (MK.out _).mono ?_
 rintro r w3 ⟨rfl,rfl⟩
 go_wp2_with fail
 refine MP2.out.mono ?_
 rintro r w5 ⟨A5,c5,rfl,H5⟩
 clear p0 p1 p2 p3 MP2
 go_upto_region 5 with (fail)
 obtain ⟨W6,hW6⟩:∃ W6,W6=(w5.alloc (.cells #[.slice A5 m2 c5,.int .i64 q2.cur,.int .i64 q2.mn,.bool q2.over] 29)).alloc (.cells #[.int .i64 e2.id,.int .u64 e2.wt,.int .i64 e2.v,.int .u64 e2.rem] 34):=⟨_,rfl⟩
 have hb6:Below w2.heap.size w2 W6:=H5.out.res.bel.trans ((show Below w5.heap.size w5 W6 by rw [hW6];exact ((Below.refl _ _).alloc (Nat.le_refl _) _).alloc (by simp) _).mono H5.out.res.bel.size)
 have f6:=HF2.out.1.below hb6
 have HE6:=Lib.hid (And.intro f6 (HF2.out.2.below hb6 HF2.out.2.lt))
 have HR6:=Lib.hid f6.pack
 rw [← hW6]
 clear hW6 hb6 f6 H5 HF2
 obtain ⟨W8,hW8⟩:∃ W8,W8=W6.setCells (w.heap.size+1) 0 (xcells X):=⟨_,rfl⟩
 have hz9:=Blk.of HE6.out.2 (other_sets (b:=w.heap.size+1) (c:=w.heap.size+1+1) (by omega) (xcells X) 0 W6)
 have hd8:=HE6.out.1.done
 rw [← hW8] at hz9 hd8
 have z0:W8.cell? ⟨w.heap.size+1+1,0,none⟩=some (.int .i64 0):=Blk.cell hz9 0
 have z1:W8.cell? ⟨w.heap.size+1+1,1,none⟩=some (.int .u64 0):=Blk.cell hz9 1
 have z2':W8.cell? ⟨w.heap.size+1+1,2,none⟩=some (.int .i64 0):=Blk.cell hz9 2
 have z3':W8.cell? ⟨w.heap.size+1+1,3,none⟩=some (.int .u64 0):=Blk.cell hz9 3
 have zf:=Blk.frozen hz9
 have HZ9:=Lib.hid hz9
 have HW8:=Lib.hid hW8
 have HD8:=Lib.hid hd8
 clear hz9 hW8 hd8
 go_wp2_with (first
  | (refine wpList_wload_mid rfl 38 (.tmp 3) rfl w.heap.size 0 rfl (xcells X) _ HR6.out.1 Tryz.underlying38 rfl HR6.out.2.1 ?_)
  | ((refine wpList_store_mid rfl 38 (.tmp 6) (.tmp 36) rfl (w.heap.size+1) 0 (xcells X).toArray rfl rfl HR6.out.2.2.1 HR6.out.2.2.2.1 HR6.out.2.2.2.2 ?_);rw [List.toList_toArray,← HW8.out]))
 obtain ⟨W9,hW9⟩:∃ W9,W9=(((W8.setCell ⟨w.heap.size+1+1,0,none⟩ (.int .i64 0)).setCell ⟨w.heap.size+1+1,1,none⟩ (.int .u64 0)).setCell ⟨w.heap.size+1+1,2,none⟩ (.int .i64 0)).setCell ⟨w.heap.size+1+1,3,none⟩ (.int .u64 0):=⟨_,rfl⟩
 have hz:Blk W9 (w.heap.size+1+1) #[.int .i64 0,.int .u64 0,.int .i64 0,.int .u64 0] 34:=by
  rw [hW9]
  exact Blk.set (Blk.set (Blk.set (Blk.set HZ9.out 0 (.int .i64 0)) 1 (.int .u64 0)) 2 (.int .i64 0)) 3 (.int .u64 0)
 have hx9:XBlk W9 (w.heap.size+1) X:=Blk.of HD8.out.1 (by rw [hW9];exact four_other _ _ _ _ _ _ (by omega))
 have ht:=HE6.out.1.done4 (XTo.same HE6.out.1.at_ (Below.refl _ _)) (W':=W9) (b:=w.heap.size+1+1) (fun c h1 h2=>by rw [hW9,four_other _ _ _ _ _ _ h2,HW8.out];exact other_sets h1 _ _ _) (by rw [hW9,HW8.out];simp [size_sets]) (by rw [hW9];exact four_below HD8.out.2.bel _ (by omega) _ _ _ _) (by omega) (by omega)
 rw [← hW9]
 refine bodyPost_ret (v:=.tuple #[xV X,.agg zeroE,.int .i64 12]) (res_cell2_tmp Tryz.results20 rfl rfl rfl (xload hx9) (load_ent (e:=⟨0,0,0,0⟩) hz)) rfl ⟨rfl,Lib.hid ht⟩
set_option maxRecDepth 100000 in
set_option maxHeartbeats 16000000 in
theorem xdrop_ok (a:XAt w S X) (H:HGood S) {i:Nat} {x:Gr} (hx:S.G i=some x) {t:Int} (t0:0≤t) (t1:t<64) {e:En} (hn:x.q.get (2*t)=some e) :
  Calls Tryz.prog 20 #[xV X,.int .i64 (i:Int),.int .i64 t] w fun r w'=>∃ X',r=.returned (.tuple #[xV X',enV { e with id:=t },.int .i64 0])∧Hid (XTo w w' X X' (dropHS S i x (2*t))):=by
 have hi:=H.inv.tree.lt hx
 obtain ⟨W1,hW1,f,hbe⟩:=XFr.new3 a
 have hp:=f.pack
 rw [hW1] at hp
 have HR:=Lib.hid hp
 have MT:=fun W=>xthere_any a H.inv.tree (i:Int) W
 rw [S.at_nat hi,hx] at MT
 have MT:=Lib.hid MT
 have MK:=fun W=>xtask_any t W
 rw [decide_eq_true ⟨t0,t1⟩] at MK
 have MK:=Lib.hid MK
 have HF:=Lib.hid (And.intro f hbe)
 have HW:=Lib.hid hW1
 have hq:=(a.is i x hx).2.1
 have hqok:=H.inv.qok i x hx
 have hled:=led_dropQ (a.led i x hx) (2*t)
 have MP:=fun (W:World) (hW:RQ W W.heap.size (X.g i).A (X.g i).c x.q.L)=>rf_drop (X.g i).A (X.g i).c x.q hqok (2*t) W hW
 have hr0:dropR x.q.L (2*t)=0:=by
  have:=(drop_all hqok (2*t)).2.2.2.2
  rw [hn] at this
  unfold dropV at this
  injection this with this
  injection this with this
  injection this with _ this
  injection this with this _
  injection this with _ this
  exact this.symm
 have he0:dropE x.q.L (2*t)=e:=by rw [dropE_get,hn];rfl
 rw [hr0,he0] at MP
 have hinv:HInv (S.put i (some { x with q:=dropQ x.q (2*t) })):=by
  refine H.inv.queue hx (hqok.dropQ _) (fun y hy=>?_) (fun y hy ho=>?_)
  ·
   rw [dropQ_L] at hy
   exact .inl ⟨y,(lessL_mem.1 hy).1,rfl⟩
  · exact ⟨y,by rw [dropQ_L];exact lessL_mem.2 ⟨hy,by omega⟩,rfl⟩
 have hdp:=H.inv.tree.deep i x hx
 have hsn:settleH 9 (S.put i (some { x with q:=dropQ x.q (2*t) })) i=dropHS S i x (2*t):=by unfold dropHS;rw [hn]
 have MS:=Lib.hid fun W Y (hY:XAt W (S.put i (some { x with q:=dropQ x.q (2*t) })) Y)=>(by
  have:=xsettle_any 9 hY hinv (HS.put_same _ _ _) (show x.deep<9 by omega)
  rw [hsn] at this
  exact this:Calls Tryz.prog 64 #[xV Y,.int .i64 (i:Int)] W fun e w'=>∃ X',e=.returned (xV X')∧Hid (XTo W w' Y X' (dropHS S i x (2*t))))
 clear hinv hsn
 generalize dropHS S i x (2*t)=S2 at *
 generalize dropQ x.q (2*t)=q2 at *
 obtain ⟨m2,hm2⟩:∃ m2,m2=q2.L.length:=⟨_,rfl⟩
 rw [← hm2] at MP
 have MP:=Lib.hid MP
 have HP:=Lib.hid (And.intro hx (And.intro hi (And.intro hq (And.intro hled hm2))))
 have j0:(0:Int)≤(i:Int):=by omega
 have j2:(i:Int)<32:=by omega
 have j5:decide (i<32)=true:=decide_eq_true hi
 clear hp f hW1 a H hx hq hqok hm2 hi hn hr0 he0 hbe hled hdp
 show Calls Tryz.prog _ #[.agg (xcells X).toArray,.int .i64 (i:Int),.int .i64 t] w _
 go_enter Tryz.func20,Tryz.ntmps20
 go_wp2_with (refine wpList_wload_mid rfl 38 (.tmp 3) rfl w.heap.size 0 rfl (xcells X) _ HR.out.1 Tryz.underlying38 rfl HR.out.2.1 ?_)
 rw [← HW.out]
 refine (MT.out _).mono ?_
 rintro r w2 ⟨rfl,hb⟩
 have f2:=HF.out.1.below hb
 obtain ⟨p0,p1,p2,p3⟩:=f2.box.q HP.out.2.1
 rw [HP.out.2.2.1] at p0 p1 p2 p3
 have hr2:=f2.at_.row i HP.out.2.1
 rw [HP.out.2.2.1] at hr2
 have HF2:=Lib.hid (And.intro f2 (HF.out.2.below hb HF.out.2.lt))
 have MP2:=Lib.hid (MP.out w2 hr2)
 clear f2 hb HF HW MT hr2 MP
 generalize x.q.L.length=m at *
 go_wp2_with fail
 refine (MK.out _).mono ?_
 rintro r w3 ⟨rfl,rfl⟩
 go_wp2_with fail
 refine MP2.out.mono ?_
 rintro r w5 ⟨A5,c5,rfl,H5⟩
 have f5:=HF2.out.1.below H5.out.res.bel
 obtain ⟨y0,y1,y2,y3⟩:=f5.box.q HP.out.2.1
 have yf:=f5.box.frozen
 have hlt5:=f5.box.lt
 have hne5:(w.heap.size=w5.heap.size)=False:=eq_false (by omega)
 have hne6:(w5.heap.size=w.heap.size)=False:=eq_false (by omega)
 have hne7:(w.heap.size=w5.heap.size+1)=False:=eq_false (by omega)
 have hne8:(w5.heap.size+1=w.heap.size)=False:=eq_false (by omega)
 have HX5:=Lib.hid (HF2.out.2.below H5.out.res.bel HF2.out.2.lt)
 clear f5 p0 p1 p2 p3 MP2
 go_upto_region 8 with (fail)
 have hr7:=H5.out
 rw [← HP.out.2.2.1] at hr7
 have f8:=HF2.out.1.queue HP.out.1 HP.out.2.1 hr7 HP.out.2.2.2.1 (Below.refl _ _) HP.out.2.2.2.2
 obtain ⟨w6,hw6,f6⟩:∃ w6,w6=_∧XFr 1 2 w w6 X _ _:=⟨_,rfl,f8⟩
 rw [← hw6]
 have hz6:Blk w6 (w.heap.size+1+1) #[.int .i64 0,.int .u64 0,.int .i64 0,.int .u64 0] 34:=Blk.of HX5.out (by rw [hw6];exact four_oth _ _ _ _ _ _ _ (by omega))
 have hs6:w6.heap.size=w5.heap.size:=by rw [hw6];simp
 rw [← hs6]
 clear f8 hr7 hw6 H5 y0 y1 y2 y3 yf hlt5 hne5 hne6 hne7 hne8 HX5 hs6
 generalize XH.put _ i _=Y7 at f6
 obtain ⟨W7,hW7⟩:∃ W7,W7=(w6.alloc (.cells #[.slice A5 m2 c5,.int .i64 q2.cur,.int .i64 q2.mn,.bool q2.over] 29)).alloc (.cells #[.int .i64 t,.int .u64 e.wt,.int .i64 e.v,.int .u64 e.rem] 34):=⟨_,rfl⟩
 rw [← hW7]
 have hb7:Below w6.heap.size w6 W7:=by rw [hW7];exact ((Below.refl _ _).alloc (Nat.le_refl _) _).alloc (by simp) _
 have f7:=f6.below hb7
 have hz7:=hz6.below hb7 hz6.lt
 have hx7:Blk W7 (w6.heap.size+1) #[.int .i64 t,.int .u64 e.wt,.int .i64 e.v,.int .u64 e.rem] 34:=by
  have:=Blk.new (w6.alloc (.cells #[.slice A5 m2 c5,.int .i64 q2.cur,.int .i64 q2.mn,.bool q2.over] 29)) #[.int .i64 t,.int .u64 e.wt,.int .i64 e.v,.int .u64 e.rem] 34
  rw [World.size_alloc] at this
  rw [hW7]
  exact this
 obtain ⟨bE,hbE⟩:∃ bE,bE=w6.heap.size+1:=⟨_,rfl⟩
 rw [← hbE] at hx7 ⊢
 have hlim:=f6.lim
 have hE1:bE≠w.heap.size+1:=by omega
 have hE2:bE≠w.heap.size+1+1:=by omega
 clear hW7 hb7 f6 hz6 hlim hbE
 have SO:=Lib.hid fun W (hW:Turns [w.heap.size+1,w.heap.size+1+1] W7 W)=>(by
   have h1:XBlk W w.heap.size Y7:=Blk.turns f7.box hW (by simp;omega)
   have h2:=hx7.turns hW (by simp;omega)
   exact ⟨hW,h1.range,Blk.cell h2 0,Blk.cell h2 1,Blk.cell h2 2,Blk.cell h2 3⟩ :
  Turns [w.heap.size+1,w.heap.size+1+1] W7 W∧W.rangeAt w.heap.size 0 (xcells Y7)∧W.cell? ⟨bE,0,none⟩=some (.int .i64 t)∧W.cell? ⟨bE,1,none⟩=some (.int .u64 e.wt)∧W.cell? ⟨bE,2,none⟩=some (.int .i64 e.v)∧W.cell? ⟨bE,3,none⟩=some (.int .u64 e.rem))
 have HF7:=Lib.hid (And.intro f7 hz7)
 clear f7 hz7 hx7 HF2
 refine wp_region_held_drew (S:=fun W=>Turns [w.heap.size+1,w.heap.size+1+1] W7 W∧W.rangeAt w.heap.size 0 (xcells Y7)∧W.cell? ⟨bE,0,none⟩=some (.int .i64 t)∧W.cell? ⟨bE,1,none⟩=some (.int .u64 e.wt)∧W.cell? ⟨bE,2,none⟩=some (.int .i64 e.v)∧W.cell? ⟨bE,3,none⟩=some (.int .u64 e.rem)) (by kernel_rfl) (SO.out _ (Turns.refl _ _).drew) (fun hHeld=>?_)
 refine wpAnyH_take (i:=0) (v:=.agg (xcells Y7).toArray) rfl (by kernel_rfl) (by kernel_rfl) (by kernel_rfl) (fun _ _ _ h=>h) (yieldsIf_load_mid (by rfl) _ _ rfl w.heap.size 0 rfl (xcells Y7) _ (fun W h=>h.2.1) Tryz.underlying38 rfl (xinf Y7)) hHeld ?_
 try simp only [Act.put,List.setIfInBounds_toArray,List.set_cons_zero,List.set_cons_succ]
 refine wpAnyH_take (i:=1) (v:=.int .i64 (i:Int)) rfl (by kernel_rfl) (by kernel_rfl) (by kernel_rfl) (fun _ _ _ h=>h) (Or.inl ⟨by rfl,?_⟩) hHeld ?_
 ·
  intro W hSw
  obtain ⟨-,-,h0,h1,h2,h3⟩:=hSw
  go_simp
 try simp only [Act.put,List.setIfInBounds_toArray,List.set_cons_zero,List.set_cons_succ]
 refine wpAnyH_take (i:=3) (v:=.agg #[.int .i64 t,.int .u64 e.wt,.int .i64 e.v,.int .u64 e.rem]) rfl (by kernel_rfl) (by kernel_rfl) (by kernel_rfl) (fun _ _ _ h=>h) (Or.inl ⟨by rfl,?_⟩) hHeld ?_
 ·
  intro W hSw
  obtain ⟨-,-,h0,h1,h2,h3⟩:=hSw
  go_simp
 try simp only [Act.put,List.setIfInBounds_toArray,List.set_cons_zero,List.set_cons_succ]
 refine wpAnyH_ready (rs:=[2]) (by kernel_rfl) (by simp) ?_
 refine AllReadyH.cons rfl (fun K hK=>?_) AllReadyH.nil
 have HK:=Lib.hid hK
 clear hK hHeld
 go_simp
 refine (MS.out _ Y7 (HF7.out.1.at_.below (Below.refl _ _).drew)).mono ?_
 rintro r w8 ⟨Y8,rfl,H8⟩
 refine HK.out.out _ _ (SO.out _ (tn_call H8.out.bel ⟨(Turns.refl _ _).drew,trivial⟩)) (fun hHeld=>?_)
 try simp only [Act.put,List.setIfInBounds_toArray,List.set_cons_zero,List.set_cons_succ]
 clear HK K MS
 have hb8:=(Below.refl W7.heap.size W7).drew.trans H8.out.bel
 have ht8:=(HF7.out.1.res.below hb8).there Y8
 have hz8:=HF7.out.2.below hb8 HF7.out.2.lt
 obtain ⟨W9,hW9⟩:∃ W9,W9=w8.setCells (w.heap.size+1) 0 (xcells Y8):=⟨_,rfl⟩
 have hbx9:XBlk W9 (w.heap.size+1) Y8:=by rw [hW9];exact (HF7.out.1.res.below hb8).stored Y8
 have hz9:Blk W9 (w.heap.size+1+1) #[.int .i64 0,.int .u64 0,.int .i64 0,.int .u64 0] 34:=Blk.of hz8 (by rw [hW9];exact other_sets (by omega) _ _ _)
 have HT9:=Lib.hid (show Turns [w.heap.size+1,w.heap.size+1+1] W7 W9 by rw [hW9];exact tn_sets hHeld (by simp) _ _)
 refine wpAnyH_ready (rs:=[4]) (by kernel_rfl) (by simp) ?_
 refine AllReadyH.cons rfl (fun K hK=>?_) AllReadyH.nil
 rw [if_pos (by rfl)]
 refine wp_store_mid _ _ _ rfl (w.heap.size+1) 0 (xcells Y8).toArray rfl rfl ht8 (xinfA Y8) (xcells_one Y8) ?_
 rw [List.toList_toArray,← hW9]
 refine hK.out _ _ (SO.out _ HT9.out) (fun _=>?_)
 try simp only [Act.put,List.setIfInBounds_toArray,List.set_cons_zero,List.set_cons_succ]
 clear hK K hHeld ht8 hz8 hb8
 have HW9:=Lib.hid hW9
 clear hW9
 have z0:W9.cell? ⟨w.heap.size+1+1,0,none⟩=some (.int .i64 0):=Blk.cell hz9 0
 have z1:W9.cell? ⟨w.heap.size+1+1,1,none⟩=some (.int .u64 0):=Blk.cell hz9 1
 have z2':W9.cell? ⟨w.heap.size+1+1,2,none⟩=some (.int .i64 0):=Blk.cell hz9 2
 have z3':W9.cell? ⟨w.heap.size+1+1,3,none⟩=some (.int .u64 0):=Blk.cell hz9 3
 have zf:=Blk.frozen hz9
 obtain ⟨Wz,hWz⟩:∃ Wz,Wz=(((W9.setCell ⟨w.heap.size+1+1,0,none⟩ (.int .i64 t)).setCell ⟨w.heap.size+1+1,1,none⟩ (.int .u64 e.wt)).setCell ⟨w.heap.size+1+1,2,none⟩ (.int .i64 e.v)).setCell ⟨w.heap.size+1+1,3,none⟩ (.int .u64 e.rem):=⟨_,rfl⟩
 have hzz:Blk Wz (w.heap.size+1+1) #[.int .i64 t,.int .u64 e.wt,.int .i64 e.v,.int .u64 e.rem] 34:=by
  rw [hWz]
  exact Blk.set (Blk.set (Blk.set (Blk.set hz9 0 (.int .i64 t)) 1 (.int .u64 e.wt)) 2 (.int .i64 e.v)) 3 (.int .u64 e.rem)
 have hxz:XBlk Wz (w.heap.size+1) Y8:=Blk.of hbx9 (by rw [hWz];exact four_other _ _ _ _ _ _ (by omega))
 have hbz:Below w.heap.size w Wz:=by
  rw [hWz]
  refine four_below ?_ _ (by omega) _ _ _ _
  rw [HW9.out]
  exact below_sets (by omega) _ _ _ ((HF7.out.1.bel.drew).trans (H8.out.bel.mono HF7.out.1.bel.size))
 have htz:=HF7.out.1.done4 (XTo.sooner ((Below.refl _ _).drew) H8.out) (W':=Wz) (b:=w.heap.size+1+1) (fun c h1 h2=>by rw [hWz,four_other _ _ _ _ _ _ h2,HW9.out];exact other_sets h1 _ _ _) (by rw [hWz,HW9.out];simp [size_sets]) hbz (by omega) (by omega)
 have HZ:=Lib.hid (And.intro hzz (And.intro hxz htz))
 have HTz:=Lib.hid (show Turns [w.heap.size+1,w.heap.size+1+1] W7 Wz by rw [hWz];exact tn_four ⟨HT9.out,trivial⟩ (by simp) _ _ _ _)
 have HWz:=Lib.hid hWz
 clear hWz hzz hxz hbz htz hz9 hbx9
 refine wpAnyH_ready (rs:=[5]) (by kernel_rfl) (by simp) ?_
 refine AllReadyH.cons rfl (fun K hK=>?_) AllReadyH.nil
 have HK:=Lib.hid hK
 clear hK
 go_simp
 rw [← HWz.out]
 refine HK.out.out _ _ (SO.out _ HTz.out) (fun _=>?_)
 try simp only [Act.put,List.setIfInBounds_toArray,List.set_cons_zero,List.set_cons_succ]
 clear HK K z0 z1 z2' z3' zf
 refine wpAnyH_ready (rs:=[6]) (by kernel_rfl) (by simp) ?_
 refine AllReadyH.cons rfl (fun K hK=>?_) AllReadyH.nil
 have HK:=Lib.hid hK
 clear hK
 go_simp
 refine HK.out.out _ _ (SO.out _ HTz.out) (fun _=>?_)
 try simp only [Act.put,List.setIfInBounds_toArray,List.set_cons_zero,List.set_cons_succ]
 refine wpAnyH_done (by kernel_rfl) ?_ _
 go_wp2_with fail
 refine bodyPost_ret (v:=.tuple #[xV Y8,enV { e with id:=t },.int .i64 0]) (res_cell2_tmp Tryz.results20 rfl rfl rfl (xload HZ.out.2.1) (load_ent (e:={ e with id:=t }) HZ.out.1)) rfl ⟨Y8,rfl,Lib.hid HZ.out.2.2⟩
end
end Go.Proofs.YtefekboacghnjaaGreat
namespace Go.Proofs.YtefekboacghnjaaGreat
open Go.RowKit Go.Maps
section
variable {w:World} {S:HS} {X:XH}
set_option maxRecDepth 100000 in
set_option maxHeartbeats 8000000 in
theorem xlink_bad (a:XAt w S X) (T:HTree S) {g pa:Int} (hbad:g<1∨31<g∨S.at_ pa=none) :
  Calls Tryz.prog 53 #[xV X,.int .i64 g,.int .i64 pa] w fun r w'=>r=.returned (.tuple #[xV X,.int .i64 1])∧Hid (XTo w w' X X S):=by
 obtain ⟨W1,hW1,f,_⟩:=XFr.new a
 have hp:=f.pack
 rw [hW1] at hp
 have HR:=Lib.hid hp
 have MT:=Lib.hid fun W=>xthere_any a T pa W
 have HF:=Lib.hid f
 have HW:=Lib.hid hW1
 clear hp f hW1 a T
 by_cases h1:g<1
 ·
  have z1:decide (g<1)=true:=decide_eq_true h1
  clear hbad
  show Calls Tryz.prog _ #[.agg (xcells X).toArray,.int .i64 g,.int .i64 pa] w _
  go_enter Tryz.func53,Tryz.ntmps53
  go_upto_region 2 with (fail)
  rw [← HW.out]
  have HF2:=HF
  have hp2:=HF.out.pack
  have HR2:=Lib.hid hp2
  clear hp2
  go_wp2_with (first
   | (refine wpList_wload_mid rfl 38 (.tmp 3) rfl w.heap.size 0 rfl (xcells X) _ HR2.out.1 Tryz.underlying38 rfl HR2.out.2.1 ?_)
   | (refine wpList_store_mid rfl 38 (.tmp 6) (.tmp 20) rfl (w.heap.size+1) 0 (xcells X).toArray rfl rfl HR2.out.2.2.1 HR2.out.2.2.2.1 HR2.out.2.2.2.2 ?_))
  obtain ⟨W9,hW9⟩:∃ W9,W9=W1.setCells (w.heap.size+1) 0 (xcells X):=⟨_,rfl⟩
  have hd:=HF2.out.done
  rw [← hW9] at hd ⊢
  have hl:=xload hd.1
  refine bodyPost_ret (v:=.tuple #[xV X,.int .i64 1]) (res_cell_tmp Tryz.results53 rfl rfl hl) rfl ⟨rfl,Lib.hid hd.2⟩
 ·
  have z1:decide (g<1)=false:=decide_eq_false h1
  by_cases h2:31<g
  ·
   have z2:decide (31<g)=true:=decide_eq_true h2
   clear hbad
   show Calls Tryz.prog _ #[.agg (xcells X).toArray,.int .i64 g,.int .i64 pa] w _
   go_enter Tryz.func53,Tryz.ntmps53
   go_upto_region 2 with (fail)
   rw [← HW.out]
   have HF2:=HF
   have hp2:=HF.out.pack
   have HR2:=Lib.hid hp2
   clear hp2
   go_wp2_with (first
    | (refine wpList_wload_mid rfl 38 (.tmp 3) rfl w.heap.size 0 rfl (xcells X) _ HR2.out.1 Tryz.underlying38 rfl HR2.out.2.1 ?_)
    | (refine wpList_store_mid rfl 38 (.tmp 6) (.tmp 20) rfl (w.heap.size+1) 0 (xcells X).toArray rfl rfl HR2.out.2.2.1 HR2.out.2.2.2.1 HR2.out.2.2.2.2 ?_))
   obtain ⟨W9,hW9⟩:∃ W9,W9=W1.setCells (w.heap.size+1) 0 (xcells X):=⟨_,rfl⟩
   have hd:=HF2.out.done
   rw [← hW9] at hd ⊢
   have hl:=xload hd.1
   refine bodyPost_ret (v:=.tuple #[xV X,.int .i64 1]) (res_cell_tmp Tryz.results53 rfl rfl hl) rfl ⟨rfl,Lib.hid hd.2⟩
  ·
   have z2:decide (31<g)=false:=decide_eq_false h2
   have h3:S.at_ pa=none:=by
    rcases hbad with h | h | h
    · exact absurd h h1
    · exact absurd h h2
    · exact h
   have MT:=MT.out
   rw [h3] at MT
   have MT:=Lib.hid MT
   clear hbad h3
   show Calls Tryz.prog _ #[.agg (xcells X).toArray,.int .i64 g,.int .i64 pa] w _
   go_enter Tryz.func53,Tryz.ntmps53
   go_wp2_with (refine wpList_wload_mid rfl 38 (.tmp 3) rfl w.heap.size 0 rfl (xcells X) _ HR.out.1 Tryz.underlying38 rfl HR.out.2.1 ?_)
   rw [← HW.out]
   refine (MT.out _).mono ?_
   rintro r w2 ⟨rfl,hb⟩
   have f2:=HF.out.below hb
   have HF2:=Lib.hid f2
   have HR2:=Lib.hid f2.pack
   clear f2 hb HF HW MT
   go_wp2_with (first
    | (refine wpList_wload_mid rfl 38 (.tmp 3) rfl w.heap.size 0 rfl (xcells X) _ HR2.out.1 Tryz.underlying38 rfl HR2.out.2.1 ?_)
    | (refine wpList_store_mid rfl 38 (.tmp 6) (.tmp 20) rfl (w.heap.size+1) 0 (xcells X).toArray rfl rfl HR2.out.2.2.1 HR2.out.2.2.2.1 HR2.out.2.2.2.2 ?_))
   obtain ⟨W9,hW9⟩:∃ W9,W9=w2.setCells (w.heap.size+1) 0 (xcells X):=⟨_,rfl⟩
   have hd:=HF2.out.done
   rw [← hW9] at hd ⊢
   have hl:=xload hd.1
   refine bodyPost_ret (v:=.tuple #[xV X,.int .i64 1]) (res_cell_tmp Tryz.results53 rfl rfl hl) rfl ⟨rfl,Lib.hid hd.2⟩
set_option maxRecDepth 100000 in
set_option maxHeartbeats 8000000 in
theorem xlink_busy (a:XAt w S X) (T:HTree S) {i pa:Nat} {x p:Gr} (h0:1≤i) (hx:S.G i=some x) (hp:S.G pa=some p) :
  Calls Tryz.prog 53 #[xV X,.int .i64 (i:Int),.int .i64 (pa:Int)] w fun r w'=>r=.returned (.tuple #[xV X,.int .i64 6])∧Hid (XTo w w' X X S):=by
 have hi:=T.lt hx
 obtain ⟨u,_,hu,_,_⟩:=T.up i x (by omega) hx
 obtain ⟨W1,hW1,f,_⟩:=XFr.new a
 have hpk:=f.pack
 rw [hW1] at hpk
 have HR:=Lib.hid hpk
 have MT:=fun W=>xthere_any a T (pa:Int) W
 rw [S.at_nat (T.lt hp),hp] at MT
 have MT:=Lib.hid MT
 have HF:=Lib.hid f
 have HW:=Lib.hid hW1
 have HP:=Lib.hid (And.intro ((a.is i x hx).1.trans hu) hi)
 have z1:decide ((i:Int)<1)=false:=decide_eq_false (by omega)
 have z2:decide ((31:Int)<(i:Int))=false:=decide_eq_false (by omega)
 have j0:(0:Int)≤(i:Int):=by omega
 have j2:(i:Int)<32:=by omega
 have j5:decide (i<32)=true:=decide_eq_true hi
 have u0:(0:Int)≤(u:Int):=by omega
 have u1:decide ((0:Int)≤(u:Int))=true:=decide_eq_true u0
 clear hpk f hW1 a T hx hp hu h0
 show Calls Tryz.prog _ #[.agg (xcells X).toArray,.int .i64 (i:Int),.int .i64 (pa:Int)] w _
 go_enter Tryz.func53,Tryz.ntmps53
 go_wp2_with (refine wpList_wload_mid rfl 38 (.tmp 3) rfl w.heap.size 0 rfl (xcells X) _ HR.out.1 Tryz.underlying38 rfl HR.out.2.1 ?_)
 rw [← HW.out]
 refine (MT.out _).mono ?_
 rintro r w2 ⟨rfl,hb⟩
 have f2:=HF.out.below hb
 have c0:=f2.box.up HP.out.2
 rw [HP.out.1] at c0
 have HF2:=Lib.hid f2
 have HR2:=Lib.hid f2.pack
 clear f2 hb HF HW MT
 go_wp2_with (first
  | (refine wpList_wload_mid rfl 38 (.tmp 3) rfl w.heap.size 0 rfl (xcells X) _ HR2.out.1 Tryz.underlying38 rfl HR2.out.2.1 ?_)
  | (refine wpList_store_mid rfl 38 (.tmp 6) (.tmp 26) rfl (w.heap.size+1) 0 (xcells X).toArray rfl rfl HR2.out.2.2.1 HR2.out.2.2.2.1 HR2.out.2.2.2.2 ?_))
 obtain ⟨W9,hW9⟩:∃ W9,W9=w2.setCells (w.heap.size+1) 0 (xcells X):=⟨_,rfl⟩
 have hd:=HF2.out.done
 rw [← hW9] at hd ⊢
 have hl:=xload hd.1
 refine bodyPost_ret (v:=.tuple #[xV X,.int .i64 6]) (res_cell_tmp Tryz.results53 rfl rfl hl) rfl ⟨rfl,Lib.hid hd.2⟩
set_option maxRecDepth 100000 in
set_option maxHeartbeats 8000000 in
theorem xlink_deep (a:XAt w S X) (T:HTree S) {i pa:Nat} {p:Gr} (h0:1≤i) (hi:i<32) (hx:S.G i=none) (hp:S.G pa=some p) (hd:p.deep=8) :
  Calls Tryz.prog 53 #[xV X,.int .i64 (i:Int),.int .i64 (pa:Int)] w fun r w'=>r=.returned (.tuple #[xV X,.int .i64 5])∧Hid (XTo w w' X X S):=by
 obtain ⟨W1,hW1,f,_⟩:=XFr.new a
 have hpk:=f.pack
 rw [hW1] at hpk
 have HR:=Lib.hid hpk
 have MT:=fun W=>xthere_any a T (pa:Int) W
 rw [S.at_nat (T.lt hp),hp] at MT
 have MT:=Lib.hid MT
 have MD:=fun W=>xdepth_any a T hp W
 rw [hd] at MD
 have MD:=Lib.hid MD
 have HF:=Lib.hid f
 have HW:=Lib.hid hW1
 have HP:=Lib.hid (And.intro (a.no i hi hx) hi)
 have z1:decide ((i:Int)<1)=false:=decide_eq_false (by omega)
 have z2:decide ((31:Int)<(i:Int))=false:=decide_eq_false (by omega)
 have j0:(0:Int)≤(i:Int):=by omega
 have j2:(i:Int)<32:=by omega
 have j5:decide (i<32)=true:=decide_eq_true hi
 clear hpk f hW1 a T hx hp hd h0
 show Calls Tryz.prog _ #[.agg (xcells X).toArray,.int .i64 (i:Int),.int .i64 (pa:Int)] w _
 go_enter Tryz.func53,Tryz.ntmps53
 go_wp2_with (refine wpList_wload_mid rfl 38 (.tmp 3) rfl w.heap.size 0 rfl (xcells X) _ HR.out.1 Tryz.underlying38 rfl HR.out.2.1 ?_)
 rw [← HW.out]
 refine (MT.out _).mono ?_
 rintro r w2 ⟨rfl,hb⟩
 have f2:=HF.out.below hb
 have c0:=f2.box.up HP.out.2
 rw [HP.out.1] at c0
 have HF2:=Lib.hid f2
 have HR2:=Lib.hid f2.pack
 clear f2 hb HF HW MT
 go_wp2_with (refine wpList_wload_mid rfl 38 (.tmp 3) rfl w.heap.size 0 rfl (xcells X) _ HR2.out.1 Tryz.underlying38 rfl HR2.out.2.1 ?_)
 refine (MD.out _).mono ?_
 rintro r w3 ⟨rfl,hb⟩
 have f3:=HF2.out.below hb
 have HF3:=Lib.hid f3
 have HR3:=Lib.hid f3.pack
 clear f3 hb HF2 MD c0
 go_wp2_with (first
  | (refine wpList_wload_mid rfl 38 (.tmp 3) rfl w.heap.size 0 rfl (xcells X) _ HR3.out.1 Tryz.underlying38 rfl HR3.out.2.1 ?_)
  | (refine wpList_store_mid rfl 38 (.tmp 6) (.tmp 31) rfl (w.heap.size+1) 0 (xcells X).toArray rfl rfl HR3.out.2.2.1 HR3.out.2.2.2.1 HR3.out.2.2.2.2 ?_))
 obtain ⟨W9,hW9⟩:∃ W9,W9=w3.setCells (w.heap.size+1) 0 (xcells X):=⟨_,rfl⟩
 have hd:=HF3.out.done
 rw [← hW9] at hd ⊢
 have hl:=xload hd.1
 refine bodyPost_ret (v:=.tuple #[xV X,.int .i64 5]) (res_cell_tmp Tryz.results53 rfl rfl hl) rfl ⟨rfl,Lib.hid hd.2⟩
theorem XH.put_put (Z:XH) (i:Nat) (y z:XG):(Z.put i y).put i z=Z.put i z:=by
 unfold XH.put
 congr 1
 funext j
 by_cases hj:j=i
 · simp [hj]
 · simp [hj]
set_option maxHeartbeats 4000000 in
theorem XFr.link {r k:Nat} {w W W5:World} {X Y:XH} {S:HS} (f:XFr r k w W X Y S) {i pa dp:Nat} (hi:i<32) (h5:Below (W.setCell ⟨w.heap.size,130+i,none⟩ (.int .i64 (pa:Int))).heap.size (W.setCell ⟨w.heap.size,130+i,none⟩ (.int .i64 (pa:Int))) W5) :
  XFr r k w (((((((((W5.setCell ⟨w.heap.size,2+i*4,none⟩ (.slice none 0 0)).setCell ⟨w.heap.size,2+i*4+1,none⟩ (.int .i64 (-1))).setCell ⟨w.heap.size,2+i*4+2,none⟩ (.int .i64 0)).setCell ⟨w.heap.size,2+i*4+3,none⟩ (.bool false)).setCell ⟨w.heap.size,162+i*4,none⟩ (.int .i64 (2*(i:Int)+1))).setCell ⟨w.heap.size,162+i*4+1,none⟩ (.int .u64 1024)).setCell ⟨w.heap.size,162+i*4+2,none⟩ (.int .i64 0)).setCell ⟨w.heap.size,162+i*4+3,none⟩ (.int .u64 0)).setCell ⟨w.heap.size,290+i,none⟩ (.bool false)) X
   (Y.put i ⟨none,0,emptyQ,(pa:Int),⟨2*(i:Int)+1,1024,0,0⟩,false⟩) (S.put i (some (linkG i pa dp))):=by
 have b1:=(f.box.set_up hi (pa:Int)).below h5
 have b2:=b1.set_q hi none 0 0 emptyQ rfl
 rw [XH.put_put,XH.put_same] at b2
 have b3:=b2.set_own hi ⟨2*(i:Int)+1,1024,0,0⟩
 rw [XH.put_put,XH.put_same] at b3
 have b4:=b3.set_halt hi false
 rw [XH.put_put,XH.put_same] at b4
 have hsz:W.heap.size≤W5.heap.size:=by have:=h5.size;simpa using this
 refine f.set2 b4 (fun c hc hlt=>?_) (by simpa using hsz) ?_ (fun j=>?_) f.at_.cr f.at_.gr (fun j hj hn=>?_) (fun j z hz=>?_) (fun j z hz=>?_)
 · rw [Below.heap_setCell _ _ _ _ hc,four_oth _ _ _ _ _ _ _ hc,four_oth _ _ _ _ _ _ _ hc,h5.block c (by simpa using hlt),Below.heap_setCell _ _ _ _ hc]
 · exact (four_low (four_low ((f.bel.setCell (Nat.le_refl _) _).trans (h5.mono (by have:=f.bel.size;simpa using this))) _ (Nat.le_refl _) _ _ _ _ _) _ (Nat.le_refl _) _ _ _ _ _).setCell (Nat.le_refl _) _
 ·
  by_cases hji:j=i
  · subst hji;rw [XH.put_same];exact .inr ⟨rfl,rfl,rfl⟩
  · rw [XH.put_other _ _ hji];exact .inl ⟨rfl,rfl,rfl⟩
 ·
  by_cases hji:j=i
  · subst hji;rw [HS.put_same] at hn;simp at hn
  · rw [HS.put_other _ _ hji] at hn;rw [XH.put_other _ _ hji];exact f.at_.no j hj hn
 ·
  by_cases hji:j=i
  ·
   subst hji
   rw [HS.put_same] at hz
   injection hz with hz
   subst hz
   rw [XH.put_same]
   exact ⟨rfl,rfl,fun _=>rfl,fun _ _=>rfl⟩
  · rw [HS.put_other _ _ hji] at hz;rw [XH.put_other _ _ hji];exact f.at_.is j z hz
 ·
  by_cases hji:j=i
  ·
   subst hji
   rw [HS.put_same] at hz
   injection hz with hz
   subst hz
   intro k hk
   simp [linkG,emptyQ,ksOf] at hk
  · rw [HS.put_other _ _ hji] at hz;exact f.at_.led j z hz
set_option maxRecDepth 100000 in
set_option maxHeartbeats 16000000 in
theorem xlink_ok (a:XAt w S X) (T:HTree S) {i pa:Nat} {p:Gr} (h0:1≤i) (hi:i<32) (hx:S.G i=none) (hp:S.G pa=some p) (hd:p.deep<8) :
  Calls Tryz.prog 53 #[xV X,.int .i64 (i:Int),.int .i64 (pa:Int)] w fun r w'=>∃ X',r=.returned (.tuple #[xV X',.int .i64 0])∧Hid (XTo w w' X X' (S.put i (some (linkG i pa p.deep)))):=by
 obtain ⟨W1,hW1,f,_⟩:=XFr.new a
 have hpk:=f.pack
 rw [hW1] at hpk
 have HR:=Lib.hid hpk
 have MT:=fun W=>xthere_any a T (pa:Int) W
 rw [S.at_nat (T.lt hp),hp] at MT
 have MT:=Lib.hid MT
 have MD:=Lib.hid fun W=>xdepth_any a T hp W
 have HF:=Lib.hid f
 have HW:=Lib.hid hW1
 have HP:=Lib.hid (And.intro (a.no i hi hx) (And.intro hi h0))
 have z1:decide ((i:Int)<1)=false:=decide_eq_false (by omega)
 have z2:decide ((31:Int)<(i:Int))=false:=decide_eq_false (by omega)
 have j0:(0:Int)≤(i:Int):=by omega
 have j2:(i:Int)<32:=by omega
 have j5:decide (i<32)=true:=decide_eq_true hi
 generalize p.deep=dp at *
 have d1:decide ((8:Int)≤(dp:Int))=false:=decide_eq_false (by omega)
 have d2:decide (8≤dp)=false:=decide_eq_false (by omega)
 clear hpk f hW1 a T hx hp hd h0
 show Calls Tryz.prog _ #[.agg (xcells X).toArray,.int .i64 (i:Int),.int .i64 (pa:Int)] w _
 go_enter Tryz.func53,Tryz.ntmps53
 go_wp2_with (refine wpList_wload_mid rfl 38 (.tmp 3) rfl w.heap.size 0 rfl (xcells X) _ HR.out.1 Tryz.underlying38 rfl HR.out.2.1 ?_)
 rw [← HW.out]
 refine (MT.out _).mono ?_
 rintro r w2 ⟨rfl,hb⟩
 have f2:=HF.out.below hb
 have c0:=f2.box.up HP.out.2.1
 rw [HP.out.1] at c0
 have HF2:=Lib.hid f2
 have HR2:=Lib.hid f2.pack
 clear f2 hb HF HW MT
 go_wp2_with (refine wpList_wload_mid rfl 38 (.tmp 3) rfl w.heap.size 0 rfl (xcells X) _ HR2.out.1 Tryz.underlying38 rfl HR2.out.2.1 ?_)
 refine (MD.out _).mono ?_
 rintro r w3 ⟨rfl,hb⟩
 have f3:=HF2.out.below hb
 have c0:=f3.box.up HP.out.2.1
 have yf:=f3.box.frozen
 have f3':=f3.box
 have HF3:=Lib.hid f3
 clear f3 hb HF2 MD
 go_wp2_with fail
 obtain ⟨W4,hW4⟩:∃ W4,W4=w3.setCell ⟨w.heap.size,130+i,none⟩ (.int .i64 (pa:Int)):=⟨_,rfl⟩
 rw [← hW4]
 refine (rnew_any W4).mono ?_
 rintro r w5 ⟨rfl,hb5⟩
 have hb5':=hb5
 rw [hW4] at hb5'
 have bx5:=(f3'.set_up HP.out.2.1 (pa:Int)).below hb5'
 obtain ⟨y0,y1,y2,y3⟩:=bx5.q HP.out.2.1
 obtain ⟨o0,o1,o2,o3⟩:=bx5.own HP.out.2.1
 have hh:=bx5.halt HP.out.2.1
 have yf:=bx5.frozen
 have H5:=Lib.hid hb5'
 clear hW4 hb5 hb5' bx5 f3'
 go_upto_region 11 with (fail)
 obtain ⟨W9,hW9,f9⟩:∃ W9,W9=_∧XFr 1 1 w W9 X _ _:=⟨_,rfl,HF3.out.link (dp:=dp) HP.out.2.1 H5.out⟩
 rw [← hW9]
 clear hW9 H5 y0 y1 y2 y3 o0 o1 o2 o3 hh yf
 generalize XH.put _ i _=Y7 at f9
 have HR7:=Lib.hid f9.pack
 have HF7:=Lib.hid f9
 clear f9
 go_wp2_with (first
  | (refine wpList_wload_mid rfl 38 (.tmp 3) rfl w.heap.size 0 rfl (xcells Y7) _ HR7.out.1 Tryz.underlying38 rfl HR7.out.2.1 ?_)
  | (refine wpList_store_mid rfl 38 (.tmp 6) (.tmp 50) rfl (w.heap.size+1) 0 (xcells Y7).toArray rfl rfl HR7.out.2.2.1 HR7.out.2.2.2.1 HR7.out.2.2.2.2 ?_))
 obtain ⟨Wz,hWz⟩:∃ Wz,Wz=W9.setCells (w.heap.size+1) 0 (xcells Y7):=⟨_,rfl⟩
 have hd:=HF7.out.done
 rw [← hWz] at hd ⊢
 have hl:=xload hd.1
 refine bodyPost_ret (v:=.tuple #[xV Y7,.int .i64 0]) (res_cell_tmp Tryz.results53 rfl rfl hl) rfl ⟨Y7,rfl,Lib.hid hd.2⟩
end
end Go.Proofs.YtefekboacghnjaaGreat
namespace Go.Proofs.YtefekboacghnjaaGreat
open Go.RowKit Go.Maps
theorem xcell_own_set {X:XH} {i c:Nat} {e:En} (hi:i<32) (hc:c<4) (h:∀ d,d<4→d≠c→ecell e d=ecell (X.g i).own d) (j:Nat):xcell (X.put i { X.g i with own:=e }) j=if j=162+i*4+c then ecell e c else xcell X j:=by
 rw [xcell_put]
 by_cases h0:j=0
 · subst h0;rw [if_pos rfl,if_neg (by omega)];unfold xcell;rw [if_pos rfl]
 by_cases h1:j=1
 · subst h1;rw [if_neg (by omega),if_pos rfl,if_neg (by omega)];unfold xcell;rw [if_neg (by omega),if_pos rfl]
 rw [if_neg h0,if_neg h1]
 by_cases h2:j<130
 ·
  rw [if_pos h2,if_neg (show ¬ j=162+i*4+c by omega)]
  unfold xcell
  rw [if_neg h0,if_neg h1,if_pos h2]
  split
  · rename_i e;rw [e];rfl
  · rfl
 rw [if_neg h2]
 by_cases h3:j<162
 ·
  rw [if_pos h3,if_neg (show ¬ j=162+i*4+c by omega)]
  unfold xcell
  rw [if_neg h0,if_neg h1,if_neg h2,if_pos h3]
  split
  · rename_i e;rw [e]
  · rfl
 rw [if_neg h3]
 by_cases h4:j<290
 ·
  rw [if_pos h4]
  by_cases hg:(j - 162) / 4=i
  ·
   rw [if_pos hg]
   by_cases hj:j=162+i*4+c
   · rw [if_pos hj,show (j - 162) % 4=c by omega]
   ·
    rw [if_neg hj]
    show ecell e _=_
    rw [h _ (Nat.mod_lt _ (by omega)) (by omega)]
    unfold xcell
    rw [if_neg h0,if_neg h1,if_neg h2,if_neg h3,if_pos h4,hg]
  · rw [if_neg hg,if_neg (by omega)]
 ·
  rw [if_neg h4,if_neg (show ¬ j=162+i*4+c by omega)]
  unfold xcell
  rw [if_neg h0,if_neg h1,if_neg h2,if_neg h3,if_neg h4]
  split
  · rename_i e;rw [e]
  · rfl
theorem XBlk.set_rem {w:World} {b:Nat} {X:XH} (h:XBlk w b X) {i:Nat} (hi:i<32) {e:En} (ho:(X.g i).own=e) (q:Nat):XBlk (w.setCell ⟨b,162+i*4+3,none⟩ (.int .u64 (q:Nat))) b (X.put i { X.g i with own:=⟨e.id,e.wt,e.v,q⟩ }):=by
 subst ho
 exact h.set fun j _=>xcell_own_set (c:=3) hi (by omega) (fun d hd hne=>by
  rcases (show d=0∨d=1∨d=2 by omega) with rfl | rfl | rfl <;> rfl) j
theorem XBlk.set_wt {w:World} {b:Nat} {X:XH} (h:XBlk w b X) {i:Nat} (hi:i<32) {e:En} (ho:(X.g i).own=e) (n:Nat):XBlk (w.setCell ⟨b,162+i*4+1,none⟩ (.int .u64 (n:Nat))) b (X.put i { X.g i with own:=⟨e.id,n,e.v,e.rem⟩ }):=by
 subst ho
 exact h.set fun j _=>xcell_own_set (c:=1) hi (by omega) (fun d hd hne=>by
  rcases (show d=0∨d=2∨d=3 by omega) with rfl | rfl | rfl <;> rfl) j
theorem XBlk.set_v {w:World} {b:Nat} {X:XH} (h:XBlk w b X) {i:Nat} (hi:i<32) {e:En} (ho:(X.g i).own=e) (v:Int):XBlk (w.setCell ⟨b,162+i*4+2,none⟩ (.int .i64 v)) b (X.put i { X.g i with own:=⟨e.id,e.wt,v,e.rem⟩ }):=by
 subst ho
 exact h.set fun j _=>xcell_own_set (c:=2) hi (by omega) (fun d hd hne=>by
  rcases (show d=0∨d=1∨d=3 by omega) with rfl | rfl | rfl <;> rfl) j
theorem XBlk.set_rw {w:World} {b:Nat} {X:XH} (h:XBlk w b X) {i:Nat} (hi:i<32) {e:En} (ho:(X.g i).own=e) (q n:Nat) :
  XBlk ((w.setCell ⟨b,162+i*4+3,none⟩ (.int .u64 (q:Nat))).setCell ⟨b,162+i*4+1,none⟩ (.int .u64 (n:Nat))) b (X.put i { X.g i with own:=⟨e.id,n,e.v,q⟩ }):=by
 have h2:=(h.set_rem hi ho q).set_wt hi (e:=⟨e.id,e.wt,e.v,q⟩) (by rw [XH.put_same]) n
 rw [XH.put_put,XH.put_same] at h2
 exact h2
theorem XFr.own1 {r k:Nat} {w W W':World} {X Y:XH} {S:HS} (f:XFr r k w W X Y S) {i:Nat} {x y:Gr} (hx:S.G i=some x) (e:En) (hb:XBlk W' w.heap.size (Y.put i { Y.g i with own:=e })) (ho:∀ b,b≠w.heap.size→W'.heap[b]?=W.heap[b]?) (hs:W'.heap.size=W.heap.size) (hk:Below w.heap.size w W')
  (h1:y.up=x.up) (h2:y.q=x.q) (h3:y.stopped=x.stopped) (h4:y.on=false→y.own=e):XFr r k w W' X (Y.put i { Y.g i with own:=e }) (S.put i (some y)):=by
 refine f.set hb ho hs hk (fun j=>?_) f.at_.cr f.at_.gr (fun j hj hn=>?_) (fun j z hz=>?_) (fun j z hz=>?_)
 ·
  by_cases hji:j=i
  · subst hji;rw [XH.put_same];exact .inl ⟨rfl,rfl,rfl⟩
  · rw [XH.put_other _ _ hji];exact .inl ⟨rfl,rfl,rfl⟩
 ·
  by_cases hji:j=i
  · subst hji;rw [HS.put_same] at hn;simp at hn
  · rw [HS.put_other _ _ hji] at hn;rw [XH.put_other _ _ hji];exact f.at_.no j hj hn
 ·
  by_cases hji:j=i
  ·
   subst hji
   rw [HS.put_same] at hz
   injection hz with hz
   subst hz
   obtain ⟨e1,e2,e3,_⟩:=f.at_.is j x hx
   rw [XH.put_same]
   exact ⟨e1.trans h1.symm,e2.trans h2.symm,fun h0=>(e3 h0).trans h3.symm,fun _ hon=>(h4 hon).symm⟩
  · rw [HS.put_other _ _ hji] at hz;rw [XH.put_other _ _ hji];exact f.at_.is j z hz
 ·
  by_cases hji:j=i
  ·
   subst hji
   rw [HS.put_same] at hz
   injection hz with hz
   subst hz
   rw [h2]
   exact f.at_.led j x hx
  · rw [HS.put_other _ _ hji] at hz;exact f.at_.led j z hz
section
variable {w:World} {S:HS} {X:XH}
set_option maxRecDepth 100000 in
set_option maxHeartbeats 8000000 in
theorem xweigh_bad (a:XAt w S X) (T:HTree S) {g:Int} (hbad:S.linked g=none) (wn:Nat) :
  Calls Tryz.prog 59 #[xV X,.int .i64 g,.int .u64 wn] w fun r w'=>r=.returned (.tuple #[xV X,.int .i64 1])∧Hid (XTo w w' X X S):=by
 obtain ⟨W1,hW1,f,_⟩:=XFr.new a
 have hp:=f.pack
 rw [hW1] at hp
 have HR:=Lib.hid hp
 have MT:=fun W=>xlinked_any a T g W
 rw [hbad] at MT
 have MT:=Lib.hid MT
 have HF:=Lib.hid f
 have HW:=Lib.hid hW1
 clear hp f hW1 a T hbad
 show Calls Tryz.prog _ #[.agg (xcells X).toArray,.int .i64 g,.int .u64 wn] w _
 go_enter Tryz.func59,Tryz.ntmps59
 go_wp2_with (refine wpList_wload_mid rfl 38 (.tmp 3) rfl w.heap.size 0 rfl (xcells X) _ HR.out.1 Tryz.underlying38 rfl HR.out.2.1 ?_)
 rw [← HW.out]
 refine (MT.out _).mono ?_
 rintro r w2 ⟨rfl,hb⟩
 have f2:=HF.out.below hb
 have HF2:=Lib.hid f2
 have HR2:=Lib.hid f2.pack
 clear f2 hb HF HW MT
 go_wp2_with (first
  | (refine wpList_wload_mid rfl 38 (.tmp 3) rfl w.heap.size 0 rfl (xcells X) _ HR2.out.1 Tryz.underlying38 rfl HR2.out.2.1 ?_)
  | (refine wpList_store_mid rfl 38 (.tmp 6) (.tmp 17) rfl (w.heap.size+1) 0 (xcells X).toArray rfl rfl HR2.out.2.2.1 HR2.out.2.2.2.1 HR2.out.2.2.2.2 ?_))
 obtain ⟨W9,hW9⟩:∃ W9,W9=w2.setCells (w.heap.size+1) 0 (xcells X):=⟨_,rfl⟩
 have hd:=HF2.out.done
 rw [← hW9] at hd ⊢
 have hl:=xload hd.1
 refine bodyPost_ret (v:=.tuple #[xV X,.int .i64 1]) (res_cell_tmp Tryz.results59 rfl rfl hl) rfl ⟨rfl,Lib.hid hd.2⟩
set_option maxRecDepth 100000 in
set_option maxHeartbeats 8000000 in
theorem xweigh_no (a:XAt w S X) (T:HTree S) {i:Nat} {x:Gr} (h0:i≠0) (hx:S.G i=some x) {wn:Nat} (hwn:wn<18446744073709551616) (hbad:¬(2≤wn∧wn≤262144)) :
  Calls Tryz.prog 59 #[xV X,.int .i64 (i:Int),.int .u64 wn] w fun r w'=>r=.returned (.tuple #[xV X,.int .i64 4])∧Hid (XTo w w' X X S):=by
 have hi:=T.lt hx
 obtain ⟨W1,hW1,f,_⟩:=XFr.new a
 have hp:=f.pack
 rw [hW1] at hp
 have HR:=Lib.hid hp
 have MT:=fun W=>xlinked_any a T (i:Int) W
 rw [HS.linked,if_neg (by omega),S.at_nat hi,hx] at MT
 have MT:=Lib.hid MT
 have MM:=fun W=>rmay_any wn hwn W
 rw [decide_eq_false hbad] at MM
 have MM:=Lib.hid MM
 have HF:=Lib.hid f
 have HW:=Lib.hid hW1
 clear hp f hW1 a T hbad hx h0
 show Calls Tryz.prog _ #[.agg (xcells X).toArray,.int .i64 (i:Int),.int .u64 wn] w _
 go_enter Tryz.func59,Tryz.ntmps59
 go_wp2_with (refine wpList_wload_mid rfl 38 (.tmp 3) rfl w.heap.size 0 rfl (xcells X) _ HR.out.1 Tryz.underlying38 rfl HR.out.2.1 ?_)
 rw [← HW.out]
 refine (MT.out _).mono ?_
 rintro r w2 ⟨rfl,hb⟩
 have f2:=HF.out.below hb
 have HF2:=Lib.hid f2
 have HR2:=Lib.hid f2.pack
 clear f2 hb HF HW MT
 go_wp2_with fail
 refine (MM.out _).mono ?_
 rintro r w3 ⟨rfl,rfl⟩
 go_wp2_with (first
  | (refine wpList_wload_mid rfl 38 (.tmp 3) rfl w.heap.size 0 rfl (xcells X) _ HR2.out.1 Tryz.underlying38 rfl HR2.out.2.1 ?_)
  | (refine wpList_store_mid rfl 38 (.tmp 6) (.tmp 21) rfl (w.heap.size+1) 0 (xcells X).toArray rfl rfl HR2.out.2.2.1 HR2.out.2.2.2.1 HR2.out.2.2.2.2 ?_))
 obtain ⟨W9,hW9⟩:∃ W9,W9=w2.setCells (w.heap.size+1) 0 (xcells X):=⟨_,rfl⟩
 have hd:=HF2.out.done
 rw [← hW9] at hd ⊢
 have hl:=xload hd.1
 refine bodyPost_ret (v:=.tuple #[xV X,.int .i64 4]) (res_cell_tmp Tryz.results59 rfl rfl hl) rfl ⟨rfl,Lib.hid hd.2⟩
set_option maxRecDepth 100000 in
set_option maxHeartbeats 16000000 in
theorem xweigh_off (a:XAt w S X) (I:HInv S) {i:Nat} {x:Gr} (h0:i≠0) (hx:S.G i=some x) {wn:Nat} (w1:2≤wn) (w2:wn≤262144) (hon:x.on=false) :
  Calls Tryz.prog 59 #[xV X,.int .i64 (i:Int),.int .u64 wn] w fun r w'=>∃ X',r=.returned (.tuple #[xV X',.int .i64 0])∧Hid (XTo w w' X X' (S.put i (some { x with own:=weighed x.own wn }))):=by
 have hi:=I.tree.lt hx
 obtain ⟨W1,hW1,f,_⟩:=XFr.new a
 have hp:=f.pack
 rw [hW1] at hp
 have HR:=Lib.hid hp
 have MT:=fun W=>xlinked_any a I.tree (i:Int) W
 rw [HS.linked,if_neg (by omega),S.at_nat hi,hx] at MT
 have MT:=Lib.hid MT
 have MM:=fun W=>rmay_any wn (by omega) W
 rw [decide_eq_true ⟨w1,w2⟩] at MM
 have MM:=Lib.hid MM
 have HF:=Lib.hid f
 have HW:=Lib.hid hW1
 have hown:=(a.is i x hx).2.2.2 h0 hon
 have O:=I.own i x h0 hx
 have hOr:=O.r
 have hOw:=O.w2
 have MD:=Lib.hid fun W=>refMulDiv_any x.own.rem wn x.own.wt (by omega) (by omega) (by omega) W
 have MO:Hid (∀ W,Below w.heap.size w W→Calls Tryz.prog 31 #[xV X,.int .i64 (i:Int)] W fun e w'=>e=.returned (.bool false)∧Below W.heap.size W w'):=Lib.hid fun W hW=>by
  have:=xon_is a I h0 hx hW
  rw [hon] at this
  exact this
 have HP:=Lib.hid (And.intro hx (And.intro hi (And.intro hown (show weighed x.own wn=⟨x.own.id,wn,x.own.v,mdQ x.own.rem wn x.own.wt⟩ from rfl))))
 generalize mdQ x.own.rem wn x.own.wt=q1 at *
 generalize mdR x.own.rem wn x.own.wt=q2 at *
 generalize mdOk x.own.rem wn x.own.wt=q3 at *
 have j0:(0:Int)≤(i:Int):=by omega
 have j2:(i:Int)<32:=by omega
 have j5:decide (i<32)=true:=decide_eq_true hi
 clear hp f hW1 a I hx h0 hown O hOr hOw hon hi
 show Calls Tryz.prog _ #[.agg (xcells X).toArray,.int .i64 (i:Int),.int .u64 wn] w _
 go_enter Tryz.func59,Tryz.ntmps59
 go_wp2_with (refine wpList_wload_mid rfl 38 (.tmp 3) rfl w.heap.size 0 rfl (xcells X) _ HR.out.1 Tryz.underlying38 rfl HR.out.2.1 ?_)
 rw [← HW.out]
 refine (MT.out _).mono ?_
 rintro r w2 ⟨rfl,hb⟩
 have f2:=HF.out.below hb
 have HF2:=Lib.hid f2
 have HR2:=Lib.hid f2.pack
 clear f2 hb HF HW MT
 go_wp2_with fail
 refine (MM.out _).mono ?_
 rintro r w3 ⟨rfl,rfl⟩
 go_wp2_with (refine wpList_wload_mid rfl 38 (.tmp 3) rfl w.heap.size 0 rfl (xcells X) _ HR2.out.1 Tryz.underlying38 rfl HR2.out.2.1 ?_)
 refine (MO.out _ HF2.out.bel).mono ?_
 rintro r w4 ⟨rfl,hb⟩
 have f4:=HF2.out.below hb
 obtain ⟨-,o1,-,o3⟩:=f4.box.own HP.out.2.1
 rw [HP.out.2.2.1] at o1 o3
 have yf:=f4.box.frozen
 have HF4:=Lib.hid f4
 clear f4 hb HF2 MM MO HR2
 go_upto_region 9 with (fail)
 have HOO:=Lib.hid (And.intro o1 o3)
 go_region_held3 (fun W=>W.cell? ⟨w.heap.size,162+i*4+1,none⟩=some (.int .u64 x.own.wt)∧W.cell? ⟨w.heap.size,162+i*4+3,none⟩=some (.int .u64 x.own.rem))
  (first | exact ⟨HOO.out.1,HOO.out.2⟩ | assumption)
  (first | (go_at_call 98;refine (MD.out _).mono ?_;rintro r w5 ⟨rfl,rfl⟩))
 rename_i hHeld
 clear hHeld HOO
 have b2:=HF4.out.box.set_rw HP.out.2.1 HP.out.2.2.1 q1 wn
 rw [← HP.out.2.2.2] at b2
 have HB2:=Lib.hid b2
 clear b2
 go_upto_region 12 with (fail)
 have f8:=(HF4.out.own1 (y:={ x with own:=weighed x.own wn }) HP.out.1 (weighed x.own wn) HB2.out (fun b hb=>(Below.heap_setCell _ _ _ _ hb).trans (Below.heap_setCell _ _ _ _ hb)) (by simp) ((HF4.out.bel.setCell (Nat.le_refl _) _).setCell (Nat.le_refl _) _) rfl rfl rfl (fun _=>rfl)).below (Below.refl _ _).drew
 obtain ⟨W7,hW7,f7⟩:∃ W7,W7=_∧XFr 1 1 w W7 X _ _:=⟨_,rfl,f8⟩
 rw [← hW7]
 clear hW7 f8 o1 o3 yf HB2
 generalize XH.put _ i _=Y7 at f7
 have HR7:=Lib.hid f7.pack
 have HF7:=Lib.hid f7
 clear f7
 go_wp2_with (first
  | (refine wpList_wload_mid rfl 38 (.tmp 3) rfl w.heap.size 0 rfl (xcells Y7) _ HR7.out.1 Tryz.underlying38 rfl HR7.out.2.1 ?_)
  | (refine wpList_store_mid rfl 38 (.tmp 6) (.tmp 75) rfl (w.heap.size+1) 0 (xcells Y7).toArray rfl rfl HR7.out.2.2.1 HR7.out.2.2.2.1 HR7.out.2.2.2.2 ?_))
 obtain ⟨W9,hW9⟩:∃ W9,W9=W7.setCells (w.heap.size+1) 0 (xcells Y7):=⟨_,rfl⟩
 have hd:=HF7.out.done
 rw [← hW9] at hd ⊢
 have hl:=xload hd.1
 refine bodyPost_ret (v:=.tuple #[xV Y7,.int .i64 0]) (res_cell_tmp Tryz.results59 rfl rfl hl) rfl ⟨Y7,rfl,Lib.hid hd.2⟩
end
end Go.Proofs.YtefekboacghnjaaGreat
namespace Go.Proofs.YtefekboacghnjaaGreat
open Go.RowKit Go.Maps
section
variable {w:World} {S:HS} {X:XH}
set_option maxRecDepth 100000 in
set_option maxHeartbeats 16000000 in
theorem xweigh_on (a:XAt w S X) (I:HInv S) {i u:Nat} {x p:Gr} (h0:i≠0) (hx:S.G i=some x) (hu:x.up=((u:Nat):Int)) (hp:S.G u=some p) {wn:Nat} (w1:2≤wn) (w2:wn≤262144) (hon:x.on=true) :
  Calls Tryz.prog 59 #[xV X,.int .i64 (i:Int),.int .u64 wn] w fun r w'=>∃ X',r=.returned (.tuple #[xV X',.int .i64 (weighC p.q (2*(i:Int)+1) wn)])∧Hid (XTo w w' X X' (S.put u (some { p with q:=weighQ p.q (2*(i:Int)+1) wn }))):=by
 have hi:=I.tree.lt hx
 have hu32:=I.tree.lt hp
 obtain ⟨W1,hW1,f,_⟩:=XFr.new a
 have hpk:=f.pack
 rw [hW1] at hpk
 have HR:=Lib.hid hpk
 have MT:=fun W=>xlinked_any a I.tree (i:Int) W
 rw [HS.linked,if_neg (by omega),S.at_nat hi,hx] at MT
 have MT:=Lib.hid MT
 have MM:=fun W=>rmay_any wn (by omega) W
 rw [decide_eq_true ⟨w1,w2⟩] at MM
 have MM:=Lib.hid MM
 have HF:=Lib.hid f
 have HW:=Lib.hid hW1
 have MO:Hid (∀ W,Below w.heap.size w W→Calls Tryz.prog 31 #[xV X,.int .i64 (i:Int)] W fun e w'=>e=.returned (.bool true)∧Below W.heap.size W w'):=Lib.hid fun W hW=>by
  have:=xon_is a I h0 hx hW
  rw [hon] at this
  exact this
 have hq:=(a.is u p hp).2.1
 have hqok:=I.qok u p hp
 have hl0:=a.led u p hp
 have hled:=led_weigh hqok hl0 (2*(i:Int)+1) wn
 have MP:=fun (W:World) (hW:RQ W W.heap.size (X.g u).A (X.g u).c p.q.L)=>rf_weigh (X.g u).A (X.g u).c p.q hqok hl0 (2*(i:Int)+1) wn (by omega) W hW
 generalize weighQ p.q (2*(i:Int)+1) wn=q2 at *
 generalize weighC p.q (2*(i:Int)+1) wn=pc at *
 obtain ⟨m2,hm2⟩:∃ m2,m2=q2.L.length:=⟨_,rfl⟩
 rw [← hm2] at MP
 have MP:=Lib.hid MP
 have HP:=Lib.hid (And.intro hp (And.intro hi (And.intro hq (And.intro hled (And.intro hm2 (And.intro hu32 ((a.is i x hx).1.trans hu)))))))
 have j0:(0:Int)≤(i:Int):=by omega
 have j2:(i:Int)<32:=by omega
 have j5:decide (i<32)=true:=decide_eq_true hi
 have u0:(0:Int)≤(u:Int):=by omega
 have u2:(u:Int)<32:=by omega
 have u5:decide (u<32)=true:=decide_eq_true hu32
 clear hpk f hW1 a I hx h0 hon hi hp hu hu32 hq hqok hl0 hled hm2
 show Calls Tryz.prog _ #[.agg (xcells X).toArray,.int .i64 (i:Int),.int .u64 wn] w _
 go_enter Tryz.func59,Tryz.ntmps59
 go_wp2_with (refine wpList_wload_mid rfl 38 (.tmp 3) rfl w.heap.size 0 rfl (xcells X) _ HR.out.1 Tryz.underlying38 rfl HR.out.2.1 ?_)
 rw [← HW.out]
 refine (MT.out _).mono ?_
 rintro r w2 ⟨rfl,hb⟩
 have f2:=HF.out.below hb
 have HF2:=Lib.hid f2
 have HR2:=Lib.hid f2.pack
 clear f2 hb HF HW MT
 go_wp2_with fail
 refine (MM.out _).mono ?_
 rintro r w3 ⟨rfl,rfl⟩
 go_wp2_with (refine wpList_wload_mid rfl 38 (.tmp 3) rfl w.heap.size 0 rfl (xcells X) _ HR2.out.1 Tryz.underlying38 rfl HR2.out.2.1 ?_)
 refine (MO.out _ HF2.out.bel).mono ?_
 rintro r w4 ⟨rfl,hb⟩
 have f4:=HF2.out.below hb
 have c0:=f4.box.up HP.out.2.1
 rw [HP.out.2.2.2.2.2.2] at c0
 obtain ⟨p0,p1,p2,p3⟩:=f4.box.q HP.out.2.2.2.2.2.1
 rw [HP.out.2.2.1] at p0 p1 p2 p3
 have hr4:=f4.at_.row u HP.out.2.2.2.2.2.1
 rw [HP.out.2.2.1] at hr4
 have HF4:=Lib.hid f4
 have MP2:=Lib.hid (MP.out w4 hr4)
 clear f4 hb HF2 MM MO HR2 hr4 MP
 generalize p.q.L.length=m at *
 go_wp2_with fail
 refine MP2.out.mono ?_
 rintro r w5 ⟨A5,c5,rfl,H5⟩
 go_upto_region 7 with (fail)
 obtain ⟨W6,hW6⟩:∃ W6,W6=w5.alloc (.cells #[.slice A5 m2 c5,.int .i64 q2.cur,.int .i64 q2.mn,.bool q2.over] 29):=⟨_,rfl⟩
 have hx6:Blk W6 w5.heap.size #[.slice A5 m2 c5,.int .i64 q2.cur,.int .i64 q2.mn,.bool q2.over] 29:=by rw [hW6];exact Blk.new _ _ _
 have hr6:RfRes w4 W6 (X.g u).A A5 c5 p.q q2:=(H5.out).later (by rw [hW6];exact (Below.refl _ _).alloc (Nat.le_refl _) _)
 rw [← hW6]
 have hr7:=hr6
 rw [← HP.out.2.2.1] at hr7
 have f7:=(HF4.out.queue HP.out.1 HP.out.2.2.2.2.2.1 hr7 HP.out.2.2.2.1 (Below.refl _ _) HP.out.2.2.2.2.1).below (Below.refl _ _).drew
 have f6:=HF4.out.below hr6.res.bel
 obtain ⟨y0,y1,y2,y3⟩:=f6.box.q HP.out.2.2.2.2.2.1
 have c0:=f6.box.up HP.out.2.1
 rw [HP.out.2.2.2.2.2.2] at c0
 have yf:=f6.box.frozen
 have x0:W6.cell? ⟨w5.heap.size,0,none⟩=some (.slice A5 m2 c5):=Blk.cell hx6 0
 have x1:W6.cell? ⟨w5.heap.size,1,none⟩=some (.int .i64 q2.cur):=Blk.cell hx6 1
 have x2:W6.cell? ⟨w5.heap.size,2,none⟩=some (.int .i64 q2.mn):=Blk.cell hx6 2
 have x3:W6.cell? ⟨w5.heap.size,3,none⟩=some (.bool q2.over):=Blk.cell hx6 3
 have HF7:=Lib.hid f7
 clear f6 hW6 hx6 hr6 hr7 f7 H5 p0 p1 p2 p3 MP2
 go_still_tail 7,(by kernel_rfl)
 change wpList _ _ _ _ _ W6.drew
 go_upto_region 8 with (fail)
 obtain ⟨W7,hW7,f7⟩:∃ W7,W7=_∧XFr 1 1 w W7 X _ _:=⟨_,rfl,HF7.out⟩
 rw [← hW7]
 clear hW7 y0 y1 y2 y3 yf x0 x1 x2 x3 c0 HF7
 generalize XH.put _ u _=Y7 at f7
 have HR7:=Lib.hid f7.pack
 have HF7:=Lib.hid f7
 clear f7
 go_wp2_with (first
  | (refine wpList_wload_mid rfl 38 (.tmp 3) rfl w.heap.size 0 rfl (xcells Y7) _ HR7.out.1 Tryz.underlying38 rfl HR7.out.2.1 ?_)
  | (refine wpList_store_mid rfl 38 (.tmp 6) (.tmp 47) rfl (w.heap.size+1) 0 (xcells Y7).toArray rfl rfl HR7.out.2.2.1 HR7.out.2.2.2.1 HR7.out.2.2.2.2 ?_))
 obtain ⟨W9,hW9⟩:∃ W9,W9=W7.setCells (w.heap.size+1) 0 (xcells Y7):=⟨_,rfl⟩
 have hd:=HF7.out.done
 rw [← hW9] at hd ⊢
 have hl:=xload hd.1
 refine bodyPost_ret (v:=.tuple #[xV Y7,.int .i64 pc]) (res_cell_tmp Tryz.results59 rfl rfl hl) rfl ⟨Y7,rfl,Lib.hid hd.2⟩
end
end Go.Proofs.YtefekboacghnjaaGreat
namespace Go.Proofs.YtefekboacghnjaaGreat
open Go.RowKit Go.Maps
theorem XFr.up {r k:Nat} {w W:World} {X Y:XH} {S:HS} (f:XFr r k w W X Y S) {i:Nat} (hi:i<32):XFr r k w (W.setCell ⟨w.heap.size,130+i,none⟩ (.int .i64 (-1))) X (Y.put i { Y.g i with up:=-1 }) (S.put i none):=by
 refine f.set (f.box.set_up hi (-1)) (fun c hc=>Below.heap_setCell _ _ _ _ hc) (by simp) (f.bel.setCell (Nat.le_refl _) _) (fun j=>?_) f.at_.cr f.at_.gr (fun j hj hn=>?_) (fun j z hz=>?_) (fun j z hz=>?_)
 ·
  by_cases hji:j=i
  · subst hji;rw [XH.put_same];exact .inl ⟨rfl,rfl,rfl⟩
  · rw [XH.put_other _ _ hji];exact .inl ⟨rfl,rfl,rfl⟩
 ·
  by_cases hji:j=i
  · subst hji;rw [XH.put_same]
  · rw [HS.put_other _ _ hji] at hn;rw [XH.put_other _ _ hji];exact f.at_.no j hj hn
 ·
  by_cases hji:j=i
  · subst hji;rw [HS.put_same] at hz;simp at hz
  · rw [HS.put_other _ _ hji] at hz;rw [XH.put_other _ _ hji];exact f.at_.is j z hz
 ·
  by_cases hji:j=i
  · subst hji;rw [HS.put_same] at hz;simp at hz
  · rw [HS.put_other _ _ hji] at hz;exact f.at_.led j z hz
section
variable {w:World} {S:HS} {X:XH}
theorem XAt.kid (a:XAt w S X) {k i:Nat} (hk:k<32) (h:(X.g k).up=(i:Int)):∃ y,S.G k=some y∧y.up=(i:Int):=by
 cases hy:S.G k with
 | none=>rw [a.no k hk hy] at h;omega
 | some y=>exact ⟨y,rfl,(a.is k y hy).1.symm.trans h⟩
set_option maxRecDepth 100000 in
set_option maxHeartbeats 8000000 in
theorem xunlink_bad (a:XAt w S X) (T:HTree S) {g:Int} (hbad:S.linked g=none) :
  Calls Tryz.prog 55 #[xV X,.int .i64 g] w fun r w'=>r=.returned (.tuple #[xV X,.int .i64 1])∧Hid (XTo w w' X X S):=by
 obtain ⟨W1,hW1,f,_⟩:=XFr.new a
 have hp:=f.pack
 rw [hW1] at hp
 have HR:=Lib.hid hp
 have MT:=fun W=>xlinked_any a T g W
 rw [hbad] at MT
 have MT:=Lib.hid MT
 have HF:=Lib.hid f
 have HW:=Lib.hid hW1
 clear hp f hW1 a T hbad
 show Calls Tryz.prog _ #[.agg (xcells X).toArray,.int .i64 g] w _
 go_enter Tryz.func55,Tryz.ntmps55
 go_wp2_with (refine wpList_wload_mid rfl 38 (.tmp 2) rfl w.heap.size 0 rfl (xcells X) _ HR.out.1 Tryz.underlying38 rfl HR.out.2.1 ?_)
 rw [← HW.out]
 refine (MT.out _).mono ?_
 rintro r w2 ⟨rfl,hb⟩
 have f2:=HF.out.below hb
 have HF2:=Lib.hid f2
 have HR2:=Lib.hid f2.pack
 clear f2 hb HF HW MT
 go_wp2_with (first
  | (refine wpList_wload_mid rfl 38 (.tmp 2) rfl w.heap.size 0 rfl (xcells X) _ HR2.out.1 Tryz.underlying38 rfl HR2.out.2.1 ?_)
  | (refine wpList_store_mid rfl 38 (.tmp 4) (.tmp 11) rfl (w.heap.size+1) 0 (xcells X).toArray rfl rfl HR2.out.2.2.1 HR2.out.2.2.2.1 HR2.out.2.2.2.2 ?_))
 obtain ⟨W9,hW9⟩:∃ W9,W9=w2.setCells (w.heap.size+1) 0 (xcells X):=⟨_,rfl⟩
 have hd:=HF2.out.done
 rw [← hW9] at hd ⊢
 have hl:=xload hd.1
 refine bodyPost_ret (v:=.tuple #[xV X,.int .i64 1]) (res_cell_tmp Tryz.results55 rfl rfl hl) rfl ⟨rfl,Lib.hid hd.2⟩
set_option maxRecDepth 100000 in
set_option maxHeartbeats 16000000 in
theorem xunlink_any (a:XAt w S X) (T:HTree S) {i:Nat} {x:Gr} (h0:i≠0) (hx:S.G i=some x) :
  Calls Tryz.prog 55 #[xV X,.int .i64 (i:Int)] w fun r w'=>(¬(kidless S i∧x.q.L=[])∧r=.returned (.tuple #[xV X,.int .i64 6])∧Hid (XTo w w' X X S)) ∨
   ((kidless S i∧x.q.L=[])∧∃ X',r=.returned (.tuple #[xV X',.int .i64 0])∧Hid (XTo w w' X X' (S.put i none))):=by
 have hi:=T.lt hx
 obtain ⟨W1,hW1,f,_⟩:=XFr.new a
 have hp:=f.pack
 rw [hW1] at hp
 have HR:=Lib.hid hp
 have MT:=fun W=>xlinked_any a T (i:Int) W
 rw [HS.linked,if_neg (by omega),S.at_nat hi,hx] at MT
 have MT:=Lib.hid MT
 have HF:=Lib.hid f
 have HW:=Lib.hid hW1
 have hq:=(a.is i x hx).2.1
 have HP:=Lib.hid (And.intro a (And.intro T (And.intro hx (And.intro hi hq))))
 have hcase:(NTest x.q.L.length true∧x.q.L≠[])∨(NTest x.q.L.length false∧x.q.L=[]):=by
  by_cases h:x.q.L=[]
  · exact .inr ⟨NTest.no h,h⟩
  · exact .inl ⟨NTest.yes h,h⟩
 have HC:=Lib.hid hcase
 have j0:(0:Int)≤(i:Int):=by omega
 have j2:(i:Int)<32:=by omega
 have j5:decide (i<32)=true:=decide_eq_true hi
 clear hp f hW1 a T hx hq hcase
 show Calls Tryz.prog _ #[.agg (xcells X).toArray,.int .i64 (i:Int)] w _
 go_enter Tryz.func55,Tryz.ntmps55
 go_wp2_with (refine wpList_wload_mid rfl 38 (.tmp 2) rfl w.heap.size 0 rfl (xcells X) _ HR.out.1 Tryz.underlying38 rfl HR.out.2.1 ?_)
 rw [← HW.out]
 refine (MT.out _).mono ?_
 rintro r w2 ⟨rfl,hb⟩
 have f2:=HF.out.below hb
 have HF2:=Lib.hid f2
 have HR2:=Lib.hid f2.pack
 clear f2 hb HF HW MT
 go_wp2_with fail
 go_loopw [6] (fun s6 wr=>∃ k:Nat,1≤k∧k≤32∧s6=.int .i64 (k:Int)∧Hid (∀ j,1≤j→j<k→(X.g j).up≠(i:Int))∧w2=wr) (fun s6 _=>32 - (intOf s6).toNat)
 case atStart=>exact ⟨1,by omega,by omega,rfl,Lib.hid fun j h1 h2=>absurd h1 (by omega),rfl⟩
 case round =>
  obtain ⟨k,hk1,hk,rfl,HN,rfl⟩:=hrel
  by_cases hlt:k<32
  ·
   have k0:(0:Int)≤(k:Int):=by omega
   have k2:(k:Int)<32:=by omega
   have k5:decide (k<32)=true:=decide_eq_true hlt
   have k6:decide ((k:Int)<32)=true:=decide_eq_true k2
   have c0:=HF2.out.box.up hlt
   by_cases hup:(X.g k).up=(i:Int)
   ·
    have HNK:Hid (¬(kidless S i∧x.q.L=[])):=Lib.hid fun h=>by
     obtain ⟨y,hy,hyu⟩:=HP.out.1.kid hlt hup
     exact h.1 k y hy hyu
    rw [hup] at c0
    clear hup HN
    go_wp2_with (first
     | (refine wpList_wload_mid rfl 38 (.tmp 2) rfl w.heap.size 0 rfl (xcells X) _ HR2.out.1 Tryz.underlying38 rfl HR2.out.2.1 ?_)
     | (refine wpList_store_mid rfl 38 (.tmp 4) (.tmp 22) rfl (w.heap.size+1) 0 (xcells X).toArray rfl rfl HR2.out.2.2.1 HR2.out.2.2.2.1 HR2.out.2.2.2.2 ?_))
    obtain ⟨W9,hW9⟩:∃ W9,W9=w2.setCells (w.heap.size+1) 0 (xcells X):=⟨_,rfl⟩
    have hd:=HF2.out.done
    rw [← hW9] at hd ⊢
    have hl:=xload hd.1
    refine bodyPost_ret (v:=.tuple #[xV X,.int .i64 6]) (res_cell_tmp Tryz.results55 rfl rfl hl) rfl (.inl ⟨HNK.out,rfl,Lib.hid hd.2⟩)
   ·
    have HN2:=Lib.hid (show ∀ j,1≤j→j<k+1→(X.g j).up≠(i:Int) from fun j h1 h2=>by
     by_cases hjk:j=k
     · rw [hjk];exact hup
     · exact HN.out j h1 (by omega))
    clear HN
    generalize (X.g k).up=uk at *
    have z0:(uk == (i:Int))=false:=beq_eq_false_iff_ne.2 hup
    have z1:decide (uk=(i:Int))=false:=decide_eq_false hup
    clear hup
    go_wp2_with fail
    go_roundw
    case rel=>exact ⟨k+1,by omega,by omega,by go_num,HN2.out,by first | rfl | trivial⟩
    case measure=>simp [intOf];omega
  ·
   obtain rfl:k=32:=by omega
   have HK:=Lib.hid (show kidless S i from fun j y hy=>by
    by_cases hj0:j=0
    ·
     subst hj0
     obtain ⟨g,e1,e2,_⟩:=HP.out.2.1.root
     rw [hy] at e1
     injection e1 with e1
     subst e1
     omega
    ·
     rw [← (HP.out.1.is j y hy).1]
     exact HN.out j (by omega) (HP.out.2.1.lt hy))
   have q0:=(HF2.out.box.q HP.out.2.2.2.1).1
   have cu:=HF2.out.box.up HP.out.2.2.2.1
   have yf:=HF2.out.box.frozen
   rw [HP.out.2.2.2.2] at q0
   clear HN
   rcases HC.out with ⟨hn,hne⟩ | ⟨hn,hne⟩
   ·
    obtain ⟨n1,n2⟩:=hn
    have HNE:=Lib.hid (show ¬(kidless S i∧x.q.L=[]) from fun h=>hne h.2)
    clear hne
    generalize x.q.L.length=n at n1 n2 q0
    go_wp2_with (first
     | (refine wpList_wload_mid rfl 38 (.tmp 2) rfl w.heap.size 0 rfl (xcells X) _ HR2.out.1 Tryz.underlying38 rfl HR2.out.2.1 ?_)
     | (refine wpList_store_mid rfl 38 (.tmp 4) (.tmp 30) rfl (w.heap.size+1) 0 (xcells X).toArray rfl rfl HR2.out.2.2.1 HR2.out.2.2.2.1 HR2.out.2.2.2.2 ?_))
    obtain ⟨W9,hW9⟩:∃ W9,W9=w2.setCells (w.heap.size+1) 0 (xcells X):=⟨_,rfl⟩
    have hd:=HF2.out.done
    rw [← hW9] at hd ⊢
    have hl:=xload hd.1
    refine bodyPost_ret (v:=.tuple #[xV X,.int .i64 6]) (res_cell_tmp Tryz.results55 rfl rfl hl) rfl (.inl ⟨HNE.out,rfl,Lib.hid hd.2⟩)
   ·
    obtain ⟨n1,n2⟩:=hn
    have HNE:=Lib.hid (And.intro HK.out hne)
    clear hne
    generalize x.q.L.length=n at n1 n2 q0
    go_upto_region 11 with (fail)
    obtain ⟨W7,hW7,f7⟩:∃ W7,W7=_∧XFr 1 1 w W7 X _ _:=⟨_,rfl,HF2.out.up HP.out.2.2.2.1⟩
    rw [← hW7]
    clear hW7 q0 cu yf
    generalize XH.put _ i _=Y7 at f7
    have HR7:=Lib.hid f7.pack
    have HF7:=Lib.hid f7
    clear f7
    go_wp2_with (first
     | (refine wpList_wload_mid rfl 38 (.tmp 2) rfl w.heap.size 0 rfl (xcells Y7) _ HR7.out.1 Tryz.underlying38 rfl HR7.out.2.1 ?_)
     | (refine wpList_store_mid rfl 38 (.tmp 4) (.tmp 34) rfl (w.heap.size+1) 0 (xcells Y7).toArray rfl rfl HR7.out.2.2.1 HR7.out.2.2.2.1 HR7.out.2.2.2.2 ?_))
    obtain ⟨W9,hW9⟩:∃ W9,W9=W7.setCells (w.heap.size+1) 0 (xcells Y7):=⟨_,rfl⟩
    have hd:=HF7.out.done
    rw [← hW9] at hd ⊢
    have hl:=xload hd.1
    refine bodyPost_ret (v:=.tuple #[xV Y7,.int .i64 0]) (res_cell_tmp Tryz.results55 rfl rfl hl) rfl (.inr ⟨HNE.out,Y7,rfl,Lib.hid hd.2⟩)
end
end Go.Proofs.YtefekboacghnjaaGreat
