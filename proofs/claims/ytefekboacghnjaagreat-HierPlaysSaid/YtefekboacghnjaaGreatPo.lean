/-
  dolelaw20.both.do: each deed but Drop.
-/
import Derived.Test.YtefekboacghnjaaGreatPn
import Derived.Test.YtefekboacghnjaaGreatPg
set_option linter.unusedVariables false
set_option linter.unusedSimpArgs false
namespace Go.Proofs.YtefekboacghnjaaGreat
open Go.RowKit Go.Maps
section
variable {w0 w:World} {p h:Nat} {S:HS} {X:XH} {K:Int}
set_option maxRecDepth 100000 in
set_option maxHeartbeats 64000000 in
theorem do_put (r0:RH w0 w p h S S X X K []) (H:HGood S) (hK:K+10000≤1000000000000000) (d:Dh) (hd:d.num) (hk:d.kind=3) :
  Calls Tryz.prog 7 #[.pointer (some ⟨p,0,none⟩),.agg d.cells.toArray] w fun r w'=>r=.returned (.bool true)∧∃ S' X',Hid (RH w0 w' p h S' S' X' X' (K+10000) []∧HGood S'∧S'.gran=S.gran):=by
 obtain ⟨kd,da,db,⟨ei,ew,ev,er⟩,dn,di⟩:=d
 obtain rfl:kd=3:=hk
 obtain ⟨w1,hw1⟩:∃ w1,w1=w.alloc (.cells #[.int .i64 3,.int .i64 da,.int .i64 db,.int .i64 ei,.int .u64 ew,.int .i64 ev,.int .u64 er,.int .u64 dn,.bool di] 44):=⟨_,rfl⟩
 have hR1:RH w0 w1 p h S S X X K [(w.heap.size,some (Obj.cells #[.int .i64 3,.int .i64 da,.int .i64 db,.int .i64 ei,.int .u64 ew,.int .i64 ev,.int .u64 er,.int .u64 dn,.bool di] 44 (0,0)))]:=by rw [hw1];exact r0.alloc _
 have hB1:Blk w1 w.heap.size #[.int .i64 3,.int .i64 da,.int .i64 db,.int .i64 ei,.int .u64 ew,.int .i64 ev,.int .u64 er,.int .u64 dn,.bool di] 44:=(hR1.keep _ List.mem_cons_self).2.2.2
 obtain ⟨x0,x1,x2,x3,x4,x5,x6,x7,x8⟩:=deed9 hB1
 have cp:=hR1.ptr
 have HR1:=Lib.hid hR1
 have HW1:=Lib.hid hw1
 have HG0:=Lib.hid (And.intro H True.intro)
 have HDN:=Lib.hid hd
 clear hR1 hB1 r0 H hd
 show Calls Tryz.prog _ #[.pointer (some ⟨p,0,none⟩),.agg #[.int .i64 3,.int .i64 da,.int .i64 db,.int .i64 ei,.int .u64 ew,.int .i64 ev,.int .u64 er,.int .u64 dn,.bool di]] w _
 go_enter Tryz.func7,Tryz.ntmps7
 go_upto_region 1 with (fail)
 rw [← hw1]
 clear hw1
 obtain ⟨an,S',hG,hgr,MG,MD0⟩:=two_put HG0.out.1 hK da HDN.out.e
 have MG1:=Lib.hid ((HR1.out.below (Below.refl _ _).drew).go (fun F a=>MG _ h F a))
 have MD:=Lib.hid MD0
 have HG:=Lib.hid (And.intro hG hgr)
 clear hG hgr MG MD0
 go_wp2_with fail
 clear x0 x1 x2 x3 x4 x5 x6 x7 x8 cp
 have HS:Hid (∀ (W:World) (S1:HS) (K1:Int),RH w0 W p h S1 S X X K1 [(w.heap.size,some (Obj.cells #[.int .i64 3,.int .i64 da,.int .i64 db,.int .i64 ei,.int .u64 ew,.int .i64 ev,.int .u64 er,.int .u64 dn,.bool di] 44 (0,0)))]→(fun W=>W.cell? ⟨p,0,none⟩=some (.pointer (some ⟨h,0,none⟩))∧W.cell? ⟨w.heap.size,1,none⟩=some (.int .i64 da)∧W.cell? ⟨w.heap.size,3,none⟩=some (.int .i64 ei)∧W.cell? ⟨w.heap.size,4,none⟩=some (.int .u64 ew)∧W.cell? ⟨w.heap.size,5,none⟩=some (.int .i64 ev)∧W.cell? ⟨w.heap.size,6,none⟩=some (.int .u64 er)) W):=Lib.hid fun W S1 K1 h3=>by
  have h4:Blk W w.heap.size #[.int .i64 3,.int .i64 da,.int .i64 db,.int .i64 ei,.int .u64 ew,.int .i64 ev,.int .u64 er,.int .u64 dn,.bool di] 44:=(h3.keep _ List.mem_cons_self).2.2.2
  exact ⟨h3.ptr,Blk.cell h4 1,Blk.cell h4 3,Blk.cell h4 4,Blk.cell h4 5,Blk.cell h4 6⟩
 refine wp_region_held_drew (S:=fun W=>W.cell? ⟨p,0,none⟩=some (.pointer (some ⟨h,0,none⟩))∧W.cell? ⟨w.heap.size,1,none⟩=some (.int .i64 da)∧W.cell? ⟨w.heap.size,3,none⟩=some (.int .i64 ei)∧W.cell? ⟨w.heap.size,4,none⟩=some (.int .u64 ew)∧W.cell? ⟨w.heap.size,5,none⟩=some (.int .i64 ev)∧W.cell? ⟨w.heap.size,6,none⟩=some (.int .u64 er)) (by kernel_rfl) (HS.out _ _ _ (HR1.out.below (Below.refl _ _).drew)) (fun hHeld=>?_)
 refine wpAnyH_takes (by kernel_rfl) (fun _ _ _ _ _ h=>h) hHeld [0,1,2,3,4,5,6,7] [(55,.pointer (some ⟨p,0,none⟩)),(56,.pointer (some ⟨p,0,none⟩)),(57,.pointer (some ⟨p,0,none⟩)),(58,.pointer (some ⟨h,0,none⟩)),(59,.pointer (some ⟨w.heap.size,1,none⟩)),(60,.int .i64 da),(61,.pointer (some ⟨w.heap.size,3,none⟩)),(62,.agg #[.int .i64 ei,.int .u64 ew,.int .i64 ev,.int .u64 er])] 8 _ _ rfl (by kernel_rfl) ?_ ?_
 ·
  refine tkI rfl rfl (by rfl) ?_ <| tkI rfl rfl (by rfl) ?_ <| tkI rfl rfl (by rfl) ?_ <| tkI rfl rfl (by rfl) ?_ <| tkI rfl rfl (by rfl) ?_ <| tkI rfl rfl (by rfl) ?_ <| tkI rfl rfl (by rfl) ?_ <| tkI rfl rfl (by rfl) ?_ <| tkN
  all_goals (intro W hSw;obtain ⟨kp,k0,k1,k2,k3,k4⟩:=hSw;clear hHeld;go_simp)
 simp only [putsL,listedL,Act.put,List.setIfInBounds_toArray,List.set_cons_zero,List.set_cons_succ]
 refine wpAnyH_ready (rs:=[8]) (by kernel_rfl) (by simp) ?_
 refine AllReadyH.cons rfl (fun Kc hK=>?_) AllReadyH.nil
 have HK:=Lib.hid hK
 clear hK hHeld
 go_simp
 refine MG1.out.mono ?_
 rintro r w2 ⟨rfl,H2⟩
 refine HK.out.out _ _ (HS.out _ _ _ H2.out) (fun hHeld=>?_)
 try simp only [Act.put,List.getElem_toArray,List.getElem_cons_succ,List.getElem_cons_zero,List.setIfInBounds_toArray,List.set_cons_zero,List.set_cons_succ]
 clear HK Kc MG1
 refine wpAnyH_takes (by kernel_rfl) (fun _ _ _ _ _ h=>h) hHeld [9] [(5,.int .i64 an)] 1 _ _ rfl (by kernel_rfl) ?_ ?_
 ·
  refine tkI rfl rfl (by rfl) ?_ <| tkN
  all_goals (intro W hSw;obtain ⟨kp,k0,k1,k2,k3,k4⟩:=hSw;clear hHeld;go_simp)
 simp only [putsL,listedL,Act.put,List.setIfInBounds_toArray,List.set_cons_zero,List.set_cons_succ]
 refine wpAnyH_done (by kernel_rfl) ?_ _
 clear hHeld HS
 go_wp2_with fail
 have HS:Hid (∀ W,Below w2.heap.size w2 W→(fun W=>Below w2.heap.size w2 W∧W.rangeAt p 1 (xcells X)∧W.cell? ⟨w.heap.size,1,none⟩=some (.int .i64 da)∧W.cell? ⟨w.heap.size,3,none⟩=some (.int .i64 ei)∧W.cell? ⟨w.heap.size,4,none⟩=some (.int .u64 ew)∧W.cell? ⟨w.heap.size,5,none⟩=some (.int .i64 ev)∧W.cell? ⟨w.heap.size,6,none⟩=some (.int .u64 er)) W):=Lib.hid fun W hW=>by
  have h3:=H2.out.below hW
  have h4:Blk W w.heap.size #[.int .i64 3,.int .i64 da,.int .i64 db,.int .i64 ei,.int .u64 ew,.int .i64 ev,.int .u64 er,.int .u64 dn,.bool di] 44:=(h3.keep _ List.mem_cons_self).2.2.2
  exact ⟨hW,h3.range,Blk.cell h4 1,Blk.cell h4 3,Blk.cell h4 4,Blk.cell h4 5,Blk.cell h4 6⟩
 refine wp_region_held_drew (S:=fun W=>Below w2.heap.size w2 W∧W.rangeAt p 1 (xcells X)∧W.cell? ⟨w.heap.size,1,none⟩=some (.int .i64 da)∧W.cell? ⟨w.heap.size,3,none⟩=some (.int .i64 ei)∧W.cell? ⟨w.heap.size,4,none⟩=some (.int .u64 ew)∧W.cell? ⟨w.heap.size,5,none⟩=some (.int .i64 ev)∧W.cell? ⟨w.heap.size,6,none⟩=some (.int .u64 er)) (by kernel_rfl) (HS.out _ (Below.refl _ _).drew) (fun hHeld=>?_)
 refine wpAnyH_takes (by kernel_rfl) (fun _ _ _ _ _ h=>h) hHeld [0,1,2,3,4,5,6,7] [(65,.pointer (some ⟨p,0,none⟩)),(66,.pointer (some ⟨p,0,none⟩)),(67,.pointer (some ⟨p,1,none⟩)),(68,.agg (xcells X).toArray),(69,.pointer (some ⟨w.heap.size,1,none⟩)),(70,.int .i64 da),(71,.pointer (some ⟨w.heap.size,3,none⟩)),(72,.agg #[.int .i64 ei,.int .u64 ew,.int .i64 ev,.int .u64 er])] 8 _ _ rfl (by kernel_rfl) ?_ ?_
 ·
  refine tkI rfl rfl (by rfl) ?_ <| tkI rfl rfl (by rfl) ?_ <| tkI rfl rfl (by rfl) ?_ <| tkY rfl rfl (yieldsIf_load_mid ?_ _ _ rfl p 1 ?_ (xcells X) _ (fun W h=>h.2.1) Tryz.underlying38 rfl (xinf X)) <| tkI rfl rfl (by rfl) ?_ <| tkI rfl rfl (by rfl) ?_ <| tkI rfl rfl (by rfl) ?_ <| tkI rfl rfl (by rfl) ?_ <| tkN
  all_goals first | (intro W hSw;obtain ⟨-,-,k0,k1,k2,k3,k4⟩:=hSw;clear hHeld;go_simp) | go_simp
 simp only [putsL,listedL,Act.put,List.setIfInBounds_toArray,List.set_cons_zero,List.set_cons_succ]
 refine wpAnyH_ready (rs:=[8,12]) (by kernel_rfl) (by simp) ?_
 refine AllReadyH.cons rfl (fun Kc hK=>?_) (AllReadyH.cons rfl (fun Kc hK=>?_) AllReadyH.nil)
 ·
  have HK:=Lib.hid hK
  clear hK hHeld
  go_simp
  refine (MD.out _ _ (H2.out.below (Below.refl _ _).drew).at_).mono ?_
  rintro r w5 ⟨X',rfl,H5⟩
  have HB5:=Lib.hid ((Below.refl w2.heap.size w2).drew.trans H5.out.bel)
  have H6:=Lib.hid ((H2.out.below (Below.refl _ _).drew).doc H5.out)
  clear H5
  refine HK.out.out _ _ (HS.out _ HB5.out) (fun hHeld=>?_)
  try simp only [Act.put,List.getElem_toArray,List.getElem_cons_succ,List.getElem_cons_zero,List.setIfInBounds_toArray,List.set_cons_zero,List.set_cons_succ]
  clear HK Kc
  refine wpAnyH_takes (by kernel_rfl) (fun _ _ _ _ _ h=>h) hHeld [9,10,11] [(64,.tuple #[xV X',.int .i64 an]),(74,xV X'),(75,.int .i64 an)] 3 _ _ rfl (by kernel_rfl) ?_ ?_
  ·
   refine tkI rfl rfl (by rfl) ?_ <| tkI rfl rfl (by rfl) ?_ <| tkI rfl rfl (by rfl) ?_ <| tkN
   all_goals (intro W hSw;clear hHeld hSw;go_simp)
  simp only [putsL,listedL,Act.put,List.setIfInBounds_toArray,List.set_cons_zero,List.set_cons_succ]
  refine wpAnyH_ready (rs:=[12]) (by kernel_rfl) (by simp) ?_
  refine AllReadyH.cons rfl (fun Kc hK=>?_) AllReadyH.nil
  have HK:=Lib.hid hK
  clear hK hHeld
  go_simp
  have HB7:=Lib.hid (HB5.out.alloc HB5.out.size (.cells Tryz.zeroCells38 38))
  have H7:=Lib.hid (H6.out.alloc (.cells Tryz.zeroCells38 38))
  have HLE:=Lib.hid HB5.out.size
  have HNE:Hid (∀ z,z ∈ [(w.heap.size,some (Obj.cells #[.int .i64 3,.int .i64 da,.int .i64 db,.int .i64 ei,.int .u64 ew,.int .i64 ev,.int .u64 er,.int .u64 dn,.bool di] 44 (0,0)))]→z.1≠w5.heap.size):=Lib.hid fun z hz=>by
   have:=(H6.out.keep z hz).2.1
   omega
  obtain ⟨w7,hw7⟩:∃ w7,w7=w5.alloc (.cells Tryz.zeroCells38 38):=⟨_,rfl⟩
  rw [← hw7] at HB7 H7 ⊢
  refine HK.out.out _ _ (HS.out _ HB7.out) (fun hHeld=>?_)
  try simp only [Act.put,List.getElem_toArray,List.getElem_cons_succ,List.getElem_cons_zero,List.setIfInBounds_toArray,List.set_cons_zero,List.set_cons_succ]
  clear HK Kc hw7 HB5 H6
  refine wpAnyH_ready (rs:=[13]) (by kernel_rfl) (by simp) ?_
  refine AllReadyH.cons rfl (fun Kc hK=>?_) AllReadyH.nil
  have HK:=Lib.hid hK
  clear hK hHeld
  rw [if_pos (by rfl)]
  refine wp_store_mid _ _ _ rfl w5.heap.size 0 (xcells X').toArray rfl rfl (H7.out.room Tryz.zeroCells38_size (H7.out.keep _ List.mem_cons_self).2.2.2 X') (xinfA X') (xcells_one X') ?_
  rw [List.toList_toArray]
  have H8:=Lib.hid (RH.lay Tryz.zeroCells38_size H7.out HNE.out X')
  have hb8:Below w2.heap.size w2 (w7.setCells w5.heap.size 0 (xcells X')):=below_sets HLE.out _ _ _ HB7.out
  obtain ⟨w8,hw8⟩:∃ w8,w8=w7.setCells w5.heap.size 0 (xcells X'):=⟨_,rfl⟩
  rw [← hw8] at H8 hb8 ⊢
  refine HK.out.out _ _ (HS.out _ hb8) (fun hHeld=>?_)
  try simp only [Act.put,List.getElem_toArray,List.getElem_cons_succ,List.getElem_cons_zero,List.setIfInBounds_toArray,List.set_cons_zero,List.set_cons_succ]
  clear HK Kc hw8 hb8 H7 HB7
  refine wpAnyH_takes (by kernel_rfl) (fun _ _ _ _ _ h=>h) hHeld [14] [(10,.int .i64 an)] 1 _ _ rfl (by kernel_rfl) ?_ ?_
  ·
   refine tkI rfl rfl (by rfl) ?_ <| tkN
   all_goals (intro W hSw;clear hHeld hSw;go_simp)
  simp only [putsL,listedL,Act.put,List.setIfInBounds_toArray,List.set_cons_zero,List.set_cons_succ]
  refine wpAnyH_done (by kernel_rfl) ?_ _
  clear hHeld
  have HRB:Hid (w8.rangeAt w5.heap.size 0 (xcells X')):=Lib.hid (XBlk.range (b:=w5.heap.size) (H8.out.keep _ List.mem_cons_self).2.2.2)
  obtain ⟨tb,htb⟩:∃ tb,tb=w5.heap.size:=⟨_,rfl⟩
  rw [← htb] at H8 HRB ⊢
  clear htb HLE HNE
  go_upto_region 20 with (first
   | (refine wpList_load_mid rfl 38 (.tmp 9) rfl tb 0 rfl (xcells X') _ HRB.out Tryz.underlying38 rfl (xinf X') ?_)
   | (refine wpList_store_mid rfl 38 (.tmp 79) (.tmp 77) rfl p 1 (xcells X').toArray rfl rfl (H8.out.there X') (xinfA X') (xcells_one X') ?_;obtain ⟨w9,hw9⟩:∃ w9,w9=w8.setCells p 1 (xcells X'):=⟨_,rfl⟩;rw [List.toList_toArray,← hw9]))
  have H9:=Lib.hid H8.out.store
  rw [← hw9] at H9
  clear hw9 H8 HRB
  go_wp2_with fail
  go_ret
  exact ⟨rfl,S',X',Lib.hid ⟨H9.out.less,HG.out.1,HG.out.2⟩⟩
 ·
  have HK:=Lib.hid hK
  clear hK hHeld
  go_simp
  have HB5:=Lib.hid ((Below.refl w2.heap.size w2).alloc (Nat.le_refl _) (.cells Tryz.zeroCells38 38)).drew
  have H6:=Lib.hid ((H2.out.alloc (.cells Tryz.zeroCells38 38)).below (Below.refl _ _).drew)
  have HNE:Hid (∀ z,z ∈ [(w.heap.size,some (Obj.cells #[.int .i64 3,.int .i64 da,.int .i64 db,.int .i64 ei,.int .u64 ew,.int .i64 ev,.int .u64 er,.int .u64 dn,.bool di] 44 (0,0)))]→z.1≠w2.heap.size):=Lib.hid fun z hz=>by
   have:=(H2.out.keep z hz).2.1
   omega
  obtain ⟨w5,hw5⟩:∃ w5,w5=(w2.alloc (.cells Tryz.zeroCells38 38)).drew:=⟨_,rfl⟩
  have H6':Hid (RH w0 w5 p h S' S X X (K+10000) ((w2.heap.size,some (Obj.cells Tryz.zeroCells38 38 (0,0)))::[(w.heap.size,some (Obj.cells #[.int .i64 3,.int .i64 da,.int .i64 db,.int .i64 ei,.int .u64 ew,.int .i64 ev,.int .u64 er,.int .u64 dn,.bool di] 44 (0,0)))])):=by rw [hw5];exact H6
  rw [← hw5] at HB5 ⊢
  refine HK.out.out _ _ (HS.out _ HB5.out) (fun hHeld=>?_)
  try simp only [Act.put,List.getElem_toArray,List.getElem_cons_succ,List.getElem_cons_zero,List.setIfInBounds_toArray,List.set_cons_zero,List.set_cons_succ]
  clear HK Kc hw5 H6
  refine wpAnyH_ready (rs:=[8]) (by kernel_rfl) (by simp) ?_
  refine AllReadyH.cons rfl (fun Kc hK=>?_) AllReadyH.nil
  have HK:=Lib.hid hK
  clear hK hHeld
  go_simp
  refine (MD.out _ _ H6'.out.at_).mono ?_
  rintro r w7 ⟨X',rfl,H5⟩
  have HB7:=Lib.hid (HB5.out.trans (H5.out.bel.mono HB5.out.size))
  have H7:=Lib.hid (H6'.out.doc H5.out)
  have HLE:=Lib.hid (Nat.le_refl w2.heap.size)
  clear H5
  refine HK.out.out _ _ (HS.out _ HB7.out) (fun hHeld=>?_)
  try simp only [Act.put,List.getElem_toArray,List.getElem_cons_succ,List.getElem_cons_zero,List.setIfInBounds_toArray,List.set_cons_zero,List.set_cons_succ]
  clear HK Kc H6' HB5
  refine wpAnyH_takes (by kernel_rfl) (fun _ _ _ _ _ h=>h) hHeld [9,10,11] [(64,.tuple #[xV X',.int .i64 an]),(74,xV X'),(75,.int .i64 an)] 3 _ _ rfl (by kernel_rfl) ?_ ?_
  ·
   refine tkI rfl rfl (by rfl) ?_ <| tkI rfl rfl (by rfl) ?_ <| tkI rfl rfl (by rfl) ?_ <| tkN
   all_goals (intro W hSw;clear hHeld hSw;go_simp)
  simp only [putsL,listedL,Act.put,List.setIfInBounds_toArray,List.set_cons_zero,List.set_cons_succ]
  refine wpAnyH_ready (rs:=[13]) (by kernel_rfl) (by simp) ?_
  refine AllReadyH.cons rfl (fun Kc hK=>?_) AllReadyH.nil
  have HK:=Lib.hid hK
  clear hK hHeld
  rw [if_pos (by rfl)]
  refine wp_store_mid _ _ _ rfl w2.heap.size 0 (xcells X').toArray rfl rfl (H7.out.room Tryz.zeroCells38_size (H7.out.keep _ List.mem_cons_self).2.2.2 X') (xinfA X') (xcells_one X') ?_
  rw [List.toList_toArray]
  have H8:=Lib.hid (RH.lay Tryz.zeroCells38_size H7.out HNE.out X')
  have hb8:Below w2.heap.size w2 (w7.setCells w2.heap.size 0 (xcells X')):=below_sets HLE.out _ _ _ HB7.out
  obtain ⟨w8,hw8⟩:∃ w8,w8=w7.setCells w2.heap.size 0 (xcells X'):=⟨_,rfl⟩
  rw [← hw8] at H8 hb8 ⊢
  refine HK.out.out _ _ (HS.out _ hb8) (fun hHeld=>?_)
  try simp only [Act.put,List.getElem_toArray,List.getElem_cons_succ,List.getElem_cons_zero,List.setIfInBounds_toArray,List.set_cons_zero,List.set_cons_succ]
  clear HK Kc hw8 hb8 H7 HB7
  refine wpAnyH_takes (by kernel_rfl) (fun _ _ _ _ _ h=>h) hHeld [14] [(10,.int .i64 an)] 1 _ _ rfl (by kernel_rfl) ?_ ?_
  ·
   refine tkI rfl rfl (by rfl) ?_ <| tkN
   all_goals (intro W hSw;clear hHeld hSw;go_simp)
  simp only [putsL,listedL,Act.put,List.setIfInBounds_toArray,List.set_cons_zero,List.set_cons_succ]
  refine wpAnyH_done (by kernel_rfl) ?_ _
  clear hHeld
  have HRB:Hid (w8.rangeAt w2.heap.size 0 (xcells X')):=Lib.hid (XBlk.range (b:=w2.heap.size) (H8.out.keep _ List.mem_cons_self).2.2.2)
  obtain ⟨tb,htb⟩:∃ tb,tb=w2.heap.size:=⟨_,rfl⟩
  rw [← htb] at H8 HRB ⊢
  clear htb HLE HNE
  go_upto_region 20 with (first
   | (refine wpList_load_mid rfl 38 (.tmp 9) rfl tb 0 rfl (xcells X') _ HRB.out Tryz.underlying38 rfl (xinf X') ?_)
   | (refine wpList_store_mid rfl 38 (.tmp 79) (.tmp 77) rfl p 1 (xcells X').toArray rfl rfl (H8.out.there X') (xinfA X') (xcells_one X') ?_;obtain ⟨w9,hw9⟩:∃ w9,w9=w8.setCells p 1 (xcells X'):=⟨_,rfl⟩;rw [List.toList_toArray,← hw9]))
  have H9:=Lib.hid H8.out.store
  rw [← hw9] at H9
  clear hw9 H8 HRB
  go_wp2_with fail
  go_ret
  exact ⟨rfl,S',X',Lib.hid ⟨H9.out.less,HG.out.1,HG.out.2⟩⟩
set_option maxRecDepth 100000 in
set_option maxHeartbeats 64000000 in
theorem do_nice (r0:RH w0 w p h S S X X K []) (H:HGood S) (hK:K+10000≤1000000000000000) (d:Dh) (hd:d.num) (hk:d.kind=5) :
  Calls Tryz.prog 7 #[.pointer (some ⟨p,0,none⟩),.agg d.cells.toArray] w fun r w'=>r=.returned (.bool true)∧∃ S' X',Hid (RH w0 w' p h S' S' X' X' (K+10000) []∧HGood S'∧S'.gran=S.gran):=by
 obtain ⟨kd,da,db,⟨ei,ew,ev,er⟩,dn,di⟩:=d
 obtain rfl:kd=5:=hk
 obtain ⟨w1,hw1⟩:∃ w1,w1=w.alloc (.cells #[.int .i64 5,.int .i64 da,.int .i64 db,.int .i64 ei,.int .u64 ew,.int .i64 ev,.int .u64 er,.int .u64 dn,.bool di] 44):=⟨_,rfl⟩
 have hR1:RH w0 w1 p h S S X X K [(w.heap.size,some (Obj.cells #[.int .i64 5,.int .i64 da,.int .i64 db,.int .i64 ei,.int .u64 ew,.int .i64 ev,.int .u64 er,.int .u64 dn,.bool di] 44 (0,0)))]:=by rw [hw1];exact r0.alloc _
 have hB1:Blk w1 w.heap.size #[.int .i64 5,.int .i64 da,.int .i64 db,.int .i64 ei,.int .u64 ew,.int .i64 ev,.int .u64 er,.int .u64 dn,.bool di] 44:=(hR1.keep _ List.mem_cons_self).2.2.2
 obtain ⟨x0,x1,x2,x3,x4,x5,x6,x7,x8⟩:=deed9 hB1
 have cp:=hR1.ptr
 have HR1:=Lib.hid hR1
 have HW1:=Lib.hid hw1
 have HG0:=Lib.hid (And.intro H True.intro)
 have HDN:=Lib.hid hd
 clear hR1 hB1 r0 H hd
 show Calls Tryz.prog _ #[.pointer (some ⟨p,0,none⟩),.agg #[.int .i64 5,.int .i64 da,.int .i64 db,.int .i64 ei,.int .u64 ew,.int .i64 ev,.int .u64 er,.int .u64 dn,.bool di]] w _
 go_enter Tryz.func7,Tryz.ntmps7
 go_upto_region 1 with (fail)
 rw [← hw1]
 clear hw1
 obtain ⟨an,S',hG,hgr,MG,MD0⟩:=two_nice HG0.out.1 hK da ei HDN.out.e.w2
 have MG1:=Lib.hid ((HR1.out.below (Below.refl _ _).drew).go (fun F a=>MG _ h F a))
 have MD:=Lib.hid MD0
 have HG:=Lib.hid (And.intro hG hgr)
 clear hG hgr MG MD0
 go_wp2_with fail
 clear x0 x1 x2 x3 x4 x5 x6 x7 x8 cp
 have HS:Hid (∀ (W:World) (S1:HS) (K1:Int),RH w0 W p h S1 S X X K1 [(w.heap.size,some (Obj.cells #[.int .i64 5,.int .i64 da,.int .i64 db,.int .i64 ei,.int .u64 ew,.int .i64 ev,.int .u64 er,.int .u64 dn,.bool di] 44 (0,0)))]→(fun W=>W.cell? ⟨p,0,none⟩=some (.pointer (some ⟨h,0,none⟩))∧W.cell? ⟨w.heap.size,1,none⟩=some (.int .i64 da)∧W.cell? ⟨w.heap.size,3,none⟩=some (.int .i64 ei)∧W.cell? ⟨w.heap.size,4,none⟩=some (.int .u64 ew)) W):=Lib.hid fun W S1 K1 h3=>by
  have h4:Blk W w.heap.size #[.int .i64 5,.int .i64 da,.int .i64 db,.int .i64 ei,.int .u64 ew,.int .i64 ev,.int .u64 er,.int .u64 dn,.bool di] 44:=(h3.keep _ List.mem_cons_self).2.2.2
  exact ⟨h3.ptr,Blk.cell h4 1,Blk.cell h4 3,Blk.cell h4 4⟩
 refine wp_region_held_drew (S:=fun W=>W.cell? ⟨p,0,none⟩=some (.pointer (some ⟨h,0,none⟩))∧W.cell? ⟨w.heap.size,1,none⟩=some (.int .i64 da)∧W.cell? ⟨w.heap.size,3,none⟩=some (.int .i64 ei)∧W.cell? ⟨w.heap.size,4,none⟩=some (.int .u64 ew)) (by kernel_rfl) (HS.out _ _ _ (HR1.out.below (Below.refl _ _).drew)) (fun hHeld=>?_)
 refine wpAnyH_takes (by kernel_rfl) (fun _ _ _ _ _ h=>h) hHeld [0,1,2,3,4,5,6,7,8,9,10,11] [(124,.pointer (some ⟨p,0,none⟩)),(125,.pointer (some ⟨p,0,none⟩)),(126,.pointer (some ⟨p,0,none⟩)),(127,.pointer (some ⟨h,0,none⟩)),(128,.pointer (some ⟨w.heap.size,1,none⟩)),(129,.int .i64 da),(130,.pointer (some ⟨w.heap.size,3,none⟩)),(131,.pointer (some ⟨w.heap.size,3,none⟩)),(132,.int .i64 ei),(133,.pointer (some ⟨w.heap.size,3,none⟩)),(134,.pointer (some ⟨w.heap.size,4,none⟩)),(135,.int .u64 ew)] 12 _ _ rfl (by kernel_rfl) ?_ ?_
 ·
  refine tkI rfl rfl (by rfl) ?_ <| tkI rfl rfl (by rfl) ?_ <| tkI rfl rfl (by rfl) ?_ <| tkI rfl rfl (by rfl) ?_ <| tkI rfl rfl (by rfl) ?_ <| tkI rfl rfl (by rfl) ?_ <| tkI rfl rfl (by rfl) ?_ <| tkI rfl rfl (by rfl) ?_ <| tkI rfl rfl (by rfl) ?_ <| tkI rfl rfl (by rfl) ?_ <| tkI rfl rfl (by rfl) ?_ <| tkI rfl rfl (by rfl) ?_ <| tkN
  all_goals (intro W hSw;obtain ⟨kp,k0,k1,k2⟩:=hSw;clear hHeld;go_simp)
 simp only [putsL,listedL,Act.put,List.setIfInBounds_toArray,List.set_cons_zero,List.set_cons_succ]
 refine wpAnyH_ready (rs:=[12]) (by kernel_rfl) (by simp) ?_
 refine AllReadyH.cons rfl (fun Kc hK=>?_) AllReadyH.nil
 have HK:=Lib.hid hK
 clear hK hHeld
 go_simp
 refine MG1.out.mono ?_
 rintro r w2 ⟨rfl,H2⟩
 refine HK.out.out _ _ (HS.out _ _ _ H2.out) (fun hHeld=>?_)
 try simp only [Act.put,List.getElem_toArray,List.getElem_cons_succ,List.getElem_cons_zero,List.setIfInBounds_toArray,List.set_cons_zero,List.set_cons_succ]
 clear HK Kc MG1
 refine wpAnyH_takes (by kernel_rfl) (fun _ _ _ _ _ h=>h) hHeld [13] [(5,.int .i64 an)] 1 _ _ rfl (by kernel_rfl) ?_ ?_
 ·
  refine tkI rfl rfl (by rfl) ?_ <| tkN
  all_goals (intro W hSw;obtain ⟨kp,k0,k1,k2⟩:=hSw;clear hHeld;go_simp)
 simp only [putsL,listedL,Act.put,List.setIfInBounds_toArray,List.set_cons_zero,List.set_cons_succ]
 refine wpAnyH_done (by kernel_rfl) ?_ _
 clear hHeld HS
 go_wp2_with fail
 have HS:Hid (∀ W,Below w2.heap.size w2 W→(fun W=>Below w2.heap.size w2 W∧W.rangeAt p 1 (xcells X)∧W.cell? ⟨w.heap.size,1,none⟩=some (.int .i64 da)∧W.cell? ⟨w.heap.size,3,none⟩=some (.int .i64 ei)∧W.cell? ⟨w.heap.size,4,none⟩=some (.int .u64 ew)) W):=Lib.hid fun W hW=>by
  have h3:=H2.out.below hW
  have h4:Blk W w.heap.size #[.int .i64 5,.int .i64 da,.int .i64 db,.int .i64 ei,.int .u64 ew,.int .i64 ev,.int .u64 er,.int .u64 dn,.bool di] 44:=(h3.keep _ List.mem_cons_self).2.2.2
  exact ⟨hW,h3.range,Blk.cell h4 1,Blk.cell h4 3,Blk.cell h4 4⟩
 refine wp_region_held_drew (S:=fun W=>Below w2.heap.size w2 W∧W.rangeAt p 1 (xcells X)∧W.cell? ⟨w.heap.size,1,none⟩=some (.int .i64 da)∧W.cell? ⟨w.heap.size,3,none⟩=some (.int .i64 ei)∧W.cell? ⟨w.heap.size,4,none⟩=some (.int .u64 ew)) (by kernel_rfl) (HS.out _ (Below.refl _ _).drew) (fun hHeld=>?_)
 refine wpAnyH_takes (by kernel_rfl) (fun _ _ _ _ _ h=>h) hHeld [0,1,2,3,4,5,6,7,8,9,10,11] [(138,.pointer (some ⟨p,0,none⟩)),(139,.pointer (some ⟨p,0,none⟩)),(140,.pointer (some ⟨p,1,none⟩)),(141,.agg (xcells X).toArray),(142,.pointer (some ⟨w.heap.size,1,none⟩)),(143,.int .i64 da),(144,.pointer (some ⟨w.heap.size,3,none⟩)),(145,.pointer (some ⟨w.heap.size,3,none⟩)),(146,.int .i64 ei),(147,.pointer (some ⟨w.heap.size,3,none⟩)),(148,.pointer (some ⟨w.heap.size,4,none⟩)),(149,.int .u64 ew)] 12 _ _ rfl (by kernel_rfl) ?_ ?_
 ·
  refine tkI rfl rfl (by rfl) ?_ <| tkI rfl rfl (by rfl) ?_ <| tkI rfl rfl (by rfl) ?_ <| tkY rfl rfl (yieldsIf_load_mid ?_ _ _ rfl p 1 ?_ (xcells X) _ (fun W h=>h.2.1) Tryz.underlying38 rfl (xinf X)) <| tkI rfl rfl (by rfl) ?_ <| tkI rfl rfl (by rfl) ?_ <| tkI rfl rfl (by rfl) ?_ <| tkI rfl rfl (by rfl) ?_ <| tkI rfl rfl (by rfl) ?_ <| tkI rfl rfl (by rfl) ?_ <| tkI rfl rfl (by rfl) ?_ <| tkI rfl rfl (by rfl) ?_ <| tkN
  all_goals first | (intro W hSw;obtain ⟨-,-,k0,k1,k2⟩:=hSw;clear hHeld;go_simp) | go_simp
 simp only [putsL,listedL,Act.put,List.setIfInBounds_toArray,List.set_cons_zero,List.set_cons_succ]
 refine wpAnyH_ready (rs:=[12,16]) (by kernel_rfl) (by simp) ?_
 refine AllReadyH.cons rfl (fun Kc hK=>?_) (AllReadyH.cons rfl (fun Kc hK=>?_) AllReadyH.nil)
 ·
  have HK:=Lib.hid hK
  clear hK hHeld
  go_simp
  refine (MD.out _ _ (H2.out.below (Below.refl _ _).drew).at_).mono ?_
  rintro r w5 ⟨X',rfl,H5⟩
  have HB5:=Lib.hid ((Below.refl w2.heap.size w2).drew.trans H5.out.bel)
  have H6:=Lib.hid ((H2.out.below (Below.refl _ _).drew).doc H5.out)
  clear H5
  refine HK.out.out _ _ (HS.out _ HB5.out) (fun hHeld=>?_)
  try simp only [Act.put,List.getElem_toArray,List.getElem_cons_succ,List.getElem_cons_zero,List.setIfInBounds_toArray,List.set_cons_zero,List.set_cons_succ]
  clear HK Kc
  refine wpAnyH_takes (by kernel_rfl) (fun _ _ _ _ _ h=>h) hHeld [13,14,15] [(137,.tuple #[xV X',.int .i64 an]),(151,xV X'),(152,.int .i64 an)] 3 _ _ rfl (by kernel_rfl) ?_ ?_
  ·
   refine tkI rfl rfl (by rfl) ?_ <| tkI rfl rfl (by rfl) ?_ <| tkI rfl rfl (by rfl) ?_ <| tkN
   all_goals (intro W hSw;clear hHeld hSw;go_simp)
  simp only [putsL,listedL,Act.put,List.setIfInBounds_toArray,List.set_cons_zero,List.set_cons_succ]
  refine wpAnyH_ready (rs:=[16]) (by kernel_rfl) (by simp) ?_
  refine AllReadyH.cons rfl (fun Kc hK=>?_) AllReadyH.nil
  have HK:=Lib.hid hK
  clear hK hHeld
  go_simp
  have HB7:=Lib.hid (HB5.out.alloc HB5.out.size (.cells Tryz.zeroCells38 38))
  have H7:=Lib.hid (H6.out.alloc (.cells Tryz.zeroCells38 38))
  have HLE:=Lib.hid HB5.out.size
  have HNE:Hid (∀ z,z ∈ [(w.heap.size,some (Obj.cells #[.int .i64 5,.int .i64 da,.int .i64 db,.int .i64 ei,.int .u64 ew,.int .i64 ev,.int .u64 er,.int .u64 dn,.bool di] 44 (0,0)))]→z.1≠w5.heap.size):=Lib.hid fun z hz=>by
   have:=(H6.out.keep z hz).2.1
   omega
  obtain ⟨w7,hw7⟩:∃ w7,w7=w5.alloc (.cells Tryz.zeroCells38 38):=⟨_,rfl⟩
  rw [← hw7] at HB7 H7 ⊢
  refine HK.out.out _ _ (HS.out _ HB7.out) (fun hHeld=>?_)
  try simp only [Act.put,List.getElem_toArray,List.getElem_cons_succ,List.getElem_cons_zero,List.setIfInBounds_toArray,List.set_cons_zero,List.set_cons_succ]
  clear HK Kc hw7 HB5 H6
  refine wpAnyH_ready (rs:=[17]) (by kernel_rfl) (by simp) ?_
  refine AllReadyH.cons rfl (fun Kc hK=>?_) AllReadyH.nil
  have HK:=Lib.hid hK
  clear hK hHeld
  rw [if_pos (by rfl)]
  refine wp_store_mid _ _ _ rfl w5.heap.size 0 (xcells X').toArray rfl rfl (H7.out.room Tryz.zeroCells38_size (H7.out.keep _ List.mem_cons_self).2.2.2 X') (xinfA X') (xcells_one X') ?_
  rw [List.toList_toArray]
  have H8:=Lib.hid (RH.lay Tryz.zeroCells38_size H7.out HNE.out X')
  have hb8:Below w2.heap.size w2 (w7.setCells w5.heap.size 0 (xcells X')):=below_sets HLE.out _ _ _ HB7.out
  obtain ⟨w8,hw8⟩:∃ w8,w8=w7.setCells w5.heap.size 0 (xcells X'):=⟨_,rfl⟩
  rw [← hw8] at H8 hb8 ⊢
  refine HK.out.out _ _ (HS.out _ hb8) (fun hHeld=>?_)
  try simp only [Act.put,List.getElem_toArray,List.getElem_cons_succ,List.getElem_cons_zero,List.setIfInBounds_toArray,List.set_cons_zero,List.set_cons_succ]
  clear HK Kc hw8 hb8 H7 HB7
  refine wpAnyH_takes (by kernel_rfl) (fun _ _ _ _ _ h=>h) hHeld [18] [(17,.int .i64 an)] 1 _ _ rfl (by kernel_rfl) ?_ ?_
  ·
   refine tkI rfl rfl (by rfl) ?_ <| tkN
   all_goals (intro W hSw;clear hHeld hSw;go_simp)
  simp only [putsL,listedL,Act.put,List.setIfInBounds_toArray,List.set_cons_zero,List.set_cons_succ]
  refine wpAnyH_done (by kernel_rfl) ?_ _
  clear hHeld
  have HRB:Hid (w8.rangeAt w5.heap.size 0 (xcells X')):=Lib.hid (XBlk.range (b:=w5.heap.size) (H8.out.keep _ List.mem_cons_self).2.2.2)
  obtain ⟨tb,htb⟩:∃ tb,tb=w5.heap.size:=⟨_,rfl⟩
  rw [← htb] at H8 HRB ⊢
  clear htb HLE HNE
  go_upto_region 30 with (first
   | (refine wpList_load_mid rfl 38 (.tmp 16) rfl tb 0 rfl (xcells X') _ HRB.out Tryz.underlying38 rfl (xinf X') ?_)
   | (refine wpList_store_mid rfl 38 (.tmp 156) (.tmp 154) rfl p 1 (xcells X').toArray rfl rfl (H8.out.there X') (xinfA X') (xcells_one X') ?_;obtain ⟨w9,hw9⟩:∃ w9,w9=w8.setCells p 1 (xcells X'):=⟨_,rfl⟩;rw [List.toList_toArray,← hw9]))
  have H9:=Lib.hid H8.out.store
  rw [← hw9] at H9
  clear hw9 H8 HRB
  go_wp2_with fail
  go_ret
  exact ⟨rfl,S',X',Lib.hid ⟨H9.out.less,HG.out.1,HG.out.2⟩⟩
 ·
  have HK:=Lib.hid hK
  clear hK hHeld
  go_simp
  have HB5:=Lib.hid ((Below.refl w2.heap.size w2).alloc (Nat.le_refl _) (.cells Tryz.zeroCells38 38)).drew
  have H6:=Lib.hid ((H2.out.alloc (.cells Tryz.zeroCells38 38)).below (Below.refl _ _).drew)
  have HNE:Hid (∀ z,z ∈ [(w.heap.size,some (Obj.cells #[.int .i64 5,.int .i64 da,.int .i64 db,.int .i64 ei,.int .u64 ew,.int .i64 ev,.int .u64 er,.int .u64 dn,.bool di] 44 (0,0)))]→z.1≠w2.heap.size):=Lib.hid fun z hz=>by
   have:=(H2.out.keep z hz).2.1
   omega
  obtain ⟨w5,hw5⟩:∃ w5,w5=(w2.alloc (.cells Tryz.zeroCells38 38)).drew:=⟨_,rfl⟩
  have H6':Hid (RH w0 w5 p h S' S X X (K+10000) ((w2.heap.size,some (Obj.cells Tryz.zeroCells38 38 (0,0)))::[(w.heap.size,some (Obj.cells #[.int .i64 5,.int .i64 da,.int .i64 db,.int .i64 ei,.int .u64 ew,.int .i64 ev,.int .u64 er,.int .u64 dn,.bool di] 44 (0,0)))])):=by rw [hw5];exact H6
  rw [← hw5] at HB5 ⊢
  refine HK.out.out _ _ (HS.out _ HB5.out) (fun hHeld=>?_)
  try simp only [Act.put,List.getElem_toArray,List.getElem_cons_succ,List.getElem_cons_zero,List.setIfInBounds_toArray,List.set_cons_zero,List.set_cons_succ]
  clear HK Kc hw5 H6
  refine wpAnyH_ready (rs:=[12]) (by kernel_rfl) (by simp) ?_
  refine AllReadyH.cons rfl (fun Kc hK=>?_) AllReadyH.nil
  have HK:=Lib.hid hK
  clear hK hHeld
  go_simp
  refine (MD.out _ _ H6'.out.at_).mono ?_
  rintro r w7 ⟨X',rfl,H5⟩
  have HB7:=Lib.hid (HB5.out.trans (H5.out.bel.mono HB5.out.size))
  have H7:=Lib.hid (H6'.out.doc H5.out)
  have HLE:=Lib.hid (Nat.le_refl w2.heap.size)
  clear H5
  refine HK.out.out _ _ (HS.out _ HB7.out) (fun hHeld=>?_)
  try simp only [Act.put,List.getElem_toArray,List.getElem_cons_succ,List.getElem_cons_zero,List.setIfInBounds_toArray,List.set_cons_zero,List.set_cons_succ]
  clear HK Kc H6' HB5
  refine wpAnyH_takes (by kernel_rfl) (fun _ _ _ _ _ h=>h) hHeld [13,14,15] [(137,.tuple #[xV X',.int .i64 an]),(151,xV X'),(152,.int .i64 an)] 3 _ _ rfl (by kernel_rfl) ?_ ?_
  ·
   refine tkI rfl rfl (by rfl) ?_ <| tkI rfl rfl (by rfl) ?_ <| tkI rfl rfl (by rfl) ?_ <| tkN
   all_goals (intro W hSw;clear hHeld hSw;go_simp)
  simp only [putsL,listedL,Act.put,List.setIfInBounds_toArray,List.set_cons_zero,List.set_cons_succ]
  refine wpAnyH_ready (rs:=[17]) (by kernel_rfl) (by simp) ?_
  refine AllReadyH.cons rfl (fun Kc hK=>?_) AllReadyH.nil
  have HK:=Lib.hid hK
  clear hK hHeld
  rw [if_pos (by rfl)]
  refine wp_store_mid _ _ _ rfl w2.heap.size 0 (xcells X').toArray rfl rfl (H7.out.room Tryz.zeroCells38_size (H7.out.keep _ List.mem_cons_self).2.2.2 X') (xinfA X') (xcells_one X') ?_
  rw [List.toList_toArray]
  have H8:=Lib.hid (RH.lay Tryz.zeroCells38_size H7.out HNE.out X')
  have hb8:Below w2.heap.size w2 (w7.setCells w2.heap.size 0 (xcells X')):=below_sets HLE.out _ _ _ HB7.out
  obtain ⟨w8,hw8⟩:∃ w8,w8=w7.setCells w2.heap.size 0 (xcells X'):=⟨_,rfl⟩
  rw [← hw8] at H8 hb8 ⊢
  refine HK.out.out _ _ (HS.out _ hb8) (fun hHeld=>?_)
  try simp only [Act.put,List.getElem_toArray,List.getElem_cons_succ,List.getElem_cons_zero,List.setIfInBounds_toArray,List.set_cons_zero,List.set_cons_succ]
  clear HK Kc hw8 hb8 H7 HB7
  refine wpAnyH_takes (by kernel_rfl) (fun _ _ _ _ _ h=>h) hHeld [18] [(17,.int .i64 an)] 1 _ _ rfl (by kernel_rfl) ?_ ?_
  ·
   refine tkI rfl rfl (by rfl) ?_ <| tkN
   all_goals (intro W hSw;clear hHeld hSw;go_simp)
  simp only [putsL,listedL,Act.put,List.setIfInBounds_toArray,List.set_cons_zero,List.set_cons_succ]
  refine wpAnyH_done (by kernel_rfl) ?_ _
  clear hHeld
  have HRB:Hid (w8.rangeAt w2.heap.size 0 (xcells X')):=Lib.hid (XBlk.range (b:=w2.heap.size) (H8.out.keep _ List.mem_cons_self).2.2.2)
  obtain ⟨tb,htb⟩:∃ tb,tb=w2.heap.size:=⟨_,rfl⟩
  rw [← htb] at H8 HRB ⊢
  clear htb HLE HNE
  go_upto_region 30 with (first
   | (refine wpList_load_mid rfl 38 (.tmp 16) rfl tb 0 rfl (xcells X') _ HRB.out Tryz.underlying38 rfl (xinf X') ?_)
   | (refine wpList_store_mid rfl 38 (.tmp 156) (.tmp 154) rfl p 1 (xcells X').toArray rfl rfl (H8.out.there X') (xinfA X') (xcells_one X') ?_;obtain ⟨w9,hw9⟩:∃ w9,w9=w8.setCells p 1 (xcells X'):=⟨_,rfl⟩;rw [List.toList_toArray,← hw9]))
  have H9:=Lib.hid H8.out.store
  rw [← hw9] at H9
  clear hw9 H8 HRB
  go_wp2_with fail
  go_ret
  exact ⟨rfl,S',X',Lib.hid ⟨H9.out.less,HG.out.1,HG.out.2⟩⟩
set_option maxRecDepth 100000 in
set_option maxHeartbeats 64000000 in
theorem do_charge (r0:RH w0 w p h S S X X K []) (H:HGood S) (hK:K+10000≤1000000000000000) (d:Dh) (hd:d.num) (hk:d.kind=8) :
  Calls Tryz.prog 7 #[.pointer (some ⟨p,0,none⟩),.agg d.cells.toArray] w fun r w'=>r=.returned (.bool true)∧∃ S' X',Hid (RH w0 w' p h S' S' X' X' (K+10000) []∧HGood S'∧S'.gran=S.gran):=by
 obtain ⟨kd,da,db,⟨ei,ew,ev,er⟩,dn,di⟩:=d
 obtain rfl:kd=8:=hk
 obtain ⟨w1,hw1⟩:∃ w1,w1=w.alloc (.cells #[.int .i64 8,.int .i64 da,.int .i64 db,.int .i64 ei,.int .u64 ew,.int .i64 ev,.int .u64 er,.int .u64 dn,.bool di] 44):=⟨_,rfl⟩
 have hR1:RH w0 w1 p h S S X X K [(w.heap.size,some (Obj.cells #[.int .i64 8,.int .i64 da,.int .i64 db,.int .i64 ei,.int .u64 ew,.int .i64 ev,.int .u64 er,.int .u64 dn,.bool di] 44 (0,0)))]:=by rw [hw1];exact r0.alloc _
 have hB1:Blk w1 w.heap.size #[.int .i64 8,.int .i64 da,.int .i64 db,.int .i64 ei,.int .u64 ew,.int .i64 ev,.int .u64 er,.int .u64 dn,.bool di] 44:=(hR1.keep _ List.mem_cons_self).2.2.2
 obtain ⟨x0,x1,x2,x3,x4,x5,x6,x7,x8⟩:=deed9 hB1
 have cp:=hR1.ptr
 have HR1:=Lib.hid hR1
 have HW1:=Lib.hid hw1
 have HG0:=Lib.hid (And.intro H True.intro)
 have HDN:=Lib.hid hd
 clear hR1 hB1 r0 H hd
 show Calls Tryz.prog _ #[.pointer (some ⟨p,0,none⟩),.agg #[.int .i64 8,.int .i64 da,.int .i64 db,.int .i64 ei,.int .u64 ew,.int .i64 ev,.int .u64 er,.int .u64 dn,.bool di]] w _
 go_enter Tryz.func7,Tryz.ntmps7
 go_upto_region 1 with (fail)
 rw [← hw1]
 clear hw1
 obtain ⟨an,S',hG,hgr,MG,MD0⟩:=two_charge HG0.out.1 hK HDN.out.n
 have MG1:=Lib.hid ((HR1.out.below (Below.refl _ _).drew).go (fun F a=>MG _ h F a))
 have MD:=Lib.hid MD0
 have HG:=Lib.hid (And.intro hG hgr)
 clear hG hgr MG MD0
 go_wp2_with fail
 clear x0 x1 x2 x3 x4 x5 x6 x7 x8 cp
 have HS:Hid (∀ (W:World) (S1:HS) (K1:Int),RH w0 W p h S1 S X X K1 [(w.heap.size,some (Obj.cells #[.int .i64 8,.int .i64 da,.int .i64 db,.int .i64 ei,.int .u64 ew,.int .i64 ev,.int .u64 er,.int .u64 dn,.bool di] 44 (0,0)))]→(fun W=>W.cell? ⟨p,0,none⟩=some (.pointer (some ⟨h,0,none⟩))∧W.cell? ⟨w.heap.size,7,none⟩=some (.int .u64 dn)) W):=Lib.hid fun W S1 K1 h3=>by
  have h4:Blk W w.heap.size #[.int .i64 8,.int .i64 da,.int .i64 db,.int .i64 ei,.int .u64 ew,.int .i64 ev,.int .u64 er,.int .u64 dn,.bool di] 44:=(h3.keep _ List.mem_cons_self).2.2.2
  exact ⟨h3.ptr,Blk.cell h4 7⟩
 refine wp_region_held_drew (S:=fun W=>W.cell? ⟨p,0,none⟩=some (.pointer (some ⟨h,0,none⟩))∧W.cell? ⟨w.heap.size,7,none⟩=some (.int .u64 dn)) (by kernel_rfl) (HS.out _ _ _ (HR1.out.below (Below.refl _ _).drew)) (fun hHeld=>?_)
 refine wpAnyH_takes (by kernel_rfl) (fun _ _ _ _ _ h=>h) hHeld [0,1,2,3,4,5] [(160,.pointer (some ⟨p,0,none⟩)),(161,.pointer (some ⟨p,0,none⟩)),(162,.pointer (some ⟨p,0,none⟩)),(163,.pointer (some ⟨h,0,none⟩)),(164,.pointer (some ⟨w.heap.size,7,none⟩)),(165,.int .u64 dn)] 6 _ _ rfl (by kernel_rfl) ?_ ?_
 ·
  refine tkI rfl rfl (by rfl) ?_ <| tkI rfl rfl (by rfl) ?_ <| tkI rfl rfl (by rfl) ?_ <| tkI rfl rfl (by rfl) ?_ <| tkI rfl rfl (by rfl) ?_ <| tkI rfl rfl (by rfl) ?_ <| tkN
  all_goals (intro W hSw;obtain ⟨kp,k0⟩:=hSw;clear hHeld;go_simp)
 simp only [putsL,listedL,Act.put,List.setIfInBounds_toArray,List.set_cons_zero,List.set_cons_succ]
 refine wpAnyH_ready (rs:=[6]) (by kernel_rfl) (by simp) ?_
 refine AllReadyH.cons rfl (fun Kc hK=>?_) AllReadyH.nil
 have HK:=Lib.hid hK
 clear hK hHeld
 go_simp
 refine MG1.out.mono ?_
 rintro r w2 ⟨rfl,H2⟩
 refine HK.out.out _ _ (HS.out _ _ _ H2.out) (fun hHeld=>?_)
 try simp only [Act.put,List.getElem_toArray,List.getElem_cons_succ,List.getElem_cons_zero,List.setIfInBounds_toArray,List.set_cons_zero,List.set_cons_succ]
 clear HK Kc MG1
 refine wpAnyH_takes (by kernel_rfl) (fun _ _ _ _ _ h=>h) hHeld [7] [(5,.int .i64 an)] 1 _ _ rfl (by kernel_rfl) ?_ ?_
 ·
  refine tkI rfl rfl (by rfl) ?_ <| tkN
  all_goals (intro W hSw;obtain ⟨kp,k0⟩:=hSw;clear hHeld;go_simp)
 simp only [putsL,listedL,Act.put,List.setIfInBounds_toArray,List.set_cons_zero,List.set_cons_succ]
 refine wpAnyH_done (by kernel_rfl) ?_ _
 clear hHeld HS
 go_wp2_with fail
 have HS:Hid (∀ W,Below w2.heap.size w2 W→(fun W=>Below w2.heap.size w2 W∧W.rangeAt p 1 (xcells X)∧W.cell? ⟨w.heap.size,7,none⟩=some (.int .u64 dn)) W):=Lib.hid fun W hW=>by
  have h3:=H2.out.below hW
  have h4:Blk W w.heap.size #[.int .i64 8,.int .i64 da,.int .i64 db,.int .i64 ei,.int .u64 ew,.int .i64 ev,.int .u64 er,.int .u64 dn,.bool di] 44:=(h3.keep _ List.mem_cons_self).2.2.2
  exact ⟨hW,h3.range,Blk.cell h4 7⟩
 refine wp_region_held_drew (S:=fun W=>Below w2.heap.size w2 W∧W.rangeAt p 1 (xcells X)∧W.cell? ⟨w.heap.size,7,none⟩=some (.int .u64 dn)) (by kernel_rfl) (HS.out _ (Below.refl _ _).drew) (fun hHeld=>?_)
 refine wpAnyH_takes (by kernel_rfl) (fun _ _ _ _ _ h=>h) hHeld [0,1,2,3,4,5] [(168,.pointer (some ⟨p,0,none⟩)),(169,.pointer (some ⟨p,0,none⟩)),(170,.pointer (some ⟨p,1,none⟩)),(171,.agg (xcells X).toArray),(172,.pointer (some ⟨w.heap.size,7,none⟩)),(173,.int .u64 dn)] 6 _ _ rfl (by kernel_rfl) ?_ ?_
 ·
  refine tkI rfl rfl (by rfl) ?_ <| tkI rfl rfl (by rfl) ?_ <| tkI rfl rfl (by rfl) ?_ <| tkY rfl rfl (yieldsIf_load_mid ?_ _ _ rfl p 1 ?_ (xcells X) _ (fun W h=>h.2.1) Tryz.underlying38 rfl (xinf X)) <| tkI rfl rfl (by rfl) ?_ <| tkI rfl rfl (by rfl) ?_ <| tkN
  all_goals first | (intro W hSw;obtain ⟨-,-,k0⟩:=hSw;clear hHeld;go_simp) | go_simp
 simp only [putsL,listedL,Act.put,List.setIfInBounds_toArray,List.set_cons_zero,List.set_cons_succ]
 refine wpAnyH_ready (rs:=[6,10]) (by kernel_rfl) (by simp) ?_
 refine AllReadyH.cons rfl (fun Kc hK=>?_) (AllReadyH.cons rfl (fun Kc hK=>?_) AllReadyH.nil)
 ·
  have HK:=Lib.hid hK
  clear hK hHeld
  go_simp
  refine (MD.out _ _ (H2.out.below (Below.refl _ _).drew).at_).mono ?_
  rintro r w5 ⟨X',rfl,H5⟩
  have HB5:=Lib.hid ((Below.refl w2.heap.size w2).drew.trans H5.out.bel)
  have H6:=Lib.hid ((H2.out.below (Below.refl _ _).drew).doc H5.out)
  clear H5
  refine HK.out.out _ _ (HS.out _ HB5.out) (fun hHeld=>?_)
  try simp only [Act.put,List.getElem_toArray,List.getElem_cons_succ,List.getElem_cons_zero,List.setIfInBounds_toArray,List.set_cons_zero,List.set_cons_succ]
  clear HK Kc
  refine wpAnyH_takes (by kernel_rfl) (fun _ _ _ _ _ h=>h) hHeld [7,8,9] [(167,.tuple #[xV X',.int .i64 an]),(175,xV X'),(176,.int .i64 an)] 3 _ _ rfl (by kernel_rfl) ?_ ?_
  ·
   refine tkI rfl rfl (by rfl) ?_ <| tkI rfl rfl (by rfl) ?_ <| tkI rfl rfl (by rfl) ?_ <| tkN
   all_goals (intro W hSw;clear hHeld hSw;go_simp)
  simp only [putsL,listedL,Act.put,List.setIfInBounds_toArray,List.set_cons_zero,List.set_cons_succ]
  refine wpAnyH_ready (rs:=[10]) (by kernel_rfl) (by simp) ?_
  refine AllReadyH.cons rfl (fun Kc hK=>?_) AllReadyH.nil
  have HK:=Lib.hid hK
  clear hK hHeld
  go_simp
  have HB7:=Lib.hid (HB5.out.alloc HB5.out.size (.cells Tryz.zeroCells38 38))
  have H7:=Lib.hid (H6.out.alloc (.cells Tryz.zeroCells38 38))
  have HLE:=Lib.hid HB5.out.size
  have HNE:Hid (∀ z,z ∈ [(w.heap.size,some (Obj.cells #[.int .i64 8,.int .i64 da,.int .i64 db,.int .i64 ei,.int .u64 ew,.int .i64 ev,.int .u64 er,.int .u64 dn,.bool di] 44 (0,0)))]→z.1≠w5.heap.size):=Lib.hid fun z hz=>by
   have:=(H6.out.keep z hz).2.1
   omega
  obtain ⟨w7,hw7⟩:∃ w7,w7=w5.alloc (.cells Tryz.zeroCells38 38):=⟨_,rfl⟩
  rw [← hw7] at HB7 H7 ⊢
  refine HK.out.out _ _ (HS.out _ HB7.out) (fun hHeld=>?_)
  try simp only [Act.put,List.getElem_toArray,List.getElem_cons_succ,List.getElem_cons_zero,List.setIfInBounds_toArray,List.set_cons_zero,List.set_cons_succ]
  clear HK Kc hw7 HB5 H6
  refine wpAnyH_ready (rs:=[11]) (by kernel_rfl) (by simp) ?_
  refine AllReadyH.cons rfl (fun Kc hK=>?_) AllReadyH.nil
  have HK:=Lib.hid hK
  clear hK hHeld
  rw [if_pos (by rfl)]
  refine wp_store_mid _ _ _ rfl w5.heap.size 0 (xcells X').toArray rfl rfl (H7.out.room Tryz.zeroCells38_size (H7.out.keep _ List.mem_cons_self).2.2.2 X') (xinfA X') (xcells_one X') ?_
  rw [List.toList_toArray]
  have H8:=Lib.hid (RH.lay Tryz.zeroCells38_size H7.out HNE.out X')
  have hb8:Below w2.heap.size w2 (w7.setCells w5.heap.size 0 (xcells X')):=below_sets HLE.out _ _ _ HB7.out
  obtain ⟨w8,hw8⟩:∃ w8,w8=w7.setCells w5.heap.size 0 (xcells X'):=⟨_,rfl⟩
  rw [← hw8] at H8 hb8 ⊢
  refine HK.out.out _ _ (HS.out _ hb8) (fun hHeld=>?_)
  try simp only [Act.put,List.getElem_toArray,List.getElem_cons_succ,List.getElem_cons_zero,List.setIfInBounds_toArray,List.set_cons_zero,List.set_cons_succ]
  clear HK Kc hw8 hb8 H7 HB7
  refine wpAnyH_takes (by kernel_rfl) (fun _ _ _ _ _ h=>h) hHeld [12] [(19,.int .i64 an)] 1 _ _ rfl (by kernel_rfl) ?_ ?_
  ·
   refine tkI rfl rfl (by rfl) ?_ <| tkN
   all_goals (intro W hSw;clear hHeld hSw;go_simp)
  simp only [putsL,listedL,Act.put,List.setIfInBounds_toArray,List.set_cons_zero,List.set_cons_succ]
  refine wpAnyH_done (by kernel_rfl) ?_ _
  clear hHeld
  have HRB:Hid (w8.rangeAt w5.heap.size 0 (xcells X')):=Lib.hid (XBlk.range (b:=w5.heap.size) (H8.out.keep _ List.mem_cons_self).2.2.2)
  obtain ⟨tb,htb⟩:∃ tb,tb=w5.heap.size:=⟨_,rfl⟩
  rw [← htb] at H8 HRB ⊢
  clear htb HLE HNE
  go_upto_region 35 with (first
   | (refine wpList_load_mid rfl 38 (.tmp 18) rfl tb 0 rfl (xcells X') _ HRB.out Tryz.underlying38 rfl (xinf X') ?_)
   | (refine wpList_store_mid rfl 38 (.tmp 180) (.tmp 178) rfl p 1 (xcells X').toArray rfl rfl (H8.out.there X') (xinfA X') (xcells_one X') ?_;obtain ⟨w9,hw9⟩:∃ w9,w9=w8.setCells p 1 (xcells X'):=⟨_,rfl⟩;rw [List.toList_toArray,← hw9]))
  have H9:=Lib.hid H8.out.store
  rw [← hw9] at H9
  clear hw9 H8 HRB
  go_wp2_with fail
  go_ret
  exact ⟨rfl,S',X',Lib.hid ⟨H9.out.less,HG.out.1,HG.out.2⟩⟩
 ·
  have HK:=Lib.hid hK
  clear hK hHeld
  go_simp
  have HB5:=Lib.hid ((Below.refl w2.heap.size w2).alloc (Nat.le_refl _) (.cells Tryz.zeroCells38 38)).drew
  have H6:=Lib.hid ((H2.out.alloc (.cells Tryz.zeroCells38 38)).below (Below.refl _ _).drew)
  have HNE:Hid (∀ z,z ∈ [(w.heap.size,some (Obj.cells #[.int .i64 8,.int .i64 da,.int .i64 db,.int .i64 ei,.int .u64 ew,.int .i64 ev,.int .u64 er,.int .u64 dn,.bool di] 44 (0,0)))]→z.1≠w2.heap.size):=Lib.hid fun z hz=>by
   have:=(H2.out.keep z hz).2.1
   omega
  obtain ⟨w5,hw5⟩:∃ w5,w5=(w2.alloc (.cells Tryz.zeroCells38 38)).drew:=⟨_,rfl⟩
  have H6':Hid (RH w0 w5 p h S' S X X (K+10000) ((w2.heap.size,some (Obj.cells Tryz.zeroCells38 38 (0,0)))::[(w.heap.size,some (Obj.cells #[.int .i64 8,.int .i64 da,.int .i64 db,.int .i64 ei,.int .u64 ew,.int .i64 ev,.int .u64 er,.int .u64 dn,.bool di] 44 (0,0)))])):=by rw [hw5];exact H6
  rw [← hw5] at HB5 ⊢
  refine HK.out.out _ _ (HS.out _ HB5.out) (fun hHeld=>?_)
  try simp only [Act.put,List.getElem_toArray,List.getElem_cons_succ,List.getElem_cons_zero,List.setIfInBounds_toArray,List.set_cons_zero,List.set_cons_succ]
  clear HK Kc hw5 H6
  refine wpAnyH_ready (rs:=[6]) (by kernel_rfl) (by simp) ?_
  refine AllReadyH.cons rfl (fun Kc hK=>?_) AllReadyH.nil
  have HK:=Lib.hid hK
  clear hK hHeld
  go_simp
  refine (MD.out _ _ H6'.out.at_).mono ?_
  rintro r w7 ⟨X',rfl,H5⟩
  have HB7:=Lib.hid (HB5.out.trans (H5.out.bel.mono HB5.out.size))
  have H7:=Lib.hid (H6'.out.doc H5.out)
  have HLE:=Lib.hid (Nat.le_refl w2.heap.size)
  clear H5
  refine HK.out.out _ _ (HS.out _ HB7.out) (fun hHeld=>?_)
  try simp only [Act.put,List.getElem_toArray,List.getElem_cons_succ,List.getElem_cons_zero,List.setIfInBounds_toArray,List.set_cons_zero,List.set_cons_succ]
  clear HK Kc H6' HB5
  refine wpAnyH_takes (by kernel_rfl) (fun _ _ _ _ _ h=>h) hHeld [7,8,9] [(167,.tuple #[xV X',.int .i64 an]),(175,xV X'),(176,.int .i64 an)] 3 _ _ rfl (by kernel_rfl) ?_ ?_
  ·
   refine tkI rfl rfl (by rfl) ?_ <| tkI rfl rfl (by rfl) ?_ <| tkI rfl rfl (by rfl) ?_ <| tkN
   all_goals (intro W hSw;clear hHeld hSw;go_simp)
  simp only [putsL,listedL,Act.put,List.setIfInBounds_toArray,List.set_cons_zero,List.set_cons_succ]
  refine wpAnyH_ready (rs:=[11]) (by kernel_rfl) (by simp) ?_
  refine AllReadyH.cons rfl (fun Kc hK=>?_) AllReadyH.nil
  have HK:=Lib.hid hK
  clear hK hHeld
  rw [if_pos (by rfl)]
  refine wp_store_mid _ _ _ rfl w2.heap.size 0 (xcells X').toArray rfl rfl (H7.out.room Tryz.zeroCells38_size (H7.out.keep _ List.mem_cons_self).2.2.2 X') (xinfA X') (xcells_one X') ?_
  rw [List.toList_toArray]
  have H8:=Lib.hid (RH.lay Tryz.zeroCells38_size H7.out HNE.out X')
  have hb8:Below w2.heap.size w2 (w7.setCells w2.heap.size 0 (xcells X')):=below_sets HLE.out _ _ _ HB7.out
  obtain ⟨w8,hw8⟩:∃ w8,w8=w7.setCells w2.heap.size 0 (xcells X'):=⟨_,rfl⟩
  rw [← hw8] at H8 hb8 ⊢
  refine HK.out.out _ _ (HS.out _ hb8) (fun hHeld=>?_)
  try simp only [Act.put,List.getElem_toArray,List.getElem_cons_succ,List.getElem_cons_zero,List.setIfInBounds_toArray,List.set_cons_zero,List.set_cons_succ]
  clear HK Kc hw8 hb8 H7 HB7
  refine wpAnyH_takes (by kernel_rfl) (fun _ _ _ _ _ h=>h) hHeld [12] [(19,.int .i64 an)] 1 _ _ rfl (by kernel_rfl) ?_ ?_
  ·
   refine tkI rfl rfl (by rfl) ?_ <| tkN
   all_goals (intro W hSw;clear hHeld hSw;go_simp)
  simp only [putsL,listedL,Act.put,List.setIfInBounds_toArray,List.set_cons_zero,List.set_cons_succ]
  refine wpAnyH_done (by kernel_rfl) ?_ _
  clear hHeld
  have HRB:Hid (w8.rangeAt w2.heap.size 0 (xcells X')):=Lib.hid (XBlk.range (b:=w2.heap.size) (H8.out.keep _ List.mem_cons_self).2.2.2)
  obtain ⟨tb,htb⟩:∃ tb,tb=w2.heap.size:=⟨_,rfl⟩
  rw [← htb] at H8 HRB ⊢
  clear htb HLE HNE
  go_upto_region 35 with (first
   | (refine wpList_load_mid rfl 38 (.tmp 18) rfl tb 0 rfl (xcells X') _ HRB.out Tryz.underlying38 rfl (xinf X') ?_)
   | (refine wpList_store_mid rfl 38 (.tmp 180) (.tmp 178) rfl p 1 (xcells X').toArray rfl rfl (H8.out.there X') (xinfA X') (xcells_one X') ?_;obtain ⟨w9,hw9⟩:∃ w9,w9=w8.setCells p 1 (xcells X'):=⟨_,rfl⟩;rw [List.toList_toArray,← hw9]))
  have H9:=Lib.hid H8.out.store
  rw [← hw9] at H9
  clear hw9 H8 HRB
  go_wp2_with fail
  go_ret
  exact ⟨rfl,S',X',Lib.hid ⟨H9.out.less,HG.out.1,HG.out.2⟩⟩
set_option maxRecDepth 100000 in
set_option maxHeartbeats 64000000 in
theorem do_yield (r0:RH w0 w p h S S X X K []) (H:HGood S) (hK:K+10000≤1000000000000000) (d:Dh) (hd:d.num) (g1:-9223372036854775808≤S.gran) (g2:S.gran≤9223372036854775807) (hk:d.kind=9) :
  Calls Tryz.prog 7 #[.pointer (some ⟨p,0,none⟩),.agg d.cells.toArray] w fun r w'=>r=.returned (.bool true)∧∃ S' X',Hid (RH w0 w' p h S' S' X' X' (K+10000) []∧HGood S'∧S'.gran=S.gran):=by
 obtain ⟨kd,da,db,⟨ei,ew,ev,er⟩,dn,di⟩:=d
 obtain rfl:kd=9:=hk
 obtain ⟨w1,hw1⟩:∃ w1,w1=w.alloc (.cells #[.int .i64 9,.int .i64 da,.int .i64 db,.int .i64 ei,.int .u64 ew,.int .i64 ev,.int .u64 er,.int .u64 dn,.bool di] 44):=⟨_,rfl⟩
 have hR1:RH w0 w1 p h S S X X K [(w.heap.size,some (Obj.cells #[.int .i64 9,.int .i64 da,.int .i64 db,.int .i64 ei,.int .u64 ew,.int .i64 ev,.int .u64 er,.int .u64 dn,.bool di] 44 (0,0)))]:=by rw [hw1];exact r0.alloc _
 have hB1:Blk w1 w.heap.size #[.int .i64 9,.int .i64 da,.int .i64 db,.int .i64 ei,.int .u64 ew,.int .i64 ev,.int .u64 er,.int .u64 dn,.bool di] 44:=(hR1.keep _ List.mem_cons_self).2.2.2
 obtain ⟨x0,x1,x2,x3,x4,x5,x6,x7,x8⟩:=deed9 hB1
 have cp:=hR1.ptr
 have HR1:=Lib.hid hR1
 have HW1:=Lib.hid hw1
 have HG0:=Lib.hid (And.intro H True.intro)
 have HDN:=Lib.hid hd
 clear hR1 hB1 r0 H hd
 show Calls Tryz.prog _ #[.pointer (some ⟨p,0,none⟩),.agg #[.int .i64 9,.int .i64 da,.int .i64 db,.int .i64 ei,.int .u64 ew,.int .i64 ev,.int .u64 er,.int .u64 dn,.bool di]] w _
 go_enter Tryz.func7,Tryz.ntmps7
 go_upto_region 1 with (fail)
 rw [← hw1]
 clear hw1
 obtain ⟨an,S',hG,hgr,MG,MD0⟩:=two_yield HG0.out.1 hK g1 g2
 have MG1:=Lib.hid (HR1.out.go (fun F a=>MG _ h F a))
 have MD:=Lib.hid MD0
 have HG:=Lib.hid (And.intro hG hgr)
 clear hG hgr MG MD0
 go_wp2_with fail
 refine MG1.out.mono ?_
 rintro r w2 ⟨rfl,H2⟩
 clear x0 x1 x2 x3 x4 x5 x6 x7 x8 cp MG1
 have HRG:=Lib.hid H2.out.range
 go_wp2_with (refine wpList_load_mid rfl 38 (.tmp 192) rfl p 1 rfl (xcells X) _ HRG.out Tryz.underlying38 rfl (xinf X) ?_)
 refine (MD.out _ _ H2.out.at_).mono ?_
 rintro r w5 ⟨X',rfl,H5⟩
 have H6:=Lib.hid (H2.out.doc H5.out)
 have H7:=Lib.hid (H6.out.alloc (.cells Tryz.zeroCells38 38))
 have HNE:Hid (∀ z,z ∈ [(w.heap.size,some (Obj.cells #[.int .i64 9,.int .i64 da,.int .i64 db,.int .i64 ei,.int .u64 ew,.int .i64 ev,.int .u64 er,.int .u64 dn,.bool di] 44 (0,0)))]→z.1≠w5.heap.size):=Lib.hid fun z hz=>by
  have:=(H6.out.keep z hz).2.1
  omega
 obtain ⟨tb,htb⟩:∃ tb,tb=w5.heap.size:=⟨_,rfl⟩
 rw [← htb] at H7 HNE
 have H8:=Lib.hid (RH.lay Tryz.zeroCells38_size H7.out HNE.out X')
 have HTH:=Lib.hid (H7.out.room Tryz.zeroCells38_size (H7.out.keep _ List.mem_cons_self).2.2.2 X')
 obtain ⟨w7,hw7⟩:∃ w7,w7=w5.alloc (.cells Tryz.zeroCells38 38):=⟨_,rfl⟩
 rw [← hw7] at H7 H8 HTH
 obtain ⟨w8,hw8⟩:∃ w8,w8=w7.setCells tb 0 (xcells X'):=⟨_,rfl⟩
 rw [← hw8] at H8
 have HRB:Hid (w8.rangeAt tb 0 (xcells X')):=Lib.hid (XBlk.range (b:=tb) (H8.out.keep _ List.mem_cons_self).2.2.2)
 have HW7:=Lib.hid hw7
 have HW8:=Lib.hid hw8
 have HTB:=Lib.hid htb
 clear hw7 hw8 htb H5 H6 HRG
 go_upto_region 39 with (refine wpList_store_mid rfl 38 (.tmp 20) (.tmp 195) rfl tb 0 (xcells X').toArray (by show Value.pointer (some ⟨w5.heap.size,0,none⟩)=_;rw [HTB.out]) rfl (by rw [← HW7.out];exact HTH.out) (xinfA X') (xcells_one X') ?_;rw [List.toList_toArray,← HW7.out,← HW8.out,← HTB.out])
 clear HW7 HW8 HTB H7 HTH HNE
 go_upto_region 40 with (first
  | (refine wpList_load_mid rfl 38 (.tmp 20) rfl tb 0 rfl (xcells X') _ HRB.out Tryz.underlying38 rfl (xinf X') ?_)
  | (refine wpList_store_mid rfl 38 (.tmp 200) (.tmp 198) rfl p 1 (xcells X').toArray rfl rfl (H8.out.there X') (xinfA X') (xcells_one X') ?_;obtain ⟨w9,hw9⟩:∃ w9,w9=w8.setCells p 1 (xcells X'):=⟨_,rfl⟩;rw [List.toList_toArray,← hw9]))
 have H9:=Lib.hid H8.out.store
 rw [← hw9] at H9
 clear hw9 H8 HRB
 go_wp2_with fail
 go_ret
 exact ⟨rfl,S',X',Lib.hid ⟨H9.out.less,HG.out.1,HG.out.2⟩⟩
set_option maxRecDepth 100000 in
set_option maxHeartbeats 64000000 in
theorem do_pick (r0:RH w0 w p h S S X X K []) (H:HGood S) (hK:K+10000≤1000000000000000) (d:Dh) (hd:d.num) (g1:-9223372036854775808≤S.gran) (g2:S.gran≤9223372036854775807) (hk:d.kind≠0∧d.kind≠1∧d.kind≠2∧d.kind≠6∧d.kind≠7∧d.kind≠3∧d.kind≠4∧d.kind≠5∧d.kind≠8∧d.kind≠9) :
  Calls Tryz.prog 7 #[.pointer (some ⟨p,0,none⟩),.agg d.cells.toArray] w fun r w'=>r=.returned (.bool true)∧∃ S' X',Hid (RH w0 w' p h S' S' X' X' (K+10000) []∧HGood S'∧S'.gran=S.gran):=by
 obtain ⟨kd,da,db,⟨ei,ew,ev,er⟩,dn,di⟩:=d
 dsimp only at hk
 have t0:(kd == 0)=false:=by rw [beq_eq_false_iff_ne];exact hk.1
 have u0:decide (kd=0)=false:=decide_eq_false hk.1
 have t1:(kd == 1)=false:=by rw [beq_eq_false_iff_ne];exact hk.2.1
 have u1:decide (kd=1)=false:=decide_eq_false hk.2.1
 have t2:(kd == 2)=false:=by rw [beq_eq_false_iff_ne];exact hk.2.2.1
 have u2:decide (kd=2)=false:=decide_eq_false hk.2.2.1
 have t6:(kd == 6)=false:=by rw [beq_eq_false_iff_ne];exact hk.2.2.2.1
 have u6:decide (kd=6)=false:=decide_eq_false hk.2.2.2.1
 have t7:(kd == 7)=false:=by rw [beq_eq_false_iff_ne];exact hk.2.2.2.2.1
 have u7:decide (kd=7)=false:=decide_eq_false hk.2.2.2.2.1
 have t3:(kd == 3)=false:=by rw [beq_eq_false_iff_ne];exact hk.2.2.2.2.2.1
 have u3:decide (kd=3)=false:=decide_eq_false hk.2.2.2.2.2.1
 have t4:(kd == 4)=false:=by rw [beq_eq_false_iff_ne];exact hk.2.2.2.2.2.2.1
 have u4:decide (kd=4)=false:=decide_eq_false hk.2.2.2.2.2.2.1
 have t5:(kd == 5)=false:=by rw [beq_eq_false_iff_ne];exact hk.2.2.2.2.2.2.2.1
 have u5:decide (kd=5)=false:=decide_eq_false hk.2.2.2.2.2.2.2.1
 have t8:(kd == 8)=false:=by rw [beq_eq_false_iff_ne];exact hk.2.2.2.2.2.2.2.2.1
 have u8:decide (kd=8)=false:=decide_eq_false hk.2.2.2.2.2.2.2.2.1
 have t9:(kd == 9)=false:=by rw [beq_eq_false_iff_ne];exact hk.2.2.2.2.2.2.2.2.2
 have u9:decide (kd=9)=false:=decide_eq_false hk.2.2.2.2.2.2.2.2.2
 clear hk
 obtain ⟨w1,hw1⟩:∃ w1,w1=w.alloc (.cells #[.int .i64 kd,.int .i64 da,.int .i64 db,.int .i64 ei,.int .u64 ew,.int .i64 ev,.int .u64 er,.int .u64 dn,.bool di] 44):=⟨_,rfl⟩
 have hR1:RH w0 w1 p h S S X X K [(w.heap.size,some (Obj.cells #[.int .i64 kd,.int .i64 da,.int .i64 db,.int .i64 ei,.int .u64 ew,.int .i64 ev,.int .u64 er,.int .u64 dn,.bool di] 44 (0,0)))]:=by rw [hw1];exact r0.alloc _
 have hB1:Blk w1 w.heap.size #[.int .i64 kd,.int .i64 da,.int .i64 db,.int .i64 ei,.int .u64 ew,.int .i64 ev,.int .u64 er,.int .u64 dn,.bool di] 44:=(hR1.keep _ List.mem_cons_self).2.2.2
 obtain ⟨x0,x1,x2,x3,x4,x5,x6,x7,x8⟩:=deed9 hB1
 have cp:=hR1.ptr
 have HR1:=Lib.hid hR1
 have HW1:=Lib.hid hw1
 have HG0:=Lib.hid (And.intro H True.intro)
 have HDN:=Lib.hid hd
 clear hR1 hB1 r0 H hd
 show Calls Tryz.prog _ #[.pointer (some ⟨p,0,none⟩),.agg #[.int .i64 kd,.int .i64 da,.int .i64 db,.int .i64 ei,.int .u64 ew,.int .i64 ev,.int .u64 er,.int .u64 dn,.bool di]] w _
 go_enter Tryz.func7,Tryz.ntmps7
 go_upto_region 1 with (fail)
 rw [← hw1]
 clear hw1
 obtain ⟨an,S',hG,hgr,MG,MD0⟩:=two_pick HG0.out.1 hK g1 g2
 have MG1:=Lib.hid (HR1.out.go (fun F a=>MG _ h F a))
 have MD:=Lib.hid MD0
 have HG:=Lib.hid (And.intro hG hgr)
 clear hG hgr MG MD0
 go_wp2_with fail
 refine MG1.out.mono ?_
 rintro r w2 ⟨rfl,H2⟩
 clear x0 x1 x2 x3 x4 x5 x6 x7 x8 cp MG1
 have HRG:=Lib.hid H2.out.range
 go_wp2_with (refine wpList_load_mid rfl 38 (.tmp 34) rfl p 1 rfl (xcells X) _ HRG.out Tryz.underlying38 rfl (xinf X) ?_)
 refine (MD.out _ _ H2.out.at_).mono ?_
 rintro r w5 ⟨X',rfl,H5⟩
 have H6:=Lib.hid (H2.out.doc H5.out)
 have H7:=Lib.hid (H6.out.alloc (.cells Tryz.zeroCells38 38))
 have HNE:Hid (∀ z,z ∈ [(w.heap.size,some (Obj.cells #[.int .i64 kd,.int .i64 da,.int .i64 db,.int .i64 ei,.int .u64 ew,.int .i64 ev,.int .u64 er,.int .u64 dn,.bool di] 44 (0,0)))]→z.1≠w5.heap.size):=Lib.hid fun z hz=>by
  have:=(H6.out.keep z hz).2.1
  omega
 obtain ⟨tb,htb⟩:∃ tb,tb=w5.heap.size:=⟨_,rfl⟩
 rw [← htb] at H7 HNE
 have H8:=Lib.hid (RH.lay Tryz.zeroCells38_size H7.out HNE.out X')
 have HTH:=Lib.hid (H7.out.room Tryz.zeroCells38_size (H7.out.keep _ List.mem_cons_self).2.2.2 X')
 obtain ⟨w7,hw7⟩:∃ w7,w7=w5.alloc (.cells Tryz.zeroCells38 38):=⟨_,rfl⟩
 rw [← hw7] at H7 H8 HTH
 obtain ⟨w8,hw8⟩:∃ w8,w8=w7.setCells tb 0 (xcells X'):=⟨_,rfl⟩
 rw [← hw8] at H8
 have HRB:Hid (w8.rangeAt tb 0 (xcells X')):=Lib.hid (XBlk.range (b:=tb) (H8.out.keep _ List.mem_cons_self).2.2.2)
 have HW7:=Lib.hid hw7
 have HW8:=Lib.hid hw8
 have HTB:=Lib.hid htb
 clear hw7 hw8 htb H5 H6 HRG
 go_upto_region 8 with (refine wpList_store_mid rfl 38 (.tmp 22) (.tmp 37) rfl tb 0 (xcells X').toArray (by show Value.pointer (some ⟨w5.heap.size,0,none⟩)=_;rw [HTB.out]) rfl (by rw [← HW7.out];exact HTH.out) (xinfA X') (xcells_one X') ?_;rw [List.toList_toArray,← HW7.out,← HW8.out,← HTB.out])
 clear HW7 HW8 HTB H7 HTH HNE
 go_upto_region 9 with (first
  | (refine wpList_load_mid rfl 38 (.tmp 22) rfl tb 0 rfl (xcells X') _ HRB.out Tryz.underlying38 rfl (xinf X') ?_)
  | (refine wpList_store_mid rfl 38 (.tmp 42) (.tmp 40) rfl p 1 (xcells X').toArray rfl rfl (H8.out.there X') (xinfA X') (xcells_one X') ?_;obtain ⟨w9,hw9⟩:∃ w9,w9=w8.setCells p 1 (xcells X'):=⟨_,rfl⟩;rw [List.toList_toArray,← hw9]))
 have H9:=Lib.hid H8.out.store
 rw [← hw9] at H9
 clear hw9 H8 HRB
 go_wp2_with fail
 go_ret
 exact ⟨rfl,S',X',Lib.hid ⟨H9.out.less,HG.out.1,HG.out.2⟩⟩
set_option maxRecDepth 100000 in
set_option maxHeartbeats 64000000 in
theorem do_turn (r0:RH w0 w p h S S X X K []) (H:HGood S) (hK:K+10000≤1000000000000000) (d:Dh) (hd:d.num) (hk:d.kind=0∨d.kind=1∨d.kind=2∨d.kind=6∨d.kind=7) :
  Calls Tryz.prog 7 #[.pointer (some ⟨p,0,none⟩),.agg d.cells.toArray] w fun r w'=>r=.returned (.bool true)∧∃ S' X',Hid (RH w0 w' p h S' S' X' X' (K+10000) []∧HGood S'∧S'.gran=S.gran):=by
 obtain ⟨kd,da,db,⟨ei,ew,ev,er⟩,dn,di⟩:=d
 dsimp only at hk
 obtain ⟨w1,hw1⟩:∃ w1,w1=w.alloc (.cells #[.int .i64 kd,.int .i64 da,.int .i64 db,.int .i64 ei,.int .u64 ew,.int .i64 ev,.int .u64 er,.int .u64 dn,.bool di] 44):=⟨_,rfl⟩
 have hR1:RH w0 w1 p h S S X X K [(w.heap.size,some (Obj.cells #[.int .i64 kd,.int .i64 da,.int .i64 db,.int .i64 ei,.int .u64 ew,.int .i64 ev,.int .u64 er,.int .u64 dn,.bool di] 44 (0,0)))]:=by rw [hw1];exact r0.alloc _
 have hB1:Blk w1 w.heap.size #[.int .i64 kd,.int .i64 da,.int .i64 db,.int .i64 ei,.int .u64 ew,.int .i64 ev,.int .u64 er,.int .u64 dn,.bool di] 44:=(hR1.keep _ List.mem_cons_self).2.2.2
 obtain ⟨x0,x1,x2,x3,x4,x5,x6,x7,x8⟩:=deed9 hB1
 have cp:=hR1.ptr
 have HR1:=Lib.hid hR1
 have HW1:=Lib.hid hw1
 have HG0:=Lib.hid (And.intro H True.intro)
 have HDN:=Lib.hid hd
 clear hR1 hB1 r0 H hd
 show Calls Tryz.prog _ #[.pointer (some ⟨p,0,none⟩),.agg #[.int .i64 kd,.int .i64 da,.int .i64 db,.int .i64 ei,.int .u64 ew,.int .i64 ev,.int .u64 er,.int .u64 dn,.bool di]] w _
 rcases hk with rfl | rfl | rfl | rfl | rfl
 all_goals
  go_enter Tryz.func7,Tryz.ntmps7
  go_upto_region 1 with (fail)
  rw [← hw1]
  clear hw1
  have MT:=Lib.hid (turn_any HR1.out.less HG0.out.1 hK ⟨_,da,db,⟨ei,ew,ev,er⟩,dn,di⟩ HDN.out)
  clear cp
  go_wp2_with fail
  refine MT.out.mono ?_
  rintro r w2 ⟨rfl,S',X',H2⟩
  clear MT x0 x1 x2 x3 x4 x5 x6 x7 x8
  go_wp2_with fail
  go_ret
  exact ⟨rfl,S',X',H2⟩
end
end Go.Proofs.YtefekboacghnjaaGreat
