/-
  dolelaw20.both.turn: a deed on a group, on both sides.
-/
import Derived.Test.YtefekboacghnjaaGreatMi
import Derived.Test.YtefekboacghnjaaGreatPm
import Derived.Test.YtefekboacghnjaaGreatPg
set_option linter.unusedVariables false
set_option linter.unusedSimpArgs false
namespace Go.Proofs.YtefekboacghnjaaGreat
open Go.RowKit Go.Maps
section
variable {w0 w:World} {p h:Nat} {S:HS} {X:XH} {K:Int}
set_option maxRecDepth 100000 in
set_option maxHeartbeats 64000000 in
theorem turn_any (r0:RH w0 w p h S S X X K []) (H:HGood S) (hK:K+10000≤1000000000000000) (d:Dh) (hd:d.num) :
  Calls Tryz.prog 17 #[.pointer (some ⟨p,0,none⟩),.agg d.cells.toArray] w fun r w'=>r=.returned (.bool true)∧∃ S' X',Hid (RH w0 w' p h S' S' X' X' (K+10000) []∧HGood S'∧S'.gran=S.gran):=by
 obtain ⟨kd,da,db,⟨ei,ew,ev,er⟩,dn,di⟩:=d
 obtain ⟨w1,hw1⟩:∃ w1,w1=w.alloc (.cells #[.int .i64 kd,.int .i64 da,.int .i64 db,.int .i64 ei,.int .u64 ew,.int .i64 ev,.int .u64 er,.int .u64 dn,.bool di] 44):=⟨_,rfl⟩
 have hR1:RH w0 w1 p h S S X X K [(w.heap.size,some (Obj.cells #[.int .i64 kd,.int .i64 da,.int .i64 db,.int .i64 ei,.int .u64 ew,.int .i64 ev,.int .u64 er,.int .u64 dn,.bool di] 44 (0,0)))]:=by rw [hw1];exact r0.alloc _
 have hB1:Blk w1 w.heap.size #[.int .i64 kd,.int .i64 da,.int .i64 db,.int .i64 ei,.int .u64 ew,.int .i64 ev,.int .u64 er,.int .u64 dn,.bool di] 44:=(hR1.keep _ List.mem_cons_self).2.2.2
 obtain ⟨x0,x1,x2,x3,x4,x5,x6,x7,x8⟩:=deed9 hB1
 have cp:=hR1.ptr
 have HR1:=Lib.hid hR1
 have HW1:=Lib.hid hw1
 have HG0:=Lib.hid (And.intro H True.intro)
 have HDN:=Lib.hid hd
 clear hR1 hB1 r0 H hd
 show Calls Tryz.prog _ #[.pointer (some ⟨p,0,none⟩),.agg #[.int .i64 kd,.int .i64 da,.int .i64 db,.int .i64 ei,.int .u64 ew,.int .i64 ev,.int .u64 er,.int .u64 dn,.bool di]] w _
 go_enter Tryz.func17,Tryz.ntmps17
 go_upto_region 1 with (fail)
 rw [← hw1]
 clear hw1
 by_cases c0:kd=0
 ·
  have t0:(kd == 0)=true:=by rw [beq_iff_eq];exact c0
  have u0:decide (kd=0)=true:=decide_eq_true c0
  clear c0
  obtain ⟨an,S',hG,hgr,MG,MD0⟩:=two_link HG0.out.1 hK da db
  have MG1:=Lib.hid ((HR1.out.below (Below.refl _ _).drew).go (fun F a=>MG _ h F a))
  have MD:=Lib.hid MD0
  have HG:=Lib.hid (And.intro hG hgr)
  clear hG hgr MG MD0
  go_wp2_with fail
  clear x0 x1 x2 x3 x4 x5 x6 x7 x8 cp
  have HS:Hid (∀ (W:World) (S1:HS) (K1:Int),RH w0 W p h S1 S X X K1 [(w.heap.size,some (Obj.cells #[.int .i64 kd,.int .i64 da,.int .i64 db,.int .i64 ei,.int .u64 ew,.int .i64 ev,.int .u64 er,.int .u64 dn,.bool di] 44 (0,0)))]→(fun W=>W.cell? ⟨p,0,none⟩=some (.pointer (some ⟨h,0,none⟩))∧W.cell? ⟨w.heap.size,1,none⟩=some (.int .i64 da)∧W.cell? ⟨w.heap.size,2,none⟩=some (.int .i64 db)) W):=Lib.hid fun W S1 K1 h3=>by
   have h4:Blk W w.heap.size #[.int .i64 kd,.int .i64 da,.int .i64 db,.int .i64 ei,.int .u64 ew,.int .i64 ev,.int .u64 er,.int .u64 dn,.bool di] 44:=(h3.keep _ List.mem_cons_self).2.2.2
   exact ⟨h3.ptr,Blk.cell h4 1,Blk.cell h4 2⟩
  refine wp_region_held_drew (S:=fun W=>W.cell? ⟨p,0,none⟩=some (.pointer (some ⟨h,0,none⟩))∧W.cell? ⟨w.heap.size,1,none⟩=some (.int .i64 da)∧W.cell? ⟨w.heap.size,2,none⟩=some (.int .i64 db)) (by kernel_rfl) (HS.out _ _ _ (HR1.out.below (Below.refl _ _).drew)) (fun hHeld=>?_)
  refine wpAnyH_takes (by kernel_rfl) (fun _ _ _ _ _ h=>h) hHeld [0,1,2,3,4,5,6,7] [(47,.pointer (some ⟨p,0,none⟩)),(48,.pointer (some ⟨p,0,none⟩)),(49,.pointer (some ⟨p,0,none⟩)),(50,.pointer (some ⟨h,0,none⟩)),(51,.pointer (some ⟨w.heap.size,1,none⟩)),(52,.int .i64 da),(53,.pointer (some ⟨w.heap.size,2,none⟩)),(54,.int .i64 db)] 8 _ _ rfl (by kernel_rfl) ?_ ?_
  ·
   refine tkI rfl rfl (by rfl) ?_ <| tkI rfl rfl (by rfl) ?_ <| tkI rfl rfl (by rfl) ?_ <| tkI rfl rfl (by rfl) ?_ <| tkI rfl rfl (by rfl) ?_ <| tkI rfl rfl (by rfl) ?_ <| tkI rfl rfl (by rfl) ?_ <| tkI rfl rfl (by rfl) ?_ <| tkN
   all_goals (intro W hSw;obtain ⟨kp,k0,k1⟩:=hSw;clear hHeld;go_simp)
  simp only [putsL,listedL,Act.put,List.setIfInBounds_toArray,List.set_cons_zero,List.set_cons_succ]
  refine wpAnyH_ready (rs:=[8]) (by kernel_rfl) (by simp) ?_
  refine AllReadyH.cons rfl (fun Kc hK=>?_) AllReadyH.nil
  have HK:=Lib.hid hK
  clear hK hHeld
  go_simp
  refine MG1.out.mono ?_
  rintro r w2 ⟨rfl,H2⟩
  refine HK.out.out _ _ (HS.out _ _ _ H2.out) (fun hHeld=>?_)
  try simp only [Act.put,List.getElem_toArray,List.getElem_cons_succ,List.getElem_cons_zero,List.setIfInBounds_toArray,List.set_cons_zero,List.set_cons_succ]
  clear HK Kc MG1
  refine wpAnyH_takes (by kernel_rfl) (fun _ _ _ _ _ h=>h) hHeld [9] [(5,.int .i64 an)] 1 _ _ rfl (by kernel_rfl) ?_ ?_
  ·
   refine tkI rfl rfl (by rfl) ?_ <| tkN
   all_goals (intro W hSw;obtain ⟨kp,k0,k1⟩:=hSw;clear hHeld;go_simp)
  simp only [putsL,listedL,Act.put,List.setIfInBounds_toArray,List.set_cons_zero,List.set_cons_succ]
  refine wpAnyH_done (by kernel_rfl) ?_ _
  clear hHeld HS
  go_wp2_with fail
  have HS:Hid (∀ W,Below w2.heap.size w2 W→(fun W=>Below w2.heap.size w2 W∧W.rangeAt p 1 (xcells X)∧W.cell? ⟨w.heap.size,1,none⟩=some (.int .i64 da)∧W.cell? ⟨w.heap.size,2,none⟩=some (.int .i64 db)) W):=Lib.hid fun W hW=>by
   have h3:=H2.out.below hW
   have h4:Blk W w.heap.size #[.int .i64 kd,.int .i64 da,.int .i64 db,.int .i64 ei,.int .u64 ew,.int .i64 ev,.int .u64 er,.int .u64 dn,.bool di] 44:=(h3.keep _ List.mem_cons_self).2.2.2
   exact ⟨hW,h3.range,Blk.cell h4 1,Blk.cell h4 2⟩
  refine wp_region_held_drew (S:=fun W=>Below w2.heap.size w2 W∧W.rangeAt p 1 (xcells X)∧W.cell? ⟨w.heap.size,1,none⟩=some (.int .i64 da)∧W.cell? ⟨w.heap.size,2,none⟩=some (.int .i64 db)) (by kernel_rfl) (HS.out _ (Below.refl _ _).drew) (fun hHeld=>?_)
  refine wpAnyH_takes (by kernel_rfl) (fun _ _ _ _ _ h=>h) hHeld [0,1,2,3,4,5,6,7] [(57,.pointer (some ⟨p,0,none⟩)),(58,.pointer (some ⟨p,0,none⟩)),(59,.pointer (some ⟨p,1,none⟩)),(60,.agg (xcells X).toArray),(61,.pointer (some ⟨w.heap.size,1,none⟩)),(62,.int .i64 da),(63,.pointer (some ⟨w.heap.size,2,none⟩)),(64,.int .i64 db)] 8 _ _ rfl (by kernel_rfl) ?_ ?_
  ·
   refine tkI rfl rfl (by rfl) ?_ <| tkI rfl rfl (by rfl) ?_ <| tkI rfl rfl (by rfl) ?_ <| tkY rfl rfl (yieldsIf_load_mid ?_ _ _ rfl p 1 ?_ (xcells X) _ (fun W h=>h.2.1) Tryz.underlying38 rfl (xinf X)) <| tkI rfl rfl (by rfl) ?_ <| tkI rfl rfl (by rfl) ?_ <| tkI rfl rfl (by rfl) ?_ <| tkI rfl rfl (by rfl) ?_ <| tkN
   all_goals first | (intro W hSw;obtain ⟨-,-,k0,k1⟩:=hSw;clear hHeld;go_simp) | go_simp
  simp only [putsL,listedL,Act.put,List.setIfInBounds_toArray,List.set_cons_zero,List.set_cons_succ]
  refine wpAnyH_ready (rs:=[8,12]) (by kernel_rfl) (by simp) ?_
  refine AllReadyH.cons rfl (fun Kc hK=>?_) (AllReadyH.cons rfl (fun Kc hK=>?_) AllReadyH.nil)
  ·
   have HK:=Lib.hid hK
   clear hK hHeld
   go_simp
   refine (MD.out _ _ (H2.out.below (Below.refl _ _).drew).at_).mono ?_
   rintro r w5 ⟨X',rfl,H5⟩
   have HB5:=Lib.hid ((Below.refl w2.heap.size w2).drew.trans H5.out.bel)
   have H6:=Lib.hid ((H2.out.below (Below.refl _ _).drew).doc H5.out)
   clear H5
   refine HK.out.out _ _ (HS.out _ HB5.out) (fun hHeld=>?_)
   try simp only [Act.put,List.getElem_toArray,List.getElem_cons_succ,List.getElem_cons_zero,List.setIfInBounds_toArray,List.set_cons_zero,List.set_cons_succ]
   clear HK Kc
   refine wpAnyH_takes (by kernel_rfl) (fun _ _ _ _ _ h=>h) hHeld [9,10,11] [(56,.tuple #[xV X',.int .i64 an]),(66,xV X'),(67,.int .i64 an)] 3 _ _ rfl (by kernel_rfl) ?_ ?_
   ·
    refine tkI rfl rfl (by rfl) ?_ <| tkI rfl rfl (by rfl) ?_ <| tkI rfl rfl (by rfl) ?_ <| tkN
    all_goals (intro W hSw;clear hHeld hSw;go_simp)
   simp only [putsL,listedL,Act.put,List.setIfInBounds_toArray,List.set_cons_zero,List.set_cons_succ]
   refine wpAnyH_ready (rs:=[12]) (by kernel_rfl) (by simp) ?_
   refine AllReadyH.cons rfl (fun Kc hK=>?_) AllReadyH.nil
   have HK:=Lib.hid hK
   clear hK hHeld
   go_simp
   have HB7:=Lib.hid (HB5.out.alloc HB5.out.size (.cells Tryz.zeroCells38 38))
   have H7:=Lib.hid (H6.out.alloc (.cells Tryz.zeroCells38 38))
   have HLE:=Lib.hid HB5.out.size
   have HNE:Hid (∀ z,z ∈ [(w.heap.size,some (Obj.cells #[.int .i64 kd,.int .i64 da,.int .i64 db,.int .i64 ei,.int .u64 ew,.int .i64 ev,.int .u64 er,.int .u64 dn,.bool di] 44 (0,0)))]→z.1≠w5.heap.size):=Lib.hid fun z hz=>by
    have:=(H6.out.keep z hz).2.1
    omega
   obtain ⟨w7,hw7⟩:∃ w7,w7=w5.alloc (.cells Tryz.zeroCells38 38):=⟨_,rfl⟩
   rw [← hw7] at HB7 H7 ⊢
   refine HK.out.out _ _ (HS.out _ HB7.out) (fun hHeld=>?_)
   try simp only [Act.put,List.getElem_toArray,List.getElem_cons_succ,List.getElem_cons_zero,List.setIfInBounds_toArray,List.set_cons_zero,List.set_cons_succ]
   clear HK Kc hw7 HB5 H6
   refine wpAnyH_ready (rs:=[13]) (by kernel_rfl) (by simp) ?_
   refine AllReadyH.cons rfl (fun Kc hK=>?_) AllReadyH.nil
   have HK:=Lib.hid hK
   clear hK hHeld
   rw [if_pos (by rfl)]
   refine wp_store_mid _ _ _ rfl w5.heap.size 0 (xcells X').toArray rfl rfl (H7.out.room Tryz.zeroCells38_size (H7.out.keep _ List.mem_cons_self).2.2.2 X') (xinfA X') (xcells_one X') ?_
   rw [List.toList_toArray]
   have H8:=Lib.hid (RH.lay Tryz.zeroCells38_size H7.out HNE.out X')
   have hb8:Below w2.heap.size w2 (w7.setCells w5.heap.size 0 (xcells X')):=below_sets HLE.out _ _ _ HB7.out
   obtain ⟨w8,hw8⟩:∃ w8,w8=w7.setCells w5.heap.size 0 (xcells X'):=⟨_,rfl⟩
   rw [← hw8] at H8 hb8 ⊢
   refine HK.out.out _ _ (HS.out _ hb8) (fun hHeld=>?_)
   try simp only [Act.put,List.getElem_toArray,List.getElem_cons_succ,List.getElem_cons_zero,List.setIfInBounds_toArray,List.set_cons_zero,List.set_cons_succ]
   clear HK Kc hw8 hb8 H7 HB7
   refine wpAnyH_takes (by kernel_rfl) (fun _ _ _ _ _ h=>h) hHeld [14] [(8,.int .i64 an)] 1 _ _ rfl (by kernel_rfl) ?_ ?_
   ·
    refine tkI rfl rfl (by rfl) ?_ <| tkN
    all_goals (intro W hSw;clear hHeld hSw;go_simp)
   simp only [putsL,listedL,Act.put,List.setIfInBounds_toArray,List.set_cons_zero,List.set_cons_succ]
   refine wpAnyH_done (by kernel_rfl) ?_ _
   clear hHeld
   have HRB:Hid (w8.rangeAt w5.heap.size 0 (xcells X')):=Lib.hid (XBlk.range (b:=w5.heap.size) (H8.out.keep _ List.mem_cons_self).2.2.2)
   obtain ⟨tb,htb⟩:∃ tb,tb=w5.heap.size:=⟨_,rfl⟩
   rw [← htb] at H8 HRB ⊢
   clear htb HLE HNE
   go_upto_region 12 with (first
    | (refine wpList_load_mid rfl 38 (.tmp 7) rfl tb 0 rfl (xcells X') _ HRB.out Tryz.underlying38 rfl (xinf X') ?_)
    | (refine wpList_store_mid rfl 38 (.tmp 71) (.tmp 69) rfl p 1 (xcells X').toArray rfl rfl (H8.out.there X') (xinfA X') (xcells_one X') ?_;obtain ⟨w9,hw9⟩:∃ w9,w9=w8.setCells p 1 (xcells X'):=⟨_,rfl⟩;rw [List.toList_toArray,← hw9]))
   have H9:=Lib.hid H8.out.store
   rw [← hw9] at H9
   clear hw9 H8 HRB
   go_wp2_with fail
   go_ret
   exact ⟨rfl,S',X',Lib.hid ⟨H9.out.less,HG.out.1,HG.out.2⟩⟩
  ·
   have HK:=Lib.hid hK
   clear hK hHeld
   go_simp
   have HB5:=Lib.hid ((Below.refl w2.heap.size w2).alloc (Nat.le_refl _) (.cells Tryz.zeroCells38 38)).drew
   have H6:=Lib.hid ((H2.out.alloc (.cells Tryz.zeroCells38 38)).below (Below.refl _ _).drew)
   have HNE:Hid (∀ z,z ∈ [(w.heap.size,some (Obj.cells #[.int .i64 kd,.int .i64 da,.int .i64 db,.int .i64 ei,.int .u64 ew,.int .i64 ev,.int .u64 er,.int .u64 dn,.bool di] 44 (0,0)))]→z.1≠w2.heap.size):=Lib.hid fun z hz=>by
    have:=(H2.out.keep z hz).2.1
    omega
   obtain ⟨w5,hw5⟩:∃ w5,w5=(w2.alloc (.cells Tryz.zeroCells38 38)).drew:=⟨_,rfl⟩
   have H6':Hid (RH w0 w5 p h S' S X X (K+10000) ((w2.heap.size,some (Obj.cells Tryz.zeroCells38 38 (0,0)))::[(w.heap.size,some (Obj.cells #[.int .i64 kd,.int .i64 da,.int .i64 db,.int .i64 ei,.int .u64 ew,.int .i64 ev,.int .u64 er,.int .u64 dn,.bool di] 44 (0,0)))])):=by rw [hw5];exact H6
   rw [← hw5] at HB5 ⊢
   refine HK.out.out _ _ (HS.out _ HB5.out) (fun hHeld=>?_)
   try simp only [Act.put,List.getElem_toArray,List.getElem_cons_succ,List.getElem_cons_zero,List.setIfInBounds_toArray,List.set_cons_zero,List.set_cons_succ]
   clear HK Kc hw5 H6
   refine wpAnyH_ready (rs:=[8]) (by kernel_rfl) (by simp) ?_
   refine AllReadyH.cons rfl (fun Kc hK=>?_) AllReadyH.nil
   have HK:=Lib.hid hK
   clear hK hHeld
   go_simp
   refine (MD.out _ _ H6'.out.at_).mono ?_
   rintro r w7 ⟨X',rfl,H5⟩
   have HB7:=Lib.hid (HB5.out.trans (H5.out.bel.mono HB5.out.size))
   have H7:=Lib.hid (H6'.out.doc H5.out)
   have HLE:=Lib.hid (Nat.le_refl w2.heap.size)
   clear H5
   refine HK.out.out _ _ (HS.out _ HB7.out) (fun hHeld=>?_)
   try simp only [Act.put,List.getElem_toArray,List.getElem_cons_succ,List.getElem_cons_zero,List.setIfInBounds_toArray,List.set_cons_zero,List.set_cons_succ]
   clear HK Kc H6' HB5
   refine wpAnyH_takes (by kernel_rfl) (fun _ _ _ _ _ h=>h) hHeld [9,10,11] [(56,.tuple #[xV X',.int .i64 an]),(66,xV X'),(67,.int .i64 an)] 3 _ _ rfl (by kernel_rfl) ?_ ?_
   ·
    refine tkI rfl rfl (by rfl) ?_ <| tkI rfl rfl (by rfl) ?_ <| tkI rfl rfl (by rfl) ?_ <| tkN
    all_goals (intro W hSw;clear hHeld hSw;go_simp)
   simp only [putsL,listedL,Act.put,List.setIfInBounds_toArray,List.set_cons_zero,List.set_cons_succ]
   refine wpAnyH_ready (rs:=[13]) (by kernel_rfl) (by simp) ?_
   refine AllReadyH.cons rfl (fun Kc hK=>?_) AllReadyH.nil
   have HK:=Lib.hid hK
   clear hK hHeld
   rw [if_pos (by rfl)]
   refine wp_store_mid _ _ _ rfl w2.heap.size 0 (xcells X').toArray rfl rfl (H7.out.room Tryz.zeroCells38_size (H7.out.keep _ List.mem_cons_self).2.2.2 X') (xinfA X') (xcells_one X') ?_
   rw [List.toList_toArray]
   have H8:=Lib.hid (RH.lay Tryz.zeroCells38_size H7.out HNE.out X')
   have hb8:Below w2.heap.size w2 (w7.setCells w2.heap.size 0 (xcells X')):=below_sets HLE.out _ _ _ HB7.out
   obtain ⟨w8,hw8⟩:∃ w8,w8=w7.setCells w2.heap.size 0 (xcells X'):=⟨_,rfl⟩
   rw [← hw8] at H8 hb8 ⊢
   refine HK.out.out _ _ (HS.out _ hb8) (fun hHeld=>?_)
   try simp only [Act.put,List.getElem_toArray,List.getElem_cons_succ,List.getElem_cons_zero,List.setIfInBounds_toArray,List.set_cons_zero,List.set_cons_succ]
   clear HK Kc hw8 hb8 H7 HB7
   refine wpAnyH_takes (by kernel_rfl) (fun _ _ _ _ _ h=>h) hHeld [14] [(8,.int .i64 an)] 1 _ _ rfl (by kernel_rfl) ?_ ?_
   ·
    refine tkI rfl rfl (by rfl) ?_ <| tkN
    all_goals (intro W hSw;clear hHeld hSw;go_simp)
   simp only [putsL,listedL,Act.put,List.setIfInBounds_toArray,List.set_cons_zero,List.set_cons_succ]
   refine wpAnyH_done (by kernel_rfl) ?_ _
   clear hHeld
   have HRB:Hid (w8.rangeAt w2.heap.size 0 (xcells X')):=Lib.hid (XBlk.range (b:=w2.heap.size) (H8.out.keep _ List.mem_cons_self).2.2.2)
   obtain ⟨tb,htb⟩:∃ tb,tb=w2.heap.size:=⟨_,rfl⟩
   rw [← htb] at H8 HRB ⊢
   clear htb HLE HNE
   go_upto_region 12 with (first
    | (refine wpList_load_mid rfl 38 (.tmp 7) rfl tb 0 rfl (xcells X') _ HRB.out Tryz.underlying38 rfl (xinf X') ?_)
    | (refine wpList_store_mid rfl 38 (.tmp 71) (.tmp 69) rfl p 1 (xcells X').toArray rfl rfl (H8.out.there X') (xinfA X') (xcells_one X') ?_;obtain ⟨w9,hw9⟩:∃ w9,w9=w8.setCells p 1 (xcells X'):=⟨_,rfl⟩;rw [List.toList_toArray,← hw9]))
   have H9:=Lib.hid H8.out.store
   rw [← hw9] at H9
   clear hw9 H8 HRB
   go_wp2_with fail
   go_ret
   exact ⟨rfl,S',X',Lib.hid ⟨H9.out.less,HG.out.1,HG.out.2⟩⟩
 have t0:(kd == 0)=false:=by rw [beq_eq_false_iff_ne];exact c0
 have u0:decide (kd=0)=false:=decide_eq_false c0
 clear c0
 by_cases c1:kd=1
 ·
  have t1:(kd == 1)=true:=by rw [beq_iff_eq];exact c1
  have u1:decide (kd=1)=true:=decide_eq_true c1
  clear c1
  obtain ⟨an,S',hG,hgr,MG,MD0⟩:=two_unlink HG0.out.1 hK da
  have MG1:=Lib.hid ((HR1.out.below (Below.refl _ _).drew).go (fun F a=>MG _ h F a))
  have MD:=Lib.hid MD0
  have HG:=Lib.hid (And.intro hG hgr)
  clear hG hgr MG MD0
  go_wp2_with fail
  clear x0 x1 x2 x3 x4 x5 x6 x7 x8 cp
  have HS:Hid (∀ (W:World) (S1:HS) (K1:Int),RH w0 W p h S1 S X X K1 [(w.heap.size,some (Obj.cells #[.int .i64 kd,.int .i64 da,.int .i64 db,.int .i64 ei,.int .u64 ew,.int .i64 ev,.int .u64 er,.int .u64 dn,.bool di] 44 (0,0)))]→(fun W=>W.cell? ⟨p,0,none⟩=some (.pointer (some ⟨h,0,none⟩))∧W.cell? ⟨w.heap.size,1,none⟩=some (.int .i64 da)) W):=Lib.hid fun W S1 K1 h3=>by
   have h4:Blk W w.heap.size #[.int .i64 kd,.int .i64 da,.int .i64 db,.int .i64 ei,.int .u64 ew,.int .i64 ev,.int .u64 er,.int .u64 dn,.bool di] 44:=(h3.keep _ List.mem_cons_self).2.2.2
   exact ⟨h3.ptr,Blk.cell h4 1⟩
  refine wp_region_held_drew (S:=fun W=>W.cell? ⟨p,0,none⟩=some (.pointer (some ⟨h,0,none⟩))∧W.cell? ⟨w.heap.size,1,none⟩=some (.int .i64 da)) (by kernel_rfl) (HS.out _ _ _ (HR1.out.below (Below.refl _ _).drew)) (fun hHeld=>?_)
  refine wpAnyH_takes (by kernel_rfl) (fun _ _ _ _ _ h=>h) hHeld [0,1,2,3,4,5] [(75,.pointer (some ⟨p,0,none⟩)),(76,.pointer (some ⟨p,0,none⟩)),(77,.pointer (some ⟨p,0,none⟩)),(78,.pointer (some ⟨h,0,none⟩)),(79,.pointer (some ⟨w.heap.size,1,none⟩)),(80,.int .i64 da)] 6 _ _ rfl (by kernel_rfl) ?_ ?_
  ·
   refine tkI rfl rfl (by rfl) ?_ <| tkI rfl rfl (by rfl) ?_ <| tkI rfl rfl (by rfl) ?_ <| tkI rfl rfl (by rfl) ?_ <| tkI rfl rfl (by rfl) ?_ <| tkI rfl rfl (by rfl) ?_ <| tkN
   all_goals (intro W hSw;obtain ⟨kp,k0⟩:=hSw;clear hHeld;go_simp)
  simp only [putsL,listedL,Act.put,List.setIfInBounds_toArray,List.set_cons_zero,List.set_cons_succ]
  refine wpAnyH_ready (rs:=[6]) (by kernel_rfl) (by simp) ?_
  refine AllReadyH.cons rfl (fun Kc hK=>?_) AllReadyH.nil
  have HK:=Lib.hid hK
  clear hK hHeld
  go_simp
  refine MG1.out.mono ?_
  rintro r w2 ⟨rfl,H2⟩
  refine HK.out.out _ _ (HS.out _ _ _ H2.out) (fun hHeld=>?_)
  try simp only [Act.put,List.getElem_toArray,List.getElem_cons_succ,List.getElem_cons_zero,List.setIfInBounds_toArray,List.set_cons_zero,List.set_cons_succ]
  clear HK Kc MG1
  refine wpAnyH_takes (by kernel_rfl) (fun _ _ _ _ _ h=>h) hHeld [7] [(5,.int .i64 an)] 1 _ _ rfl (by kernel_rfl) ?_ ?_
  ·
   refine tkI rfl rfl (by rfl) ?_ <| tkN
   all_goals (intro W hSw;obtain ⟨kp,k0⟩:=hSw;clear hHeld;go_simp)
  simp only [putsL,listedL,Act.put,List.setIfInBounds_toArray,List.set_cons_zero,List.set_cons_succ]
  refine wpAnyH_done (by kernel_rfl) ?_ _
  clear hHeld HS
  go_wp2_with fail
  have HS:Hid (∀ W,Below w2.heap.size w2 W→(fun W=>Below w2.heap.size w2 W∧W.rangeAt p 1 (xcells X)∧W.cell? ⟨w.heap.size,1,none⟩=some (.int .i64 da)) W):=Lib.hid fun W hW=>by
   have h3:=H2.out.below hW
   have h4:Blk W w.heap.size #[.int .i64 kd,.int .i64 da,.int .i64 db,.int .i64 ei,.int .u64 ew,.int .i64 ev,.int .u64 er,.int .u64 dn,.bool di] 44:=(h3.keep _ List.mem_cons_self).2.2.2
   exact ⟨hW,h3.range,Blk.cell h4 1⟩
  refine wp_region_held_drew (S:=fun W=>Below w2.heap.size w2 W∧W.rangeAt p 1 (xcells X)∧W.cell? ⟨w.heap.size,1,none⟩=some (.int .i64 da)) (by kernel_rfl) (HS.out _ (Below.refl _ _).drew) (fun hHeld=>?_)
  refine wpAnyH_takes (by kernel_rfl) (fun _ _ _ _ _ h=>h) hHeld [0,1,2,3,4,5] [(83,.pointer (some ⟨p,0,none⟩)),(84,.pointer (some ⟨p,0,none⟩)),(85,.pointer (some ⟨p,1,none⟩)),(86,.agg (xcells X).toArray),(87,.pointer (some ⟨w.heap.size,1,none⟩)),(88,.int .i64 da)] 6 _ _ rfl (by kernel_rfl) ?_ ?_
  ·
   refine tkI rfl rfl (by rfl) ?_ <| tkI rfl rfl (by rfl) ?_ <| tkI rfl rfl (by rfl) ?_ <| tkY rfl rfl (yieldsIf_load_mid ?_ _ _ rfl p 1 ?_ (xcells X) _ (fun W h=>h.2.1) Tryz.underlying38 rfl (xinf X)) <| tkI rfl rfl (by rfl) ?_ <| tkI rfl rfl (by rfl) ?_ <| tkN
   all_goals first | (intro W hSw;obtain ⟨-,-,k0⟩:=hSw;clear hHeld;go_simp) | go_simp
  simp only [putsL,listedL,Act.put,List.setIfInBounds_toArray,List.set_cons_zero,List.set_cons_succ]
  refine wpAnyH_ready (rs:=[6,10]) (by kernel_rfl) (by simp) ?_
  refine AllReadyH.cons rfl (fun Kc hK=>?_) (AllReadyH.cons rfl (fun Kc hK=>?_) AllReadyH.nil)
  ·
   have HK:=Lib.hid hK
   clear hK hHeld
   go_simp
   refine (MD.out _ _ (H2.out.below (Below.refl _ _).drew).at_).mono ?_
   rintro r w5 ⟨X',rfl,H5⟩
   have HB5:=Lib.hid ((Below.refl w2.heap.size w2).drew.trans H5.out.bel)
   have H6:=Lib.hid ((H2.out.below (Below.refl _ _).drew).doc H5.out)
   clear H5
   refine HK.out.out _ _ (HS.out _ HB5.out) (fun hHeld=>?_)
   try simp only [Act.put,List.getElem_toArray,List.getElem_cons_succ,List.getElem_cons_zero,List.setIfInBounds_toArray,List.set_cons_zero,List.set_cons_succ]
   clear HK Kc
   refine wpAnyH_takes (by kernel_rfl) (fun _ _ _ _ _ h=>h) hHeld [7,8,9] [(82,.tuple #[xV X',.int .i64 an]),(90,xV X'),(91,.int .i64 an)] 3 _ _ rfl (by kernel_rfl) ?_ ?_
   ·
    refine tkI rfl rfl (by rfl) ?_ <| tkI rfl rfl (by rfl) ?_ <| tkI rfl rfl (by rfl) ?_ <| tkN
    all_goals (intro W hSw;clear hHeld hSw;go_simp)
   simp only [putsL,listedL,Act.put,List.setIfInBounds_toArray,List.set_cons_zero,List.set_cons_succ]
   refine wpAnyH_ready (rs:=[10]) (by kernel_rfl) (by simp) ?_
   refine AllReadyH.cons rfl (fun Kc hK=>?_) AllReadyH.nil
   have HK:=Lib.hid hK
   clear hK hHeld
   go_simp
   have HB7:=Lib.hid (HB5.out.alloc HB5.out.size (.cells Tryz.zeroCells38 38))
   have H7:=Lib.hid (H6.out.alloc (.cells Tryz.zeroCells38 38))
   have HLE:=Lib.hid HB5.out.size
   have HNE:Hid (∀ z,z ∈ [(w.heap.size,some (Obj.cells #[.int .i64 kd,.int .i64 da,.int .i64 db,.int .i64 ei,.int .u64 ew,.int .i64 ev,.int .u64 er,.int .u64 dn,.bool di] 44 (0,0)))]→z.1≠w5.heap.size):=Lib.hid fun z hz=>by
    have:=(H6.out.keep z hz).2.1
    omega
   obtain ⟨w7,hw7⟩:∃ w7,w7=w5.alloc (.cells Tryz.zeroCells38 38):=⟨_,rfl⟩
   rw [← hw7] at HB7 H7 ⊢
   refine HK.out.out _ _ (HS.out _ HB7.out) (fun hHeld=>?_)
   try simp only [Act.put,List.getElem_toArray,List.getElem_cons_succ,List.getElem_cons_zero,List.setIfInBounds_toArray,List.set_cons_zero,List.set_cons_succ]
   clear HK Kc hw7 HB5 H6
   refine wpAnyH_ready (rs:=[11]) (by kernel_rfl) (by simp) ?_
   refine AllReadyH.cons rfl (fun Kc hK=>?_) AllReadyH.nil
   have HK:=Lib.hid hK
   clear hK hHeld
   rw [if_pos (by rfl)]
   refine wp_store_mid _ _ _ rfl w5.heap.size 0 (xcells X').toArray rfl rfl (H7.out.room Tryz.zeroCells38_size (H7.out.keep _ List.mem_cons_self).2.2.2 X') (xinfA X') (xcells_one X') ?_
   rw [List.toList_toArray]
   have H8:=Lib.hid (RH.lay Tryz.zeroCells38_size H7.out HNE.out X')
   have hb8:Below w2.heap.size w2 (w7.setCells w5.heap.size 0 (xcells X')):=below_sets HLE.out _ _ _ HB7.out
   obtain ⟨w8,hw8⟩:∃ w8,w8=w7.setCells w5.heap.size 0 (xcells X'):=⟨_,rfl⟩
   rw [← hw8] at H8 hb8 ⊢
   refine HK.out.out _ _ (HS.out _ hb8) (fun hHeld=>?_)
   try simp only [Act.put,List.getElem_toArray,List.getElem_cons_succ,List.getElem_cons_zero,List.setIfInBounds_toArray,List.set_cons_zero,List.set_cons_succ]
   clear HK Kc hw8 hb8 H7 HB7
   refine wpAnyH_takes (by kernel_rfl) (fun _ _ _ _ _ h=>h) hHeld [12] [(10,.int .i64 an)] 1 _ _ rfl (by kernel_rfl) ?_ ?_
   ·
    refine tkI rfl rfl (by rfl) ?_ <| tkN
    all_goals (intro W hSw;clear hHeld hSw;go_simp)
   simp only [putsL,listedL,Act.put,List.setIfInBounds_toArray,List.set_cons_zero,List.set_cons_succ]
   refine wpAnyH_done (by kernel_rfl) ?_ _
   clear hHeld
   have HRB:Hid (w8.rangeAt w5.heap.size 0 (xcells X')):=Lib.hid (XBlk.range (b:=w5.heap.size) (H8.out.keep _ List.mem_cons_self).2.2.2)
   obtain ⟨tb,htb⟩:∃ tb,tb=w5.heap.size:=⟨_,rfl⟩
   rw [← htb] at H8 HRB ⊢
   clear htb HLE HNE
   go_upto_region 17 with (first
    | (refine wpList_load_mid rfl 38 (.tmp 9) rfl tb 0 rfl (xcells X') _ HRB.out Tryz.underlying38 rfl (xinf X') ?_)
    | (refine wpList_store_mid rfl 38 (.tmp 95) (.tmp 93) rfl p 1 (xcells X').toArray rfl rfl (H8.out.there X') (xinfA X') (xcells_one X') ?_;obtain ⟨w9,hw9⟩:∃ w9,w9=w8.setCells p 1 (xcells X'):=⟨_,rfl⟩;rw [List.toList_toArray,← hw9]))
   have H9:=Lib.hid H8.out.store
   rw [← hw9] at H9
   clear hw9 H8 HRB
   go_wp2_with fail
   go_ret
   exact ⟨rfl,S',X',Lib.hid ⟨H9.out.less,HG.out.1,HG.out.2⟩⟩
  ·
   have HK:=Lib.hid hK
   clear hK hHeld
   go_simp
   have HB5:=Lib.hid ((Below.refl w2.heap.size w2).alloc (Nat.le_refl _) (.cells Tryz.zeroCells38 38)).drew
   have H6:=Lib.hid ((H2.out.alloc (.cells Tryz.zeroCells38 38)).below (Below.refl _ _).drew)
   have HNE:Hid (∀ z,z ∈ [(w.heap.size,some (Obj.cells #[.int .i64 kd,.int .i64 da,.int .i64 db,.int .i64 ei,.int .u64 ew,.int .i64 ev,.int .u64 er,.int .u64 dn,.bool di] 44 (0,0)))]→z.1≠w2.heap.size):=Lib.hid fun z hz=>by
    have:=(H2.out.keep z hz).2.1
    omega
   obtain ⟨w5,hw5⟩:∃ w5,w5=(w2.alloc (.cells Tryz.zeroCells38 38)).drew:=⟨_,rfl⟩
   have H6':Hid (RH w0 w5 p h S' S X X (K+10000) ((w2.heap.size,some (Obj.cells Tryz.zeroCells38 38 (0,0)))::[(w.heap.size,some (Obj.cells #[.int .i64 kd,.int .i64 da,.int .i64 db,.int .i64 ei,.int .u64 ew,.int .i64 ev,.int .u64 er,.int .u64 dn,.bool di] 44 (0,0)))])):=by rw [hw5];exact H6
   rw [← hw5] at HB5 ⊢
   refine HK.out.out _ _ (HS.out _ HB5.out) (fun hHeld=>?_)
   try simp only [Act.put,List.getElem_toArray,List.getElem_cons_succ,List.getElem_cons_zero,List.setIfInBounds_toArray,List.set_cons_zero,List.set_cons_succ]
   clear HK Kc hw5 H6
   refine wpAnyH_ready (rs:=[6]) (by kernel_rfl) (by simp) ?_
   refine AllReadyH.cons rfl (fun Kc hK=>?_) AllReadyH.nil
   have HK:=Lib.hid hK
   clear hK hHeld
   go_simp
   refine (MD.out _ _ H6'.out.at_).mono ?_
   rintro r w7 ⟨X',rfl,H5⟩
   have HB7:=Lib.hid (HB5.out.trans (H5.out.bel.mono HB5.out.size))
   have H7:=Lib.hid (H6'.out.doc H5.out)
   have HLE:=Lib.hid (Nat.le_refl w2.heap.size)
   clear H5
   refine HK.out.out _ _ (HS.out _ HB7.out) (fun hHeld=>?_)
   try simp only [Act.put,List.getElem_toArray,List.getElem_cons_succ,List.getElem_cons_zero,List.setIfInBounds_toArray,List.set_cons_zero,List.set_cons_succ]
   clear HK Kc H6' HB5
   refine wpAnyH_takes (by kernel_rfl) (fun _ _ _ _ _ h=>h) hHeld [7,8,9] [(82,.tuple #[xV X',.int .i64 an]),(90,xV X'),(91,.int .i64 an)] 3 _ _ rfl (by kernel_rfl) ?_ ?_
   ·
    refine tkI rfl rfl (by rfl) ?_ <| tkI rfl rfl (by rfl) ?_ <| tkI rfl rfl (by rfl) ?_ <| tkN
    all_goals (intro W hSw;clear hHeld hSw;go_simp)
   simp only [putsL,listedL,Act.put,List.setIfInBounds_toArray,List.set_cons_zero,List.set_cons_succ]
   refine wpAnyH_ready (rs:=[11]) (by kernel_rfl) (by simp) ?_
   refine AllReadyH.cons rfl (fun Kc hK=>?_) AllReadyH.nil
   have HK:=Lib.hid hK
   clear hK hHeld
   rw [if_pos (by rfl)]
   refine wp_store_mid _ _ _ rfl w2.heap.size 0 (xcells X').toArray rfl rfl (H7.out.room Tryz.zeroCells38_size (H7.out.keep _ List.mem_cons_self).2.2.2 X') (xinfA X') (xcells_one X') ?_
   rw [List.toList_toArray]
   have H8:=Lib.hid (RH.lay Tryz.zeroCells38_size H7.out HNE.out X')
   have hb8:Below w2.heap.size w2 (w7.setCells w2.heap.size 0 (xcells X')):=below_sets HLE.out _ _ _ HB7.out
   obtain ⟨w8,hw8⟩:∃ w8,w8=w7.setCells w2.heap.size 0 (xcells X'):=⟨_,rfl⟩
   rw [← hw8] at H8 hb8 ⊢
   refine HK.out.out _ _ (HS.out _ hb8) (fun hHeld=>?_)
   try simp only [Act.put,List.getElem_toArray,List.getElem_cons_succ,List.getElem_cons_zero,List.setIfInBounds_toArray,List.set_cons_zero,List.set_cons_succ]
   clear HK Kc hw8 hb8 H7 HB7
   refine wpAnyH_takes (by kernel_rfl) (fun _ _ _ _ _ h=>h) hHeld [12] [(10,.int .i64 an)] 1 _ _ rfl (by kernel_rfl) ?_ ?_
   ·
    refine tkI rfl rfl (by rfl) ?_ <| tkN
    all_goals (intro W hSw;clear hHeld hSw;go_simp)
   simp only [putsL,listedL,Act.put,List.setIfInBounds_toArray,List.set_cons_zero,List.set_cons_succ]
   refine wpAnyH_done (by kernel_rfl) ?_ _
   clear hHeld
   have HRB:Hid (w8.rangeAt w2.heap.size 0 (xcells X')):=Lib.hid (XBlk.range (b:=w2.heap.size) (H8.out.keep _ List.mem_cons_self).2.2.2)
   obtain ⟨tb,htb⟩:∃ tb,tb=w2.heap.size:=⟨_,rfl⟩
   rw [← htb] at H8 HRB ⊢
   clear htb HLE HNE
   go_upto_region 17 with (first
    | (refine wpList_load_mid rfl 38 (.tmp 9) rfl tb 0 rfl (xcells X') _ HRB.out Tryz.underlying38 rfl (xinf X') ?_)
    | (refine wpList_store_mid rfl 38 (.tmp 95) (.tmp 93) rfl p 1 (xcells X').toArray rfl rfl (H8.out.there X') (xinfA X') (xcells_one X') ?_;obtain ⟨w9,hw9⟩:∃ w9,w9=w8.setCells p 1 (xcells X'):=⟨_,rfl⟩;rw [List.toList_toArray,← hw9]))
   have H9:=Lib.hid H8.out.store
   rw [← hw9] at H9
   clear hw9 H8 HRB
   go_wp2_with fail
   go_ret
   exact ⟨rfl,S',X',Lib.hid ⟨H9.out.less,HG.out.1,HG.out.2⟩⟩
 have t1:(kd == 1)=false:=by rw [beq_eq_false_iff_ne];exact c1
 have u1:decide (kd=1)=false:=decide_eq_false c1
 clear c1
 by_cases c2:kd=2
 ·
  have t2:(kd == 2)=true:=by rw [beq_iff_eq];exact c2
  have u2:decide (kd=2)=true:=decide_eq_true c2
  clear c2
  obtain ⟨an,S',hG,hgr,MG,MD0⟩:=two_move HG0.out.1 hK da db
  have MG1:=Lib.hid ((HR1.out.below (Below.refl _ _).drew).go (fun F a=>MG _ h F a))
  have MD:=Lib.hid MD0
  have HG:=Lib.hid (And.intro hG hgr)
  clear hG hgr MG MD0
  go_wp2_with fail
  clear x0 x1 x2 x3 x4 x5 x6 x7 x8 cp
  have HS:Hid (∀ (W:World) (S1:HS) (K1:Int),RH w0 W p h S1 S X X K1 [(w.heap.size,some (Obj.cells #[.int .i64 kd,.int .i64 da,.int .i64 db,.int .i64 ei,.int .u64 ew,.int .i64 ev,.int .u64 er,.int .u64 dn,.bool di] 44 (0,0)))]→(fun W=>W.cell? ⟨p,0,none⟩=some (.pointer (some ⟨h,0,none⟩))∧W.cell? ⟨w.heap.size,1,none⟩=some (.int .i64 da)∧W.cell? ⟨w.heap.size,2,none⟩=some (.int .i64 db)) W):=Lib.hid fun W S1 K1 h3=>by
   have h4:Blk W w.heap.size #[.int .i64 kd,.int .i64 da,.int .i64 db,.int .i64 ei,.int .u64 ew,.int .i64 ev,.int .u64 er,.int .u64 dn,.bool di] 44:=(h3.keep _ List.mem_cons_self).2.2.2
   exact ⟨h3.ptr,Blk.cell h4 1,Blk.cell h4 2⟩
  refine wp_region_held_drew (S:=fun W=>W.cell? ⟨p,0,none⟩=some (.pointer (some ⟨h,0,none⟩))∧W.cell? ⟨w.heap.size,1,none⟩=some (.int .i64 da)∧W.cell? ⟨w.heap.size,2,none⟩=some (.int .i64 db)) (by kernel_rfl) (HS.out _ _ _ (HR1.out.below (Below.refl _ _).drew)) (fun hHeld=>?_)
  refine wpAnyH_takes (by kernel_rfl) (fun _ _ _ _ _ h=>h) hHeld [0,1,2,3,4,5,6,7] [(99,.pointer (some ⟨p,0,none⟩)),(100,.pointer (some ⟨p,0,none⟩)),(101,.pointer (some ⟨p,0,none⟩)),(102,.pointer (some ⟨h,0,none⟩)),(103,.pointer (some ⟨w.heap.size,1,none⟩)),(104,.int .i64 da),(105,.pointer (some ⟨w.heap.size,2,none⟩)),(106,.int .i64 db)] 8 _ _ rfl (by kernel_rfl) ?_ ?_
  ·
   refine tkI rfl rfl (by rfl) ?_ <| tkI rfl rfl (by rfl) ?_ <| tkI rfl rfl (by rfl) ?_ <| tkI rfl rfl (by rfl) ?_ <| tkI rfl rfl (by rfl) ?_ <| tkI rfl rfl (by rfl) ?_ <| tkI rfl rfl (by rfl) ?_ <| tkI rfl rfl (by rfl) ?_ <| tkN
   all_goals (intro W hSw;obtain ⟨kp,k0,k1⟩:=hSw;clear hHeld;go_simp)
  simp only [putsL,listedL,Act.put,List.setIfInBounds_toArray,List.set_cons_zero,List.set_cons_succ]
  refine wpAnyH_ready (rs:=[8]) (by kernel_rfl) (by simp) ?_
  refine AllReadyH.cons rfl (fun Kc hK=>?_) AllReadyH.nil
  have HK:=Lib.hid hK
  clear hK hHeld
  go_simp
  refine MG1.out.mono ?_
  rintro r w2 ⟨rfl,H2⟩
  refine HK.out.out _ _ (HS.out _ _ _ H2.out) (fun hHeld=>?_)
  try simp only [Act.put,List.getElem_toArray,List.getElem_cons_succ,List.getElem_cons_zero,List.setIfInBounds_toArray,List.set_cons_zero,List.set_cons_succ]
  clear HK Kc MG1
  refine wpAnyH_takes (by kernel_rfl) (fun _ _ _ _ _ h=>h) hHeld [9] [(5,.int .i64 an)] 1 _ _ rfl (by kernel_rfl) ?_ ?_
  ·
   refine tkI rfl rfl (by rfl) ?_ <| tkN
   all_goals (intro W hSw;obtain ⟨kp,k0,k1⟩:=hSw;clear hHeld;go_simp)
  simp only [putsL,listedL,Act.put,List.setIfInBounds_toArray,List.set_cons_zero,List.set_cons_succ]
  refine wpAnyH_done (by kernel_rfl) ?_ _
  clear hHeld HS
  go_wp2_with fail
  have HS:Hid (∀ W,Below w2.heap.size w2 W→(fun W=>Below w2.heap.size w2 W∧W.rangeAt p 1 (xcells X)∧W.cell? ⟨w.heap.size,1,none⟩=some (.int .i64 da)∧W.cell? ⟨w.heap.size,2,none⟩=some (.int .i64 db)) W):=Lib.hid fun W hW=>by
   have h3:=H2.out.below hW
   have h4:Blk W w.heap.size #[.int .i64 kd,.int .i64 da,.int .i64 db,.int .i64 ei,.int .u64 ew,.int .i64 ev,.int .u64 er,.int .u64 dn,.bool di] 44:=(h3.keep _ List.mem_cons_self).2.2.2
   exact ⟨hW,h3.range,Blk.cell h4 1,Blk.cell h4 2⟩
  refine wp_region_held_drew (S:=fun W=>Below w2.heap.size w2 W∧W.rangeAt p 1 (xcells X)∧W.cell? ⟨w.heap.size,1,none⟩=some (.int .i64 da)∧W.cell? ⟨w.heap.size,2,none⟩=some (.int .i64 db)) (by kernel_rfl) (HS.out _ (Below.refl _ _).drew) (fun hHeld=>?_)
  refine wpAnyH_takes (by kernel_rfl) (fun _ _ _ _ _ h=>h) hHeld [0,1,2,3,4,5,6,7] [(109,.pointer (some ⟨p,0,none⟩)),(110,.pointer (some ⟨p,0,none⟩)),(111,.pointer (some ⟨p,1,none⟩)),(112,.agg (xcells X).toArray),(113,.pointer (some ⟨w.heap.size,1,none⟩)),(114,.int .i64 da),(115,.pointer (some ⟨w.heap.size,2,none⟩)),(116,.int .i64 db)] 8 _ _ rfl (by kernel_rfl) ?_ ?_
  ·
   refine tkI rfl rfl (by rfl) ?_ <| tkI rfl rfl (by rfl) ?_ <| tkI rfl rfl (by rfl) ?_ <| tkY rfl rfl (yieldsIf_load_mid ?_ _ _ rfl p 1 ?_ (xcells X) _ (fun W h=>h.2.1) Tryz.underlying38 rfl (xinf X)) <| tkI rfl rfl (by rfl) ?_ <| tkI rfl rfl (by rfl) ?_ <| tkI rfl rfl (by rfl) ?_ <| tkI rfl rfl (by rfl) ?_ <| tkN
   all_goals first | (intro W hSw;obtain ⟨-,-,k0,k1⟩:=hSw;clear hHeld;go_simp) | go_simp
  simp only [putsL,listedL,Act.put,List.setIfInBounds_toArray,List.set_cons_zero,List.set_cons_succ]
  refine wpAnyH_ready (rs:=[8,12]) (by kernel_rfl) (by simp) ?_
  refine AllReadyH.cons rfl (fun Kc hK=>?_) (AllReadyH.cons rfl (fun Kc hK=>?_) AllReadyH.nil)
  ·
   have HK:=Lib.hid hK
   clear hK hHeld
   go_simp
   refine (MD.out _ _ (H2.out.below (Below.refl _ _).drew).at_).mono ?_
   rintro r w5 ⟨X',rfl,H5⟩
   have HB5:=Lib.hid ((Below.refl w2.heap.size w2).drew.trans H5.out.bel)
   have H6:=Lib.hid ((H2.out.below (Below.refl _ _).drew).doc H5.out)
   clear H5
   refine HK.out.out _ _ (HS.out _ HB5.out) (fun hHeld=>?_)
   try simp only [Act.put,List.getElem_toArray,List.getElem_cons_succ,List.getElem_cons_zero,List.setIfInBounds_toArray,List.set_cons_zero,List.set_cons_succ]
   clear HK Kc
   refine wpAnyH_takes (by kernel_rfl) (fun _ _ _ _ _ h=>h) hHeld [9,10,11] [(108,.tuple #[xV X',.int .i64 an]),(118,xV X'),(119,.int .i64 an)] 3 _ _ rfl (by kernel_rfl) ?_ ?_
   ·
    refine tkI rfl rfl (by rfl) ?_ <| tkI rfl rfl (by rfl) ?_ <| tkI rfl rfl (by rfl) ?_ <| tkN
    all_goals (intro W hSw;clear hHeld hSw;go_simp)
   simp only [putsL,listedL,Act.put,List.setIfInBounds_toArray,List.set_cons_zero,List.set_cons_succ]
   refine wpAnyH_ready (rs:=[12]) (by kernel_rfl) (by simp) ?_
   refine AllReadyH.cons rfl (fun Kc hK=>?_) AllReadyH.nil
   have HK:=Lib.hid hK
   clear hK hHeld
   go_simp
   have HB7:=Lib.hid (HB5.out.alloc HB5.out.size (.cells Tryz.zeroCells38 38))
   have H7:=Lib.hid (H6.out.alloc (.cells Tryz.zeroCells38 38))
   have HLE:=Lib.hid HB5.out.size
   have HNE:Hid (∀ z,z ∈ [(w.heap.size,some (Obj.cells #[.int .i64 kd,.int .i64 da,.int .i64 db,.int .i64 ei,.int .u64 ew,.int .i64 ev,.int .u64 er,.int .u64 dn,.bool di] 44 (0,0)))]→z.1≠w5.heap.size):=Lib.hid fun z hz=>by
    have:=(H6.out.keep z hz).2.1
    omega
   obtain ⟨w7,hw7⟩:∃ w7,w7=w5.alloc (.cells Tryz.zeroCells38 38):=⟨_,rfl⟩
   rw [← hw7] at HB7 H7 ⊢
   refine HK.out.out _ _ (HS.out _ HB7.out) (fun hHeld=>?_)
   try simp only [Act.put,List.getElem_toArray,List.getElem_cons_succ,List.getElem_cons_zero,List.setIfInBounds_toArray,List.set_cons_zero,List.set_cons_succ]
   clear HK Kc hw7 HB5 H6
   refine wpAnyH_ready (rs:=[13]) (by kernel_rfl) (by simp) ?_
   refine AllReadyH.cons rfl (fun Kc hK=>?_) AllReadyH.nil
   have HK:=Lib.hid hK
   clear hK hHeld
   rw [if_pos (by rfl)]
   refine wp_store_mid _ _ _ rfl w5.heap.size 0 (xcells X').toArray rfl rfl (H7.out.room Tryz.zeroCells38_size (H7.out.keep _ List.mem_cons_self).2.2.2 X') (xinfA X') (xcells_one X') ?_
   rw [List.toList_toArray]
   have H8:=Lib.hid (RH.lay Tryz.zeroCells38_size H7.out HNE.out X')
   have hb8:Below w2.heap.size w2 (w7.setCells w5.heap.size 0 (xcells X')):=below_sets HLE.out _ _ _ HB7.out
   obtain ⟨w8,hw8⟩:∃ w8,w8=w7.setCells w5.heap.size 0 (xcells X'):=⟨_,rfl⟩
   rw [← hw8] at H8 hb8 ⊢
   refine HK.out.out _ _ (HS.out _ hb8) (fun hHeld=>?_)
   try simp only [Act.put,List.getElem_toArray,List.getElem_cons_succ,List.getElem_cons_zero,List.setIfInBounds_toArray,List.set_cons_zero,List.set_cons_succ]
   clear HK Kc hw8 hb8 H7 HB7
   refine wpAnyH_takes (by kernel_rfl) (fun _ _ _ _ _ h=>h) hHeld [14] [(12,.int .i64 an)] 1 _ _ rfl (by kernel_rfl) ?_ ?_
   ·
    refine tkI rfl rfl (by rfl) ?_ <| tkN
    all_goals (intro W hSw;clear hHeld hSw;go_simp)
   simp only [putsL,listedL,Act.put,List.setIfInBounds_toArray,List.set_cons_zero,List.set_cons_succ]
   refine wpAnyH_done (by kernel_rfl) ?_ _
   clear hHeld
   have HRB:Hid (w8.rangeAt w5.heap.size 0 (xcells X')):=Lib.hid (XBlk.range (b:=w5.heap.size) (H8.out.keep _ List.mem_cons_self).2.2.2)
   obtain ⟨tb,htb⟩:∃ tb,tb=w5.heap.size:=⟨_,rfl⟩
   rw [← htb] at H8 HRB ⊢
   clear htb HLE HNE
   go_upto_region 22 with (first
    | (refine wpList_load_mid rfl 38 (.tmp 11) rfl tb 0 rfl (xcells X') _ HRB.out Tryz.underlying38 rfl (xinf X') ?_)
    | (refine wpList_store_mid rfl 38 (.tmp 123) (.tmp 121) rfl p 1 (xcells X').toArray rfl rfl (H8.out.there X') (xinfA X') (xcells_one X') ?_;obtain ⟨w9,hw9⟩:∃ w9,w9=w8.setCells p 1 (xcells X'):=⟨_,rfl⟩;rw [List.toList_toArray,← hw9]))
   have H9:=Lib.hid H8.out.store
   rw [← hw9] at H9
   clear hw9 H8 HRB
   go_wp2_with fail
   go_ret
   exact ⟨rfl,S',X',Lib.hid ⟨H9.out.less,HG.out.1,HG.out.2⟩⟩
  ·
   have HK:=Lib.hid hK
   clear hK hHeld
   go_simp
   have HB5:=Lib.hid ((Below.refl w2.heap.size w2).alloc (Nat.le_refl _) (.cells Tryz.zeroCells38 38)).drew
   have H6:=Lib.hid ((H2.out.alloc (.cells Tryz.zeroCells38 38)).below (Below.refl _ _).drew)
   have HNE:Hid (∀ z,z ∈ [(w.heap.size,some (Obj.cells #[.int .i64 kd,.int .i64 da,.int .i64 db,.int .i64 ei,.int .u64 ew,.int .i64 ev,.int .u64 er,.int .u64 dn,.bool di] 44 (0,0)))]→z.1≠w2.heap.size):=Lib.hid fun z hz=>by
    have:=(H2.out.keep z hz).2.1
    omega
   obtain ⟨w5,hw5⟩:∃ w5,w5=(w2.alloc (.cells Tryz.zeroCells38 38)).drew:=⟨_,rfl⟩
   have H6':Hid (RH w0 w5 p h S' S X X (K+10000) ((w2.heap.size,some (Obj.cells Tryz.zeroCells38 38 (0,0)))::[(w.heap.size,some (Obj.cells #[.int .i64 kd,.int .i64 da,.int .i64 db,.int .i64 ei,.int .u64 ew,.int .i64 ev,.int .u64 er,.int .u64 dn,.bool di] 44 (0,0)))])):=by rw [hw5];exact H6
   rw [← hw5] at HB5 ⊢
   refine HK.out.out _ _ (HS.out _ HB5.out) (fun hHeld=>?_)
   try simp only [Act.put,List.getElem_toArray,List.getElem_cons_succ,List.getElem_cons_zero,List.setIfInBounds_toArray,List.set_cons_zero,List.set_cons_succ]
   clear HK Kc hw5 H6
   refine wpAnyH_ready (rs:=[8]) (by kernel_rfl) (by simp) ?_
   refine AllReadyH.cons rfl (fun Kc hK=>?_) AllReadyH.nil
   have HK:=Lib.hid hK
   clear hK hHeld
   go_simp
   refine (MD.out _ _ H6'.out.at_).mono ?_
   rintro r w7 ⟨X',rfl,H5⟩
   have HB7:=Lib.hid (HB5.out.trans (H5.out.bel.mono HB5.out.size))
   have H7:=Lib.hid (H6'.out.doc H5.out)
   have HLE:=Lib.hid (Nat.le_refl w2.heap.size)
   clear H5
   refine HK.out.out _ _ (HS.out _ HB7.out) (fun hHeld=>?_)
   try simp only [Act.put,List.getElem_toArray,List.getElem_cons_succ,List.getElem_cons_zero,List.setIfInBounds_toArray,List.set_cons_zero,List.set_cons_succ]
   clear HK Kc H6' HB5
   refine wpAnyH_takes (by kernel_rfl) (fun _ _ _ _ _ h=>h) hHeld [9,10,11] [(108,.tuple #[xV X',.int .i64 an]),(118,xV X'),(119,.int .i64 an)] 3 _ _ rfl (by kernel_rfl) ?_ ?_
   ·
    refine tkI rfl rfl (by rfl) ?_ <| tkI rfl rfl (by rfl) ?_ <| tkI rfl rfl (by rfl) ?_ <| tkN
    all_goals (intro W hSw;clear hHeld hSw;go_simp)
   simp only [putsL,listedL,Act.put,List.setIfInBounds_toArray,List.set_cons_zero,List.set_cons_succ]
   refine wpAnyH_ready (rs:=[13]) (by kernel_rfl) (by simp) ?_
   refine AllReadyH.cons rfl (fun Kc hK=>?_) AllReadyH.nil
   have HK:=Lib.hid hK
   clear hK hHeld
   rw [if_pos (by rfl)]
   refine wp_store_mid _ _ _ rfl w2.heap.size 0 (xcells X').toArray rfl rfl (H7.out.room Tryz.zeroCells38_size (H7.out.keep _ List.mem_cons_self).2.2.2 X') (xinfA X') (xcells_one X') ?_
   rw [List.toList_toArray]
   have H8:=Lib.hid (RH.lay Tryz.zeroCells38_size H7.out HNE.out X')
   have hb8:Below w2.heap.size w2 (w7.setCells w2.heap.size 0 (xcells X')):=below_sets HLE.out _ _ _ HB7.out
   obtain ⟨w8,hw8⟩:∃ w8,w8=w7.setCells w2.heap.size 0 (xcells X'):=⟨_,rfl⟩
   rw [← hw8] at H8 hb8 ⊢
   refine HK.out.out _ _ (HS.out _ hb8) (fun hHeld=>?_)
   try simp only [Act.put,List.getElem_toArray,List.getElem_cons_succ,List.getElem_cons_zero,List.setIfInBounds_toArray,List.set_cons_zero,List.set_cons_succ]
   clear HK Kc hw8 hb8 H7 HB7
   refine wpAnyH_takes (by kernel_rfl) (fun _ _ _ _ _ h=>h) hHeld [14] [(12,.int .i64 an)] 1 _ _ rfl (by kernel_rfl) ?_ ?_
   ·
    refine tkI rfl rfl (by rfl) ?_ <| tkN
    all_goals (intro W hSw;clear hHeld hSw;go_simp)
   simp only [putsL,listedL,Act.put,List.setIfInBounds_toArray,List.set_cons_zero,List.set_cons_succ]
   refine wpAnyH_done (by kernel_rfl) ?_ _
   clear hHeld
   have HRB:Hid (w8.rangeAt w2.heap.size 0 (xcells X')):=Lib.hid (XBlk.range (b:=w2.heap.size) (H8.out.keep _ List.mem_cons_self).2.2.2)
   obtain ⟨tb,htb⟩:∃ tb,tb=w2.heap.size:=⟨_,rfl⟩
   rw [← htb] at H8 HRB ⊢
   clear htb HLE HNE
   go_upto_region 22 with (first
    | (refine wpList_load_mid rfl 38 (.tmp 11) rfl tb 0 rfl (xcells X') _ HRB.out Tryz.underlying38 rfl (xinf X') ?_)
    | (refine wpList_store_mid rfl 38 (.tmp 123) (.tmp 121) rfl p 1 (xcells X').toArray rfl rfl (H8.out.there X') (xinfA X') (xcells_one X') ?_;obtain ⟨w9,hw9⟩:∃ w9,w9=w8.setCells p 1 (xcells X'):=⟨_,rfl⟩;rw [List.toList_toArray,← hw9]))
   have H9:=Lib.hid H8.out.store
   rw [← hw9] at H9
   clear hw9 H8 HRB
   go_wp2_with fail
   go_ret
   exact ⟨rfl,S',X',Lib.hid ⟨H9.out.less,HG.out.1,HG.out.2⟩⟩
 have t2:(kd == 2)=false:=by rw [beq_eq_false_iff_ne];exact c2
 have u2:decide (kd=2)=false:=decide_eq_false c2
 clear c2
 by_cases c6:kd=6
 ·
  have t6:(kd == 6)=true:=by rw [beq_iff_eq];exact c6
  have u6:decide (kd=6)=true:=decide_eq_true c6
  clear c6
  obtain ⟨an,S',hG,hgr,MG,MD0⟩:=two_weigh HG0.out.1 hK da HDN.out.e.w2
  have MG1:=Lib.hid ((HR1.out.below (Below.refl _ _).drew).go (fun F a=>MG _ h F a))
  have MD:=Lib.hid MD0
  have HG:=Lib.hid (And.intro hG hgr)
  clear hG hgr MG MD0
  go_wp2_with fail
  clear x0 x1 x2 x3 x4 x5 x6 x7 x8 cp
  have HS:Hid (∀ (W:World) (S1:HS) (K1:Int),RH w0 W p h S1 S X X K1 [(w.heap.size,some (Obj.cells #[.int .i64 kd,.int .i64 da,.int .i64 db,.int .i64 ei,.int .u64 ew,.int .i64 ev,.int .u64 er,.int .u64 dn,.bool di] 44 (0,0)))]→(fun W=>W.cell? ⟨p,0,none⟩=some (.pointer (some ⟨h,0,none⟩))∧W.cell? ⟨w.heap.size,1,none⟩=some (.int .i64 da)∧W.cell? ⟨w.heap.size,4,none⟩=some (.int .u64 ew)) W):=Lib.hid fun W S1 K1 h3=>by
   have h4:Blk W w.heap.size #[.int .i64 kd,.int .i64 da,.int .i64 db,.int .i64 ei,.int .u64 ew,.int .i64 ev,.int .u64 er,.int .u64 dn,.bool di] 44:=(h3.keep _ List.mem_cons_self).2.2.2
   exact ⟨h3.ptr,Blk.cell h4 1,Blk.cell h4 4⟩
  refine wp_region_held_drew (S:=fun W=>W.cell? ⟨p,0,none⟩=some (.pointer (some ⟨h,0,none⟩))∧W.cell? ⟨w.heap.size,1,none⟩=some (.int .i64 da)∧W.cell? ⟨w.heap.size,4,none⟩=some (.int .u64 ew)) (by kernel_rfl) (HS.out _ _ _ (HR1.out.below (Below.refl _ _).drew)) (fun hHeld=>?_)
  refine wpAnyH_takes (by kernel_rfl) (fun _ _ _ _ _ h=>h) hHeld [0,1,2,3,4,5,6,7,8] [(127,.pointer (some ⟨p,0,none⟩)),(128,.pointer (some ⟨p,0,none⟩)),(129,.pointer (some ⟨p,0,none⟩)),(130,.pointer (some ⟨h,0,none⟩)),(131,.pointer (some ⟨w.heap.size,1,none⟩)),(132,.int .i64 da),(133,.pointer (some ⟨w.heap.size,3,none⟩)),(134,.pointer (some ⟨w.heap.size,4,none⟩)),(135,.int .u64 ew)] 9 _ _ rfl (by kernel_rfl) ?_ ?_
  ·
   refine tkI rfl rfl (by rfl) ?_ <| tkI rfl rfl (by rfl) ?_ <| tkI rfl rfl (by rfl) ?_ <| tkI rfl rfl (by rfl) ?_ <| tkI rfl rfl (by rfl) ?_ <| tkI rfl rfl (by rfl) ?_ <| tkI rfl rfl (by rfl) ?_ <| tkI rfl rfl (by rfl) ?_ <| tkI rfl rfl (by rfl) ?_ <| tkN
   all_goals (intro W hSw;obtain ⟨kp,k0,k1⟩:=hSw;clear hHeld;go_simp)
  simp only [putsL,listedL,Act.put,List.setIfInBounds_toArray,List.set_cons_zero,List.set_cons_succ]
  refine wpAnyH_ready (rs:=[9]) (by kernel_rfl) (by simp) ?_
  refine AllReadyH.cons rfl (fun Kc hK=>?_) AllReadyH.nil
  have HK:=Lib.hid hK
  clear hK hHeld
  go_simp
  refine MG1.out.mono ?_
  rintro r w2 ⟨rfl,H2⟩
  refine HK.out.out _ _ (HS.out _ _ _ H2.out) (fun hHeld=>?_)
  try simp only [Act.put,List.getElem_toArray,List.getElem_cons_succ,List.getElem_cons_zero,List.setIfInBounds_toArray,List.set_cons_zero,List.set_cons_succ]
  clear HK Kc MG1
  refine wpAnyH_takes (by kernel_rfl) (fun _ _ _ _ _ h=>h) hHeld [10] [(5,.int .i64 an)] 1 _ _ rfl (by kernel_rfl) ?_ ?_
  ·
   refine tkI rfl rfl (by rfl) ?_ <| tkN
   all_goals (intro W hSw;obtain ⟨kp,k0,k1⟩:=hSw;clear hHeld;go_simp)
  simp only [putsL,listedL,Act.put,List.setIfInBounds_toArray,List.set_cons_zero,List.set_cons_succ]
  refine wpAnyH_done (by kernel_rfl) ?_ _
  clear hHeld HS
  go_wp2_with fail
  have HS:Hid (∀ W,Below w2.heap.size w2 W→(fun W=>Below w2.heap.size w2 W∧W.rangeAt p 1 (xcells X)∧W.cell? ⟨w.heap.size,1,none⟩=some (.int .i64 da)∧W.cell? ⟨w.heap.size,4,none⟩=some (.int .u64 ew)) W):=Lib.hid fun W hW=>by
   have h3:=H2.out.below hW
   have h4:Blk W w.heap.size #[.int .i64 kd,.int .i64 da,.int .i64 db,.int .i64 ei,.int .u64 ew,.int .i64 ev,.int .u64 er,.int .u64 dn,.bool di] 44:=(h3.keep _ List.mem_cons_self).2.2.2
   exact ⟨hW,h3.range,Blk.cell h4 1,Blk.cell h4 4⟩
  refine wp_region_held_drew (S:=fun W=>Below w2.heap.size w2 W∧W.rangeAt p 1 (xcells X)∧W.cell? ⟨w.heap.size,1,none⟩=some (.int .i64 da)∧W.cell? ⟨w.heap.size,4,none⟩=some (.int .u64 ew)) (by kernel_rfl) (HS.out _ (Below.refl _ _).drew) (fun hHeld=>?_)
  refine wpAnyH_takes (by kernel_rfl) (fun _ _ _ _ _ h=>h) hHeld [0,1,2,3,4,5,6,7,8] [(138,.pointer (some ⟨p,0,none⟩)),(139,.pointer (some ⟨p,0,none⟩)),(140,.pointer (some ⟨p,1,none⟩)),(141,.agg (xcells X).toArray),(142,.pointer (some ⟨w.heap.size,1,none⟩)),(143,.int .i64 da),(144,.pointer (some ⟨w.heap.size,3,none⟩)),(145,.pointer (some ⟨w.heap.size,4,none⟩)),(146,.int .u64 ew)] 9 _ _ rfl (by kernel_rfl) ?_ ?_
  ·
   refine tkI rfl rfl (by rfl) ?_ <| tkI rfl rfl (by rfl) ?_ <| tkI rfl rfl (by rfl) ?_ <| tkY rfl rfl (yieldsIf_load_mid ?_ _ _ rfl p 1 ?_ (xcells X) _ (fun W h=>h.2.1) Tryz.underlying38 rfl (xinf X)) <| tkI rfl rfl (by rfl) ?_ <| tkI rfl rfl (by rfl) ?_ <| tkI rfl rfl (by rfl) ?_ <| tkI rfl rfl (by rfl) ?_ <| tkI rfl rfl (by rfl) ?_ <| tkN
   all_goals first | (intro W hSw;obtain ⟨-,-,k0,k1⟩:=hSw;clear hHeld;go_simp) | go_simp
  simp only [putsL,listedL,Act.put,List.setIfInBounds_toArray,List.set_cons_zero,List.set_cons_succ]
  refine wpAnyH_ready (rs:=[9,13]) (by kernel_rfl) (by simp) ?_
  refine AllReadyH.cons rfl (fun Kc hK=>?_) (AllReadyH.cons rfl (fun Kc hK=>?_) AllReadyH.nil)
  ·
   have HK:=Lib.hid hK
   clear hK hHeld
   go_simp
   refine (MD.out _ _ (H2.out.below (Below.refl _ _).drew).at_).mono ?_
   rintro r w5 ⟨X',rfl,H5⟩
   have HB5:=Lib.hid ((Below.refl w2.heap.size w2).drew.trans H5.out.bel)
   have H6:=Lib.hid ((H2.out.below (Below.refl _ _).drew).doc H5.out)
   clear H5
   refine HK.out.out _ _ (HS.out _ HB5.out) (fun hHeld=>?_)
   try simp only [Act.put,List.getElem_toArray,List.getElem_cons_succ,List.getElem_cons_zero,List.setIfInBounds_toArray,List.set_cons_zero,List.set_cons_succ]
   clear HK Kc
   refine wpAnyH_takes (by kernel_rfl) (fun _ _ _ _ _ h=>h) hHeld [10,11,12] [(137,.tuple #[xV X',.int .i64 an]),(148,xV X'),(149,.int .i64 an)] 3 _ _ rfl (by kernel_rfl) ?_ ?_
   ·
    refine tkI rfl rfl (by rfl) ?_ <| tkI rfl rfl (by rfl) ?_ <| tkI rfl rfl (by rfl) ?_ <| tkN
    all_goals (intro W hSw;clear hHeld hSw;go_simp)
   simp only [putsL,listedL,Act.put,List.setIfInBounds_toArray,List.set_cons_zero,List.set_cons_succ]
   refine wpAnyH_ready (rs:=[13]) (by kernel_rfl) (by simp) ?_
   refine AllReadyH.cons rfl (fun Kc hK=>?_) AllReadyH.nil
   have HK:=Lib.hid hK
   clear hK hHeld
   go_simp
   have HB7:=Lib.hid (HB5.out.alloc HB5.out.size (.cells Tryz.zeroCells38 38))
   have H7:=Lib.hid (H6.out.alloc (.cells Tryz.zeroCells38 38))
   have HLE:=Lib.hid HB5.out.size
   have HNE:Hid (∀ z,z ∈ [(w.heap.size,some (Obj.cells #[.int .i64 kd,.int .i64 da,.int .i64 db,.int .i64 ei,.int .u64 ew,.int .i64 ev,.int .u64 er,.int .u64 dn,.bool di] 44 (0,0)))]→z.1≠w5.heap.size):=Lib.hid fun z hz=>by
    have:=(H6.out.keep z hz).2.1
    omega
   obtain ⟨w7,hw7⟩:∃ w7,w7=w5.alloc (.cells Tryz.zeroCells38 38):=⟨_,rfl⟩
   rw [← hw7] at HB7 H7 ⊢
   refine HK.out.out _ _ (HS.out _ HB7.out) (fun hHeld=>?_)
   try simp only [Act.put,List.getElem_toArray,List.getElem_cons_succ,List.getElem_cons_zero,List.setIfInBounds_toArray,List.set_cons_zero,List.set_cons_succ]
   clear HK Kc hw7 HB5 H6
   refine wpAnyH_ready (rs:=[14]) (by kernel_rfl) (by simp) ?_
   refine AllReadyH.cons rfl (fun Kc hK=>?_) AllReadyH.nil
   have HK:=Lib.hid hK
   clear hK hHeld
   rw [if_pos (by rfl)]
   refine wp_store_mid _ _ _ rfl w5.heap.size 0 (xcells X').toArray rfl rfl (H7.out.room Tryz.zeroCells38_size (H7.out.keep _ List.mem_cons_self).2.2.2 X') (xinfA X') (xcells_one X') ?_
   rw [List.toList_toArray]
   have H8:=Lib.hid (RH.lay Tryz.zeroCells38_size H7.out HNE.out X')
   have hb8:Below w2.heap.size w2 (w7.setCells w5.heap.size 0 (xcells X')):=below_sets HLE.out _ _ _ HB7.out
   obtain ⟨w8,hw8⟩:∃ w8,w8=w7.setCells w5.heap.size 0 (xcells X'):=⟨_,rfl⟩
   rw [← hw8] at H8 hb8 ⊢
   refine HK.out.out _ _ (HS.out _ hb8) (fun hHeld=>?_)
   try simp only [Act.put,List.getElem_toArray,List.getElem_cons_succ,List.getElem_cons_zero,List.setIfInBounds_toArray,List.set_cons_zero,List.set_cons_succ]
   clear HK Kc hw8 hb8 H7 HB7
   refine wpAnyH_takes (by kernel_rfl) (fun _ _ _ _ _ h=>h) hHeld [15] [(14,.int .i64 an)] 1 _ _ rfl (by kernel_rfl) ?_ ?_
   ·
    refine tkI rfl rfl (by rfl) ?_ <| tkN
    all_goals (intro W hSw;clear hHeld hSw;go_simp)
   simp only [putsL,listedL,Act.put,List.setIfInBounds_toArray,List.set_cons_zero,List.set_cons_succ]
   refine wpAnyH_done (by kernel_rfl) ?_ _
   clear hHeld
   have HRB:Hid (w8.rangeAt w5.heap.size 0 (xcells X')):=Lib.hid (XBlk.range (b:=w5.heap.size) (H8.out.keep _ List.mem_cons_self).2.2.2)
   obtain ⟨tb,htb⟩:∃ tb,tb=w5.heap.size:=⟨_,rfl⟩
   rw [← htb] at H8 HRB ⊢
   clear htb HLE HNE
   go_upto_region 27 with (first
    | (refine wpList_load_mid rfl 38 (.tmp 13) rfl tb 0 rfl (xcells X') _ HRB.out Tryz.underlying38 rfl (xinf X') ?_)
    | (refine wpList_store_mid rfl 38 (.tmp 153) (.tmp 151) rfl p 1 (xcells X').toArray rfl rfl (H8.out.there X') (xinfA X') (xcells_one X') ?_;obtain ⟨w9,hw9⟩:∃ w9,w9=w8.setCells p 1 (xcells X'):=⟨_,rfl⟩;rw [List.toList_toArray,← hw9]))
   have H9:=Lib.hid H8.out.store
   rw [← hw9] at H9
   clear hw9 H8 HRB
   go_wp2_with fail
   go_ret
   exact ⟨rfl,S',X',Lib.hid ⟨H9.out.less,HG.out.1,HG.out.2⟩⟩
  ·
   have HK:=Lib.hid hK
   clear hK hHeld
   go_simp
   have HB5:=Lib.hid ((Below.refl w2.heap.size w2).alloc (Nat.le_refl _) (.cells Tryz.zeroCells38 38)).drew
   have H6:=Lib.hid ((H2.out.alloc (.cells Tryz.zeroCells38 38)).below (Below.refl _ _).drew)
   have HNE:Hid (∀ z,z ∈ [(w.heap.size,some (Obj.cells #[.int .i64 kd,.int .i64 da,.int .i64 db,.int .i64 ei,.int .u64 ew,.int .i64 ev,.int .u64 er,.int .u64 dn,.bool di] 44 (0,0)))]→z.1≠w2.heap.size):=Lib.hid fun z hz=>by
    have:=(H2.out.keep z hz).2.1
    omega
   obtain ⟨w5,hw5⟩:∃ w5,w5=(w2.alloc (.cells Tryz.zeroCells38 38)).drew:=⟨_,rfl⟩
   have H6':Hid (RH w0 w5 p h S' S X X (K+10000) ((w2.heap.size,some (Obj.cells Tryz.zeroCells38 38 (0,0)))::[(w.heap.size,some (Obj.cells #[.int .i64 kd,.int .i64 da,.int .i64 db,.int .i64 ei,.int .u64 ew,.int .i64 ev,.int .u64 er,.int .u64 dn,.bool di] 44 (0,0)))])):=by rw [hw5];exact H6
   rw [← hw5] at HB5 ⊢
   refine HK.out.out _ _ (HS.out _ HB5.out) (fun hHeld=>?_)
   try simp only [Act.put,List.getElem_toArray,List.getElem_cons_succ,List.getElem_cons_zero,List.setIfInBounds_toArray,List.set_cons_zero,List.set_cons_succ]
   clear HK Kc hw5 H6
   refine wpAnyH_ready (rs:=[9]) (by kernel_rfl) (by simp) ?_
   refine AllReadyH.cons rfl (fun Kc hK=>?_) AllReadyH.nil
   have HK:=Lib.hid hK
   clear hK hHeld
   go_simp
   refine (MD.out _ _ H6'.out.at_).mono ?_
   rintro r w7 ⟨X',rfl,H5⟩
   have HB7:=Lib.hid (HB5.out.trans (H5.out.bel.mono HB5.out.size))
   have H7:=Lib.hid (H6'.out.doc H5.out)
   have HLE:=Lib.hid (Nat.le_refl w2.heap.size)
   clear H5
   refine HK.out.out _ _ (HS.out _ HB7.out) (fun hHeld=>?_)
   try simp only [Act.put,List.getElem_toArray,List.getElem_cons_succ,List.getElem_cons_zero,List.setIfInBounds_toArray,List.set_cons_zero,List.set_cons_succ]
   clear HK Kc H6' HB5
   refine wpAnyH_takes (by kernel_rfl) (fun _ _ _ _ _ h=>h) hHeld [10,11,12] [(137,.tuple #[xV X',.int .i64 an]),(148,xV X'),(149,.int .i64 an)] 3 _ _ rfl (by kernel_rfl) ?_ ?_
   ·
    refine tkI rfl rfl (by rfl) ?_ <| tkI rfl rfl (by rfl) ?_ <| tkI rfl rfl (by rfl) ?_ <| tkN
    all_goals (intro W hSw;clear hHeld hSw;go_simp)
   simp only [putsL,listedL,Act.put,List.setIfInBounds_toArray,List.set_cons_zero,List.set_cons_succ]
   refine wpAnyH_ready (rs:=[14]) (by kernel_rfl) (by simp) ?_
   refine AllReadyH.cons rfl (fun Kc hK=>?_) AllReadyH.nil
   have HK:=Lib.hid hK
   clear hK hHeld
   rw [if_pos (by rfl)]
   refine wp_store_mid _ _ _ rfl w2.heap.size 0 (xcells X').toArray rfl rfl (H7.out.room Tryz.zeroCells38_size (H7.out.keep _ List.mem_cons_self).2.2.2 X') (xinfA X') (xcells_one X') ?_
   rw [List.toList_toArray]
   have H8:=Lib.hid (RH.lay Tryz.zeroCells38_size H7.out HNE.out X')
   have hb8:Below w2.heap.size w2 (w7.setCells w2.heap.size 0 (xcells X')):=below_sets HLE.out _ _ _ HB7.out
   obtain ⟨w8,hw8⟩:∃ w8,w8=w7.setCells w2.heap.size 0 (xcells X'):=⟨_,rfl⟩
   rw [← hw8] at H8 hb8 ⊢
   refine HK.out.out _ _ (HS.out _ hb8) (fun hHeld=>?_)
   try simp only [Act.put,List.getElem_toArray,List.getElem_cons_succ,List.getElem_cons_zero,List.setIfInBounds_toArray,List.set_cons_zero,List.set_cons_succ]
   clear HK Kc hw8 hb8 H7 HB7
   refine wpAnyH_takes (by kernel_rfl) (fun _ _ _ _ _ h=>h) hHeld [15] [(14,.int .i64 an)] 1 _ _ rfl (by kernel_rfl) ?_ ?_
   ·
    refine tkI rfl rfl (by rfl) ?_ <| tkN
    all_goals (intro W hSw;clear hHeld hSw;go_simp)
   simp only [putsL,listedL,Act.put,List.setIfInBounds_toArray,List.set_cons_zero,List.set_cons_succ]
   refine wpAnyH_done (by kernel_rfl) ?_ _
   clear hHeld
   have HRB:Hid (w8.rangeAt w2.heap.size 0 (xcells X')):=Lib.hid (XBlk.range (b:=w2.heap.size) (H8.out.keep _ List.mem_cons_self).2.2.2)
   obtain ⟨tb,htb⟩:∃ tb,tb=w2.heap.size:=⟨_,rfl⟩
   rw [← htb] at H8 HRB ⊢
   clear htb HLE HNE
   go_upto_region 27 with (first
    | (refine wpList_load_mid rfl 38 (.tmp 13) rfl tb 0 rfl (xcells X') _ HRB.out Tryz.underlying38 rfl (xinf X') ?_)
    | (refine wpList_store_mid rfl 38 (.tmp 153) (.tmp 151) rfl p 1 (xcells X').toArray rfl rfl (H8.out.there X') (xinfA X') (xcells_one X') ?_;obtain ⟨w9,hw9⟩:∃ w9,w9=w8.setCells p 1 (xcells X'):=⟨_,rfl⟩;rw [List.toList_toArray,← hw9]))
   have H9:=Lib.hid H8.out.store
   rw [← hw9] at H9
   clear hw9 H8 HRB
   go_wp2_with fail
   go_ret
   exact ⟨rfl,S',X',Lib.hid ⟨H9.out.less,HG.out.1,HG.out.2⟩⟩
 have t6:(kd == 6)=false:=by rw [beq_eq_false_iff_ne];exact c6
 have u6:decide (kd=6)=false:=decide_eq_false c6
 clear c6
 obtain ⟨an,S',hG,hgr,MG,MD0⟩:=two_stop HG0.out.1 hK da di
 have MG1:=Lib.hid ((HR1.out.below (Below.refl _ _).drew).go (fun F a=>MG _ h F a))
 have MD:=Lib.hid MD0
 have HG:=Lib.hid (And.intro hG hgr)
 clear hG hgr MG MD0
 go_wp2_with fail
 clear x0 x1 x2 x3 x4 x5 x6 x7 x8 cp
 have HS:Hid (∀ (W:World) (S1:HS) (K1:Int),RH w0 W p h S1 S X X K1 [(w.heap.size,some (Obj.cells #[.int .i64 kd,.int .i64 da,.int .i64 db,.int .i64 ei,.int .u64 ew,.int .i64 ev,.int .u64 er,.int .u64 dn,.bool di] 44 (0,0)))]→(fun W=>W.cell? ⟨p,0,none⟩=some (.pointer (some ⟨h,0,none⟩))∧W.cell? ⟨w.heap.size,1,none⟩=some (.int .i64 da)∧W.cell? ⟨w.heap.size,8,none⟩=some (.bool di)) W):=Lib.hid fun W S1 K1 h3=>by
  have h4:Blk W w.heap.size #[.int .i64 kd,.int .i64 da,.int .i64 db,.int .i64 ei,.int .u64 ew,.int .i64 ev,.int .u64 er,.int .u64 dn,.bool di] 44:=(h3.keep _ List.mem_cons_self).2.2.2
  exact ⟨h3.ptr,Blk.cell h4 1,Blk.cell h4 8⟩
 refine wp_region_held_drew (S:=fun W=>W.cell? ⟨p,0,none⟩=some (.pointer (some ⟨h,0,none⟩))∧W.cell? ⟨w.heap.size,1,none⟩=some (.int .i64 da)∧W.cell? ⟨w.heap.size,8,none⟩=some (.bool di)) (by kernel_rfl) (HS.out _ _ _ (HR1.out.below (Below.refl _ _).drew)) (fun hHeld=>?_)
 refine wpAnyH_takes (by kernel_rfl) (fun _ _ _ _ _ h=>h) hHeld [0,1,2,3,4,5,6,7] [(19,.pointer (some ⟨p,0,none⟩)),(20,.pointer (some ⟨p,0,none⟩)),(21,.pointer (some ⟨p,0,none⟩)),(22,.pointer (some ⟨h,0,none⟩)),(23,.pointer (some ⟨w.heap.size,1,none⟩)),(24,.int .i64 da),(25,.pointer (some ⟨w.heap.size,8,none⟩)),(26,.bool di)] 8 _ _ rfl (by kernel_rfl) ?_ ?_
 ·
  refine tkI rfl rfl (by rfl) ?_ <| tkI rfl rfl (by rfl) ?_ <| tkI rfl rfl (by rfl) ?_ <| tkI rfl rfl (by rfl) ?_ <| tkI rfl rfl (by rfl) ?_ <| tkI rfl rfl (by rfl) ?_ <| tkI rfl rfl (by rfl) ?_ <| tkI rfl rfl (by rfl) ?_ <| tkN
  all_goals (intro W hSw;obtain ⟨kp,k0,k1⟩:=hSw;clear hHeld;go_simp)
 simp only [putsL,listedL,Act.put,List.setIfInBounds_toArray,List.set_cons_zero,List.set_cons_succ]
 refine wpAnyH_ready (rs:=[8]) (by kernel_rfl) (by simp) ?_
 refine AllReadyH.cons rfl (fun Kc hK=>?_) AllReadyH.nil
 have HK:=Lib.hid hK
 clear hK hHeld
 go_simp
 refine MG1.out.mono ?_
 rintro r w2 ⟨rfl,H2⟩
 refine HK.out.out _ _ (HS.out _ _ _ H2.out) (fun hHeld=>?_)
 try simp only [Act.put,List.getElem_toArray,List.getElem_cons_succ,List.getElem_cons_zero,List.setIfInBounds_toArray,List.set_cons_zero,List.set_cons_succ]
 clear HK Kc MG1
 refine wpAnyH_takes (by kernel_rfl) (fun _ _ _ _ _ h=>h) hHeld [9] [(5,.int .i64 an)] 1 _ _ rfl (by kernel_rfl) ?_ ?_
 ·
  refine tkI rfl rfl (by rfl) ?_ <| tkN
  all_goals (intro W hSw;obtain ⟨kp,k0,k1⟩:=hSw;clear hHeld;go_simp)
 simp only [putsL,listedL,Act.put,List.setIfInBounds_toArray,List.set_cons_zero,List.set_cons_succ]
 refine wpAnyH_done (by kernel_rfl) ?_ _
 clear hHeld HS
 go_wp2_with fail
 have HS:Hid (∀ W,Below w2.heap.size w2 W→(fun W=>Below w2.heap.size w2 W∧W.rangeAt p 1 (xcells X)∧W.cell? ⟨w.heap.size,1,none⟩=some (.int .i64 da)∧W.cell? ⟨w.heap.size,8,none⟩=some (.bool di)) W):=Lib.hid fun W hW=>by
  have h3:=H2.out.below hW
  have h4:Blk W w.heap.size #[.int .i64 kd,.int .i64 da,.int .i64 db,.int .i64 ei,.int .u64 ew,.int .i64 ev,.int .u64 er,.int .u64 dn,.bool di] 44:=(h3.keep _ List.mem_cons_self).2.2.2
  exact ⟨hW,h3.range,Blk.cell h4 1,Blk.cell h4 8⟩
 refine wp_region_held_drew (S:=fun W=>Below w2.heap.size w2 W∧W.rangeAt p 1 (xcells X)∧W.cell? ⟨w.heap.size,1,none⟩=some (.int .i64 da)∧W.cell? ⟨w.heap.size,8,none⟩=some (.bool di)) (by kernel_rfl) (HS.out _ (Below.refl _ _).drew) (fun hHeld=>?_)
 refine wpAnyH_takes (by kernel_rfl) (fun _ _ _ _ _ h=>h) hHeld [0,1,2,3,4,5,6,7] [(29,.pointer (some ⟨p,0,none⟩)),(30,.pointer (some ⟨p,0,none⟩)),(31,.pointer (some ⟨p,1,none⟩)),(32,.agg (xcells X).toArray),(33,.pointer (some ⟨w.heap.size,1,none⟩)),(34,.int .i64 da),(35,.pointer (some ⟨w.heap.size,8,none⟩)),(36,.bool di)] 8 _ _ rfl (by kernel_rfl) ?_ ?_
 ·
  refine tkI rfl rfl (by rfl) ?_ <| tkI rfl rfl (by rfl) ?_ <| tkI rfl rfl (by rfl) ?_ <| tkY rfl rfl (yieldsIf_load_mid ?_ _ _ rfl p 1 ?_ (xcells X) _ (fun W h=>h.2.1) Tryz.underlying38 rfl (xinf X)) <| tkI rfl rfl (by rfl) ?_ <| tkI rfl rfl (by rfl) ?_ <| tkI rfl rfl (by rfl) ?_ <| tkI rfl rfl (by rfl) ?_ <| tkN
  all_goals first | (intro W hSw;obtain ⟨-,-,k0,k1⟩:=hSw;clear hHeld;go_simp) | go_simp
 simp only [putsL,listedL,Act.put,List.setIfInBounds_toArray,List.set_cons_zero,List.set_cons_succ]
 refine wpAnyH_ready (rs:=[8,12]) (by kernel_rfl) (by simp) ?_
 refine AllReadyH.cons rfl (fun Kc hK=>?_) (AllReadyH.cons rfl (fun Kc hK=>?_) AllReadyH.nil)
 ·
  have HK:=Lib.hid hK
  clear hK hHeld
  go_simp
  refine (MD.out _ _ (H2.out.below (Below.refl _ _).drew).at_).mono ?_
  rintro r w5 ⟨X',rfl,H5⟩
  have HB5:=Lib.hid ((Below.refl w2.heap.size w2).drew.trans H5.out.bel)
  have H6:=Lib.hid ((H2.out.below (Below.refl _ _).drew).doc H5.out)
  clear H5
  refine HK.out.out _ _ (HS.out _ HB5.out) (fun hHeld=>?_)
  try simp only [Act.put,List.getElem_toArray,List.getElem_cons_succ,List.getElem_cons_zero,List.setIfInBounds_toArray,List.set_cons_zero,List.set_cons_succ]
  clear HK Kc
  refine wpAnyH_takes (by kernel_rfl) (fun _ _ _ _ _ h=>h) hHeld [9,10,11] [(28,.tuple #[xV X',.int .i64 an]),(38,xV X'),(39,.int .i64 an)] 3 _ _ rfl (by kernel_rfl) ?_ ?_
  ·
   refine tkI rfl rfl (by rfl) ?_ <| tkI rfl rfl (by rfl) ?_ <| tkI rfl rfl (by rfl) ?_ <| tkN
   all_goals (intro W hSw;clear hHeld hSw;go_simp)
  simp only [putsL,listedL,Act.put,List.setIfInBounds_toArray,List.set_cons_zero,List.set_cons_succ]
  refine wpAnyH_ready (rs:=[12]) (by kernel_rfl) (by simp) ?_
  refine AllReadyH.cons rfl (fun Kc hK=>?_) AllReadyH.nil
  have HK:=Lib.hid hK
  clear hK hHeld
  go_simp
  have HB7:=Lib.hid (HB5.out.alloc HB5.out.size (.cells Tryz.zeroCells38 38))
  have H7:=Lib.hid (H6.out.alloc (.cells Tryz.zeroCells38 38))
  have HLE:=Lib.hid HB5.out.size
  have HNE:Hid (∀ z,z ∈ [(w.heap.size,some (Obj.cells #[.int .i64 kd,.int .i64 da,.int .i64 db,.int .i64 ei,.int .u64 ew,.int .i64 ev,.int .u64 er,.int .u64 dn,.bool di] 44 (0,0)))]→z.1≠w5.heap.size):=Lib.hid fun z hz=>by
   have:=(H6.out.keep z hz).2.1
   omega
  obtain ⟨w7,hw7⟩:∃ w7,w7=w5.alloc (.cells Tryz.zeroCells38 38):=⟨_,rfl⟩
  rw [← hw7] at HB7 H7 ⊢
  refine HK.out.out _ _ (HS.out _ HB7.out) (fun hHeld=>?_)
  try simp only [Act.put,List.getElem_toArray,List.getElem_cons_succ,List.getElem_cons_zero,List.setIfInBounds_toArray,List.set_cons_zero,List.set_cons_succ]
  clear HK Kc hw7 HB5 H6
  refine wpAnyH_ready (rs:=[13]) (by kernel_rfl) (by simp) ?_
  refine AllReadyH.cons rfl (fun Kc hK=>?_) AllReadyH.nil
  have HK:=Lib.hid hK
  clear hK hHeld
  rw [if_pos (by rfl)]
  refine wp_store_mid _ _ _ rfl w5.heap.size 0 (xcells X').toArray rfl rfl (H7.out.room Tryz.zeroCells38_size (H7.out.keep _ List.mem_cons_self).2.2.2 X') (xinfA X') (xcells_one X') ?_
  rw [List.toList_toArray]
  have H8:=Lib.hid (RH.lay Tryz.zeroCells38_size H7.out HNE.out X')
  have hb8:Below w2.heap.size w2 (w7.setCells w5.heap.size 0 (xcells X')):=below_sets HLE.out _ _ _ HB7.out
  obtain ⟨w8,hw8⟩:∃ w8,w8=w7.setCells w5.heap.size 0 (xcells X'):=⟨_,rfl⟩
  rw [← hw8] at H8 hb8 ⊢
  refine HK.out.out _ _ (HS.out _ hb8) (fun hHeld=>?_)
  try simp only [Act.put,List.getElem_toArray,List.getElem_cons_succ,List.getElem_cons_zero,List.setIfInBounds_toArray,List.set_cons_zero,List.set_cons_succ]
  clear HK Kc hw8 hb8 H7 HB7
  refine wpAnyH_takes (by kernel_rfl) (fun _ _ _ _ _ h=>h) hHeld [14] [(16,.int .i64 an)] 1 _ _ rfl (by kernel_rfl) ?_ ?_
  ·
   refine tkI rfl rfl (by rfl) ?_ <| tkN
   all_goals (intro W hSw;clear hHeld hSw;go_simp)
  simp only [putsL,listedL,Act.put,List.setIfInBounds_toArray,List.set_cons_zero,List.set_cons_succ]
  refine wpAnyH_done (by kernel_rfl) ?_ _
  clear hHeld
  have HRB:Hid (w8.rangeAt w5.heap.size 0 (xcells X')):=Lib.hid (XBlk.range (b:=w5.heap.size) (H8.out.keep _ List.mem_cons_self).2.2.2)
  obtain ⟨tb,htb⟩:∃ tb,tb=w5.heap.size:=⟨_,rfl⟩
  rw [← htb] at H8 HRB ⊢
  clear htb HLE HNE
  go_upto_region 7 with (first
   | (refine wpList_load_mid rfl 38 (.tmp 15) rfl tb 0 rfl (xcells X') _ HRB.out Tryz.underlying38 rfl (xinf X') ?_)
   | (refine wpList_store_mid rfl 38 (.tmp 43) (.tmp 41) rfl p 1 (xcells X').toArray rfl rfl (H8.out.there X') (xinfA X') (xcells_one X') ?_;obtain ⟨w9,hw9⟩:∃ w9,w9=w8.setCells p 1 (xcells X'):=⟨_,rfl⟩;rw [List.toList_toArray,← hw9]))
  have H9:=Lib.hid H8.out.store
  rw [← hw9] at H9
  clear hw9 H8 HRB
  go_wp2_with fail
  go_ret
  exact ⟨rfl,S',X',Lib.hid ⟨H9.out.less,HG.out.1,HG.out.2⟩⟩
 ·
  have HK:=Lib.hid hK
  clear hK hHeld
  go_simp
  have HB5:=Lib.hid ((Below.refl w2.heap.size w2).alloc (Nat.le_refl _) (.cells Tryz.zeroCells38 38)).drew
  have H6:=Lib.hid ((H2.out.alloc (.cells Tryz.zeroCells38 38)).below (Below.refl _ _).drew)
  have HNE:Hid (∀ z,z ∈ [(w.heap.size,some (Obj.cells #[.int .i64 kd,.int .i64 da,.int .i64 db,.int .i64 ei,.int .u64 ew,.int .i64 ev,.int .u64 er,.int .u64 dn,.bool di] 44 (0,0)))]→z.1≠w2.heap.size):=Lib.hid fun z hz=>by
   have:=(H2.out.keep z hz).2.1
   omega
  obtain ⟨w5,hw5⟩:∃ w5,w5=(w2.alloc (.cells Tryz.zeroCells38 38)).drew:=⟨_,rfl⟩
  have H6':Hid (RH w0 w5 p h S' S X X (K+10000) ((w2.heap.size,some (Obj.cells Tryz.zeroCells38 38 (0,0)))::[(w.heap.size,some (Obj.cells #[.int .i64 kd,.int .i64 da,.int .i64 db,.int .i64 ei,.int .u64 ew,.int .i64 ev,.int .u64 er,.int .u64 dn,.bool di] 44 (0,0)))])):=by rw [hw5];exact H6
  rw [← hw5] at HB5 ⊢
  refine HK.out.out _ _ (HS.out _ HB5.out) (fun hHeld=>?_)
  try simp only [Act.put,List.getElem_toArray,List.getElem_cons_succ,List.getElem_cons_zero,List.setIfInBounds_toArray,List.set_cons_zero,List.set_cons_succ]
  clear HK Kc hw5 H6
  refine wpAnyH_ready (rs:=[8]) (by kernel_rfl) (by simp) ?_
  refine AllReadyH.cons rfl (fun Kc hK=>?_) AllReadyH.nil
  have HK:=Lib.hid hK
  clear hK hHeld
  go_simp
  refine (MD.out _ _ H6'.out.at_).mono ?_
  rintro r w7 ⟨X',rfl,H5⟩
  have HB7:=Lib.hid (HB5.out.trans (H5.out.bel.mono HB5.out.size))
  have H7:=Lib.hid (H6'.out.doc H5.out)
  have HLE:=Lib.hid (Nat.le_refl w2.heap.size)
  clear H5
  refine HK.out.out _ _ (HS.out _ HB7.out) (fun hHeld=>?_)
  try simp only [Act.put,List.getElem_toArray,List.getElem_cons_succ,List.getElem_cons_zero,List.setIfInBounds_toArray,List.set_cons_zero,List.set_cons_succ]
  clear HK Kc H6' HB5
  refine wpAnyH_takes (by kernel_rfl) (fun _ _ _ _ _ h=>h) hHeld [9,10,11] [(28,.tuple #[xV X',.int .i64 an]),(38,xV X'),(39,.int .i64 an)] 3 _ _ rfl (by kernel_rfl) ?_ ?_
  ·
   refine tkI rfl rfl (by rfl) ?_ <| tkI rfl rfl (by rfl) ?_ <| tkI rfl rfl (by rfl) ?_ <| tkN
   all_goals (intro W hSw;clear hHeld hSw;go_simp)
  simp only [putsL,listedL,Act.put,List.setIfInBounds_toArray,List.set_cons_zero,List.set_cons_succ]
  refine wpAnyH_ready (rs:=[13]) (by kernel_rfl) (by simp) ?_
  refine AllReadyH.cons rfl (fun Kc hK=>?_) AllReadyH.nil
  have HK:=Lib.hid hK
  clear hK hHeld
  rw [if_pos (by rfl)]
  refine wp_store_mid _ _ _ rfl w2.heap.size 0 (xcells X').toArray rfl rfl (H7.out.room Tryz.zeroCells38_size (H7.out.keep _ List.mem_cons_self).2.2.2 X') (xinfA X') (xcells_one X') ?_
  rw [List.toList_toArray]
  have H8:=Lib.hid (RH.lay Tryz.zeroCells38_size H7.out HNE.out X')
  have hb8:Below w2.heap.size w2 (w7.setCells w2.heap.size 0 (xcells X')):=below_sets HLE.out _ _ _ HB7.out
  obtain ⟨w8,hw8⟩:∃ w8,w8=w7.setCells w2.heap.size 0 (xcells X'):=⟨_,rfl⟩
  rw [← hw8] at H8 hb8 ⊢
  refine HK.out.out _ _ (HS.out _ hb8) (fun hHeld=>?_)
  try simp only [Act.put,List.getElem_toArray,List.getElem_cons_succ,List.getElem_cons_zero,List.setIfInBounds_toArray,List.set_cons_zero,List.set_cons_succ]
  clear HK Kc hw8 hb8 H7 HB7
  refine wpAnyH_takes (by kernel_rfl) (fun _ _ _ _ _ h=>h) hHeld [14] [(16,.int .i64 an)] 1 _ _ rfl (by kernel_rfl) ?_ ?_
  ·
   refine tkI rfl rfl (by rfl) ?_ <| tkN
   all_goals (intro W hSw;clear hHeld hSw;go_simp)
  simp only [putsL,listedL,Act.put,List.setIfInBounds_toArray,List.set_cons_zero,List.set_cons_succ]
  refine wpAnyH_done (by kernel_rfl) ?_ _
  clear hHeld
  have HRB:Hid (w8.rangeAt w2.heap.size 0 (xcells X')):=Lib.hid (XBlk.range (b:=w2.heap.size) (H8.out.keep _ List.mem_cons_self).2.2.2)
  obtain ⟨tb,htb⟩:∃ tb,tb=w2.heap.size:=⟨_,rfl⟩
  rw [← htb] at H8 HRB ⊢
  clear htb HLE HNE
  go_upto_region 7 with (first
   | (refine wpList_load_mid rfl 38 (.tmp 15) rfl tb 0 rfl (xcells X') _ HRB.out Tryz.underlying38 rfl (xinf X') ?_)
   | (refine wpList_store_mid rfl 38 (.tmp 43) (.tmp 41) rfl p 1 (xcells X').toArray rfl rfl (H8.out.there X') (xinfA X') (xcells_one X') ?_;obtain ⟨w9,hw9⟩:∃ w9,w9=w8.setCells p 1 (xcells X'):=⟨_,rfl⟩;rw [List.toList_toArray,← hw9]))
  have H9:=Lib.hid H8.out.store
  rw [← hw9] at H9
  clear hw9 H8 HRB
  go_wp2_with fail
  go_ret
  exact ⟨rfl,S',X',Lib.hid ⟨H9.out.less,HG.out.1,HG.out.2⟩⟩
end
end Go.Proofs.YtefekboacghnjaaGreat
