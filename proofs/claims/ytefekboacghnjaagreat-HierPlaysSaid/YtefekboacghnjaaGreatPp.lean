/-
  dolelaw20.both.do: Drop; whatever deed.
-/
import Derived.Test.YtefekboacghnjaaGreatPo
import Derived.Test.YtefekboacghnjaaGreatPg
set_option linter.unusedVariables false
set_option linter.unusedSimpArgs false
namespace Go.Proofs.YtefekboacghnjaaGreat
open Go.RowKit Go.Maps
section
variable {w0 w:World} {p h:Nat} {S Z:HS} {X Y:XH} {K:Int} {B B':List (Nat × Option Obj)}
theorem RH.sub (r:RH w0 w p h S Z Y X K B) (k:∀ z,z ∈ B'→z ∈ B):RH w0 w p h S Z Y X K B':=by
 obtain ⟨F,h1,h2,h3,h4,h5⟩:=r.ex
 exact ⟨⟨F,h1,h2,h3,fun z hz=>h4 z (k z hz),h5⟩,r.bel,r.p0,r.box,r.at_,fun a ha=>⟨(r.row a ha).1,fun z hz=>(r.row a ha).2 z (k z hz)⟩,fun z hz=>r.keep z (k z hz)⟩
theorem ecl4_one (e:En):(ecl e).toArray.all (·.oneCell')=true:=all_oneCell_toArray fun v hv=>by
 simp only [ecl,List.mem_cons,List.not_mem_nil,or_false] at hv
 rcases hv with rfl | rfl | rfl | rfl <;> rfl
theorem RH.layE {b:Nat} {v0 v1 v2 v3:Value} {e:En} (r:RH w0 w p h S Z Y X K ((b,some (.cells #[v0,v1,v2,v3] 34 (0,0)))::B)) (hd:∀ z,z ∈ B→z.1≠b) :
  RH w0 (w.setCells b 0 (ecl e)) p h S Z Y X K ((b,some (.cells (ecl e).toArray 34 (0,0)))::B):=by
 obtain ⟨k1,k2,k3,k4⟩:=r.keep _ List.mem_cons_self
 have hb:Blk w b ([]++([v0,v1,v2,v3]++[])).toArray 34:=k4
 have h4:=Blk.sets (ecl e) [v0,v1,v2,v3] [] [] w rfl hb
 rw [List.nil_append,List.append_nil,List.length_nil] at h4
 exact r.setB (below_sets k1 _ _ _ r.bel) (size_sets _ _ _) (fun c hc=>other_sets hc _ _ _) h4 hd
theorem RH.thereE {b:Nat} {v0 v1 v2 v3:Value} (r:RH w0 w p h S Z Y X K ((b,some (.cells #[v0,v1,v2,v3] 34 (0,0)))::B)):w.there b 0 4:=by
 have hb:Blk w b #[v0,v1,v2,v3] 34:=(r.keep _ List.mem_cons_self).2.2.2
 intro j hj
 rw [Nat.zero_add,Blk.cell hb j]
 exact ⟨by rw [Array.getElem?_eq_getElem (show j<(#[v0,v1,v2,v3]:Array Value).size from hj)];rfl,Blk.frozen hb j⟩
set_option maxRecDepth 100000 in
set_option maxHeartbeats 64000000 in
theorem do_drop (r0:RH w0 w p h S S X X K []) (H:HGood S) (hK:K+10000≤1000000000000000) (d:Dh) (hd:d.num) (hk:d.kind=4) :
  Calls Tryz.prog 7 #[.pointer (some ⟨p,0,none⟩),.agg d.cells.toArray] w fun r w'=>r=.returned (.bool true)∧∃ S' X',Hid (RH w0 w' p h S' S' X' X' (K+10000) []∧HGood S'∧S'.gran=S.gran):=by
 obtain ⟨kd,da,db,⟨ei,ew,ev,er⟩,dn,di⟩:=d
 obtain rfl:kd=4:=hk
 obtain ⟨w1,hw1⟩:∃ w1,w1=w.alloc (.cells #[.int .i64 4,.int .i64 da,.int .i64 db,.int .i64 ei,.int .u64 ew,.int .i64 ev,.int .u64 er,.int .u64 dn,.bool di] 44):=⟨_,rfl⟩
 have hR1:RH w0 w1 p h S S X X K [(w.heap.size,some (Obj.cells #[.int .i64 4,.int .i64 da,.int .i64 db,.int .i64 ei,.int .u64 ew,.int .i64 ev,.int .u64 er,.int .u64 dn,.bool di] 44 (0,0)))]:=by rw [hw1];exact r0.alloc _
 have hB1:Blk w1 w.heap.size #[.int .i64 4,.int .i64 da,.int .i64 db,.int .i64 ei,.int .u64 ew,.int .i64 ev,.int .u64 er,.int .u64 dn,.bool di] 44:=(hR1.keep _ List.mem_cons_self).2.2.2
 obtain ⟨x0,x1,x2,x3,x4,x5,x6,x7,x8⟩:=deed9 hB1
 have cp:=hR1.ptr
 have HR1:=Lib.hid hR1
 have HW1:=Lib.hid hw1
 have HG0:=Lib.hid (And.intro H True.intro)
 have HDN:=Lib.hid hd
 clear hR1 hB1 r0 H hd
 show Calls Tryz.prog _ #[.pointer (some ⟨p,0,none⟩),.agg #[.int .i64 4,.int .i64 da,.int .i64 db,.int .i64 ei,.int .u64 ew,.int .i64 ev,.int .u64 er,.int .u64 dn,.bool di]] w _
 go_enter Tryz.func7,Tryz.ntmps7
 go_upto_region 1 with (fail)
 rw [← hw1]
 clear hw1
 obtain ⟨⟨a0,a1,a2,a3⟩,an,S',hG,hgr,MG0,MD0⟩:=two_drop HG0.out.1 hK da ei
 have MG:=Lib.hid MG0
 have MD:=Lib.hid MD0
 have HG:=Lib.hid (And.intro hG hgr)
 clear hG hgr MG0 MD0
 go_wp2_with fail
 clear x0 x1 x2 x3 x4 x5 x6 x7 x8 cp
 go_cut [11,12] from 24 (fun s1 s2 wr=>∃ eb:Nat,s1=.pointer (some ⟨eb,0,none⟩)∧s2=.int .i64 an∧Hid (RH w0 wr p h S' S X X (K+10000) [(eb,some (Obj.cells #[.int .i64 a0,.int .u64 a1,.int .i64 a2,.int .u64 a3] 34 (0,0))),(w.heap.size,some (Obj.cells #[.int .i64 4,.int .i64 da,.int .i64 db,.int .i64 ei,.int .u64 ew,.int .i64 ev,.int .u64 er,.int .u64 dn,.bool di] 44 (0,0)))]))
 case first =>
  have HS:Hid (∀ (W:World) (S1 Z:HS) (Y:XH) (K1:Int) (B:List (Nat × Option Obj)),RH w0 W p h S1 Z X Y K1 B→(w.heap.size,some (Obj.cells #[.int .i64 4,.int .i64 da,.int .i64 db,.int .i64 ei,.int .u64 ew,.int .i64 ev,.int .u64 er,.int .u64 dn,.bool di] 44 (0,0))) ∈ B→(fun W=>W.cell? ⟨p,0,none⟩=some (.pointer (some ⟨h,0,none⟩))∧W.rangeAt p 1 (xcells X)∧W.cell? ⟨w.heap.size,1,none⟩=some (.int .i64 da)∧W.cell? ⟨w.heap.size,3,none⟩=some (.int .i64 ei)) W):=Lib.hid fun W S1 Z Y K1 B h3 hm=>by
   have h4:Blk W w.heap.size #[.int .i64 4,.int .i64 da,.int .i64 db,.int .i64 ei,.int .u64 ew,.int .i64 ev,.int .u64 er,.int .u64 dn,.bool di] 44:=(h3.keep _ hm).2.2.2
   exact ⟨h3.ptr,h3.range,Blk.cell h4 1,Blk.cell h4 3⟩
  refine wp_region_held_drew (S:=(fun W=>W.cell? ⟨p,0,none⟩=some (.pointer (some ⟨h,0,none⟩))∧W.rangeAt p 1 (xcells X)∧W.cell? ⟨w.heap.size,1,none⟩=some (.int .i64 da)∧W.cell? ⟨w.heap.size,3,none⟩=some (.int .i64 ei))) (by kernel_rfl) (HS.out _ _ _ _ _ _ (HR1.out.below (Below.refl _ _).drew) (by simp)) (fun hHeld=>?_)
  obtain ⟨w2,hw2⟩:∃ w2,w2=w1.drew:=⟨_,rfl⟩
  have HR2:Hid (RH w0 w2 p h S S X X K [(w.heap.size,some (Obj.cells #[.int .i64 4,.int .i64 da,.int .i64 db,.int .i64 ei,.int .u64 ew,.int .i64 ev,.int .u64 er,.int .u64 dn,.bool di] 44 (0,0)))]):=Lib.hid (by rw [hw2];exact HR1.out.below (Below.refl _ _).drew)
  rw [← hw2] at hHeld ⊢
  clear hw2 HR1
  refine wpAnyH_takes (by kernel_rfl) (fun _ _ _ _ _ h=>h) hHeld [0,1,2,3,4,5,6,7,8] [(84,.pointer (some ⟨p,0,none⟩)),(85,.pointer (some ⟨p,0,none⟩)),(86,.pointer (some ⟨p,0,none⟩)),(87,.pointer (some ⟨h,0,none⟩)),(88,.pointer (some ⟨w.heap.size,1,none⟩)),(89,.int .i64 da),(90,.pointer (some ⟨w.heap.size,3,none⟩)),(91,.pointer (some ⟨w.heap.size,3,none⟩)),(92,.int .i64 ei)] 9 _ _ rfl (by kernel_rfl) ?_ ?_
  ·
   refine tkI rfl rfl (by rfl) ?_ <| tkI rfl rfl (by rfl) ?_ <| tkI rfl rfl (by rfl) ?_ <| tkI rfl rfl (by rfl) ?_ <| tkI rfl rfl (by rfl) ?_ <| tkI rfl rfl (by rfl) ?_ <| tkI rfl rfl (by rfl) ?_ <| tkI rfl rfl (by rfl) ?_ <| tkI rfl rfl (by rfl) ?_ <| tkN
   all_goals (intro W hSw;obtain ⟨kp,-,k0,k1⟩:=hSw;clear hHeld;go_simp)
  simp only [putsL,listedL,Act.put,List.setIfInBounds_toArray,List.set_cons_zero,List.set_cons_succ]
  refine wpAnyH_ready (rs:=[9,13]) (by kernel_rfl) (by simp) ?_
  refine AllReadyH.cons rfl (fun Kc hK=>?_) (AllReadyH.cons rfl (fun Kc hK=>?_) AllReadyH.nil)
  ·
   have HK:=Lib.hid hK
   clear hK hHeld
   go_simp
   refine (HR2.out.go (fun F a=>MG.out _ h F a)).mono ?_
   rintro r wc2 ⟨rfl,HC1⟩
   refine HK.out.out _ _ (HS.out _ _ _ _ _ _ HC1.out (by simp)) (fun hHeld=>?_)
   try simp only [Act.put,List.getElem_toArray,List.getElem_cons_succ,List.getElem_cons_zero,List.setIfInBounds_toArray,List.set_cons_zero,List.set_cons_succ]
   clear HK Kc
   clear HR2 MG
   refine wpAnyH_takes (by kernel_rfl) (fun _ _ _ _ _ h=>h) hHeld [10,11,12] [(83,.tuple #[.agg #[.int .i64 a0,.int .u64 a1,.int .i64 a2,.int .u64 a3],.int .i64 an]),(94,.agg #[.int .i64 a0,.int .u64 a1,.int .i64 a2,.int .u64 a3]),(95,.int .i64 an)] 3 _ _ rfl (by kernel_rfl) ?_ ?_
   ·
    refine tkI rfl rfl (by rfl) ?_ <| tkI rfl rfl (by rfl) ?_ <| tkI rfl rfl (by rfl) ?_ <| tkN
    all_goals (intro W hSw;clear hHeld hSw;go_simp)
   simp only [putsL,listedL,Act.put,List.setIfInBounds_toArray,List.set_cons_zero,List.set_cons_succ]
   refine wpAnyH_ready (rs:=[13]) (by kernel_rfl) (by simp) ?_
   refine AllReadyH.cons rfl (fun Kc hK=>?_) AllReadyH.nil
   have HK:=Lib.hid hK
   clear hK hHeld
   go_simp
   have HA3:=Lib.hid (HC1.out.alloc (.cells #[.int .i64 0,.int .u64 0,.int .i64 0,.int .u64 0] 34))
   have HNHA3:Hid (∀ z,z ∈ [(w.heap.size,some (Obj.cells #[.int .i64 4,.int .i64 da,.int .i64 db,.int .i64 ei,.int .u64 ew,.int .i64 ev,.int .u64 er,.int .u64 dn,.bool di] 44 (0,0)))]→z.1≠wc2.heap.size):=Lib.hid fun z hz=>by
    have:=(HC1.out.keep z hz).2.1
    omega
   obtain ⟨wa4,hwa4⟩:∃ x,x=wc2.alloc (.cells #[.int .i64 0,.int .u64 0,.int .i64 0,.int .u64 0] 34):=⟨_,rfl⟩
   rw [← hwa4] at HA3 ⊢
   obtain ⟨eb,heb⟩:∃ x,x=wc2.heap.size:=⟨_,rfl⟩
   rw [← heb] at HA3 HNHA3 ⊢
   clear hwa4 heb
   refine HK.out.out _ _ (HS.out _ _ _ _ _ _ HA3.out (by simp)) (fun hHeld=>?_)
   try simp only [Act.put,List.getElem_toArray,List.getElem_cons_succ,List.getElem_cons_zero,List.setIfInBounds_toArray,List.set_cons_zero,List.set_cons_succ]
   clear HK Kc
   clear HC1
   refine wpAnyH_ready (rs:=[14]) (by kernel_rfl) (by simp) ?_
   refine AllReadyH.cons rfl (fun Kc hK=>?_) AllReadyH.nil
   have HK:=Lib.hid hK
   clear hK hHeld
   rw [if_pos (by rfl)]
   refine wp_store_mid _ _ _ rfl eb 0 (ecl ⟨a0,a1,a2,a3⟩).toArray rfl rfl (RH.thereE HA3.out) (by rfl) (ecl4_one _) ?_
   rw [List.toList_toArray]
   have HE:=Lib.hid (RH.layE (e:=⟨a0,a1,a2,a3⟩) HA3.out HNHA3.out)
   obtain ⟨w4,hw4⟩:∃ x,x=wa4.setCells eb 0 (ecl ⟨a0,a1,a2,a3⟩):=⟨_,rfl⟩
   rw [← hw4] at HE ⊢
   clear hw4
   refine HK.out.out _ _ (HS.out _ _ _ _ _ _ HE.out (by simp)) (fun hHeld=>?_)
   try simp only [Act.put,List.getElem_toArray,List.getElem_cons_succ,List.getElem_cons_zero,List.setIfInBounds_toArray,List.set_cons_zero,List.set_cons_succ]
   clear HK Kc
   clear HA3
   refine wpAnyH_takes (by kernel_rfl) (fun _ _ _ _ _ h=>h) hHeld [15] [(12,.int .i64 an)] 1 _ _ rfl (by kernel_rfl) ?_ ?_
   ·
    refine tkI rfl rfl (by rfl) ?_ <| tkN
    all_goals (intro W hSw;clear hHeld hSw;go_simp)
   simp only [putsL,listedL,Act.put,List.setIfInBounds_toArray,List.set_cons_zero,List.set_cons_succ]
   refine wpAnyH_done (by kernel_rfl) ?_ _
   clear hHeld
   go_wp2_with fail
   go_meet
   case rel=>exact ⟨eb,rfl,rfl,HE⟩
  ·
   have HK:=Lib.hid hK
   clear hK hHeld
   go_simp
   have HA6:=Lib.hid (HR2.out.alloc (.cells #[.int .i64 0,.int .u64 0,.int .i64 0,.int .u64 0] 34))
   have HNHA6:Hid (∀ z,z ∈ [(w.heap.size,some (Obj.cells #[.int .i64 4,.int .i64 da,.int .i64 db,.int .i64 ei,.int .u64 ew,.int .i64 ev,.int .u64 er,.int .u64 dn,.bool di] 44 (0,0)))]→z.1≠w2.heap.size):=Lib.hid fun z hz=>by
    have:=(HR2.out.keep z hz).2.1
    omega
   obtain ⟨wa7,hwa7⟩:∃ x,x=w2.alloc (.cells #[.int .i64 0,.int .u64 0,.int .i64 0,.int .u64 0] 34):=⟨_,rfl⟩
   rw [← hwa7] at HA6 ⊢
   obtain ⟨eb,heb⟩:∃ x,x=w2.heap.size:=⟨_,rfl⟩
   rw [← heb] at HA6 HNHA6 ⊢
   clear hwa7 heb
   refine HK.out.out _ _ (HS.out _ _ _ _ _ _ HA6.out (by simp)) (fun hHeld=>?_)
   try simp only [Act.put,List.getElem_toArray,List.getElem_cons_succ,List.getElem_cons_zero,List.setIfInBounds_toArray,List.set_cons_zero,List.set_cons_succ]
   clear HK Kc
   clear HR2
   refine wpAnyH_ready (rs:=[9]) (by kernel_rfl) (by simp) ?_
   refine AllReadyH.cons rfl (fun Kc hK=>?_) AllReadyH.nil
   have HK:=Lib.hid hK
   clear hK hHeld
   go_simp
   refine (HA6.out.go (fun F a=>MG.out _ h F a)).mono ?_
   rintro r wc9 ⟨rfl,HC8⟩
   refine HK.out.out _ _ (HS.out _ _ _ _ _ _ HC8.out (by simp)) (fun hHeld=>?_)
   try simp only [Act.put,List.getElem_toArray,List.getElem_cons_succ,List.getElem_cons_zero,List.setIfInBounds_toArray,List.set_cons_zero,List.set_cons_succ]
   clear HK Kc
   clear HA6 MG
   refine wpAnyH_takes (by kernel_rfl) (fun _ _ _ _ _ h=>h) hHeld [10,11,12] [(83,.tuple #[.agg #[.int .i64 a0,.int .u64 a1,.int .i64 a2,.int .u64 a3],.int .i64 an]),(94,.agg #[.int .i64 a0,.int .u64 a1,.int .i64 a2,.int .u64 a3]),(95,.int .i64 an)] 3 _ _ rfl (by kernel_rfl) ?_ ?_
   ·
    refine tkI rfl rfl (by rfl) ?_ <| tkI rfl rfl (by rfl) ?_ <| tkI rfl rfl (by rfl) ?_ <| tkN
    all_goals (intro W hSw;clear hHeld hSw;go_simp)
   simp only [putsL,listedL,Act.put,List.setIfInBounds_toArray,List.set_cons_zero,List.set_cons_succ]
   refine wpAnyH_ready (rs:=[14]) (by kernel_rfl) (by simp) ?_
   refine AllReadyH.cons rfl (fun Kc hK=>?_) AllReadyH.nil
   have HK:=Lib.hid hK
   clear hK hHeld
   rw [if_pos (by rfl)]
   refine wp_store_mid _ _ _ rfl eb 0 (ecl ⟨a0,a1,a2,a3⟩).toArray rfl rfl (RH.thereE HC8.out) (by rfl) (ecl4_one _) ?_
   rw [List.toList_toArray]
   have HE:=Lib.hid (RH.layE (e:=⟨a0,a1,a2,a3⟩) HC8.out HNHA6.out)
   obtain ⟨w4,hw4⟩:∃ x,x=wc9.setCells eb 0 (ecl ⟨a0,a1,a2,a3⟩):=⟨_,rfl⟩
   rw [← hw4] at HE ⊢
   clear hw4
   refine HK.out.out _ _ (HS.out _ _ _ _ _ _ HE.out (by simp)) (fun hHeld=>?_)
   try simp only [Act.put,List.getElem_toArray,List.getElem_cons_succ,List.getElem_cons_zero,List.setIfInBounds_toArray,List.set_cons_zero,List.set_cons_succ]
   clear HK Kc
   clear HC8
   refine wpAnyH_takes (by kernel_rfl) (fun _ _ _ _ _ h=>h) hHeld [15] [(12,.int .i64 an)] 1 _ _ rfl (by kernel_rfl) ?_ ?_
   ·
    refine tkI rfl rfl (by rfl) ?_ <| tkN
    all_goals (intro W hSw;clear hHeld hSw;go_simp)
   simp only [putsL,listedL,Act.put,List.setIfInBounds_toArray,List.set_cons_zero,List.set_cons_succ]
   refine wpAnyH_done (by kernel_rfl) ?_ _
   clear hHeld
   go_wp2_with fail
   go_meet
   case rel=>exact ⟨eb,rfl,rfl,HE⟩
 case rest =>
  clear HR1 MG
  obtain ⟨eb,rfl,rfl,HE⟩:=hcut
  go_wp2_with fail
  go_cut [13,14,15] from 24 (fun s1 s2 s3 wr=>∃ (X':XH) (xb fb:Nat),s1=.pointer (some ⟨xb,0,none⟩)∧s2=.pointer (some ⟨fb,0,none⟩)∧s3=.int .i64 an∧Hid (RH w0 wr p h S' S' X X' (K+10000) [(fb,some (Obj.cells #[.int .i64 a0,.int .u64 a1,.int .i64 a2,.int .u64 a3] 34 (0,0))),(xb,some (Obj.cells (xcells X').toArray 38 (0,0))),(eb,some (Obj.cells #[.int .i64 a0,.int .u64 a1,.int .i64 a2,.int .u64 a3] 34 (0,0))),(w.heap.size,some (Obj.cells #[.int .i64 4,.int .i64 da,.int .i64 db,.int .i64 ei,.int .u64 ew,.int .i64 ev,.int .u64 er,.int .u64 dn,.bool di] 44 (0,0)))]))
  case first =>
   have HS:Hid (∀ (W:World) (S1 Z:HS) (Y:XH) (K1:Int) (B:List (Nat × Option Obj)),RH w0 W p h S1 Z X Y K1 B→(w.heap.size,some (Obj.cells #[.int .i64 4,.int .i64 da,.int .i64 db,.int .i64 ei,.int .u64 ew,.int .i64 ev,.int .u64 er,.int .u64 dn,.bool di] 44 (0,0))) ∈ B→(fun W=>W.cell? ⟨p,0,none⟩=some (.pointer (some ⟨h,0,none⟩))∧W.rangeAt p 1 (xcells X)∧W.cell? ⟨w.heap.size,1,none⟩=some (.int .i64 da)∧W.cell? ⟨w.heap.size,3,none⟩=some (.int .i64 ei)) W):=Lib.hid fun W S1 Z Y K1 B h3 hm=>by
    have h4:Blk W w.heap.size #[.int .i64 4,.int .i64 da,.int .i64 db,.int .i64 ei,.int .u64 ew,.int .i64 ev,.int .u64 er,.int .u64 dn,.bool di] 44:=(h3.keep _ hm).2.2.2
    exact ⟨h3.ptr,h3.range,Blk.cell h4 1,Blk.cell h4 3⟩
   refine wp_region_held_drew (S:=(fun W=>W.cell? ⟨p,0,none⟩=some (.pointer (some ⟨h,0,none⟩))∧W.rangeAt p 1 (xcells X)∧W.cell? ⟨w.heap.size,1,none⟩=some (.int .i64 da)∧W.cell? ⟨w.heap.size,3,none⟩=some (.int .i64 ei))) (by kernel_rfl) (HS.out _ _ _ _ _ _ (HE.out.below (Below.refl _ _).drew) (by simp)) (fun hHeld=>?_)
   obtain ⟨w5,hw5⟩:∃ w5,w5=wc.drew:=⟨_,rfl⟩
   have HR5:Hid (RH w0 w5 p h S' S X X (K+10000) [(eb,some (Obj.cells #[.int .i64 a0,.int .u64 a1,.int .i64 a2,.int .u64 a3] 34 (0,0))),(w.heap.size,some (Obj.cells #[.int .i64 4,.int .i64 da,.int .i64 db,.int .i64 ei,.int .u64 ew,.int .i64 ev,.int .u64 er,.int .u64 dn,.bool di] 44 (0,0)))]):=Lib.hid (by rw [hw5];exact HE.out.below (Below.refl _ _).drew)
   rw [← hw5] at hHeld ⊢
   clear hw5 HE
   refine wpAnyH_takes (by kernel_rfl) (fun _ _ _ _ _ h=>h) hHeld [0,1,2,3,4,5,6,7,8] [(97,.pointer (some ⟨p,0,none⟩)),(98,.pointer (some ⟨p,0,none⟩)),(99,.pointer (some ⟨p,1,none⟩)),(100,.agg (xcells X).toArray),(101,.pointer (some ⟨w.heap.size,1,none⟩)),(102,.int .i64 da),(103,.pointer (some ⟨w.heap.size,3,none⟩)),(104,.pointer (some ⟨w.heap.size,3,none⟩)),(105,.int .i64 ei)] 9 _ _ rfl (by kernel_rfl) ?_ ?_
   ·
    refine tkI rfl rfl (by rfl) ?_ <| tkI rfl rfl (by rfl) ?_ <| tkI rfl rfl (by rfl) ?_ <| tkY rfl rfl (yieldsIf_load_mid ?_ _ _ rfl p 1 ?_ (xcells X) _ (fun W h=>h.2.1) Tryz.underlying38 rfl (xinf X)) <| tkI rfl rfl (by rfl) ?_ <| tkI rfl rfl (by rfl) ?_ <| tkI rfl rfl (by rfl) ?_ <| tkI rfl rfl (by rfl) ?_ <| tkI rfl rfl (by rfl) ?_ <| tkN
    all_goals first | (intro W hSw;obtain ⟨kp,-,k0,k1⟩:=hSw;clear hHeld;go_simp) | go_simp
   simp only [putsL,listedL,Act.put,List.setIfInBounds_toArray,List.set_cons_zero,List.set_cons_succ]
   refine wpAnyH_ready (rs:=[9,14,15]) (by kernel_rfl) (by simp) ?_
   refine AllReadyH.cons rfl (fun Kc hK=>?_) (AllReadyH.cons rfl (fun Kc hK=>?_) (AllReadyH.cons rfl (fun Kc hK=>?_) AllReadyH.nil))
   ·
    have HK:=Lib.hid hK
    clear hK hHeld
    go_simp
    refine (MD.out _ _ HR5.out.at_).mono ?_
    rintro r wc12 ⟨X',rfl,HT13⟩
    have HC11:=Lib.hid (HR5.out.doc HT13.out)
    refine HK.out.out _ _ (HS.out _ _ _ _ _ _ HC11.out (by simp)) (fun hHeld=>?_)
    try simp only [Act.put,List.getElem_toArray,List.getElem_cons_succ,List.getElem_cons_zero,List.setIfInBounds_toArray,List.set_cons_zero,List.set_cons_succ]
    clear HK Kc
    clear HR5 HT13
    refine wpAnyH_takes (by kernel_rfl) (fun _ _ _ _ _ h=>h) hHeld [10,11,12,13] [(96,.tuple #[xV X',.agg #[.int .i64 a0,.int .u64 a1,.int .i64 a2,.int .u64 a3],.int .i64 an]),(107,xV X'),(108,.agg #[.int .i64 a0,.int .u64 a1,.int .i64 a2,.int .u64 a3]),(109,.int .i64 an)] 4 _ _ rfl (by kernel_rfl) ?_ ?_
    ·
     refine tkI rfl rfl (by rfl) ?_ <| tkI rfl rfl (by rfl) ?_ <| tkI rfl rfl (by rfl) ?_ <| tkI rfl rfl (by rfl) ?_ <| tkN
     all_goals (intro W hSw;clear hHeld hSw;go_simp)
    simp only [putsL,listedL,Act.put,List.setIfInBounds_toArray,List.set_cons_zero,List.set_cons_succ]
    refine wpAnyH_ready (rs:=[14,15]) (by kernel_rfl) (by simp) ?_
    refine AllReadyH.cons rfl (fun Kc hK=>?_) (AllReadyH.cons rfl (fun Kc hK=>?_) AllReadyH.nil)
    ·
     have HK:=Lib.hid hK
     clear hK hHeld
     go_simp
     have HA14:=Lib.hid (HC11.out.alloc (.cells Tryz.zeroCells38 38))
     have HNHA14:Hid (∀ z,z ∈ [(eb,some (Obj.cells #[.int .i64 a0,.int .u64 a1,.int .i64 a2,.int .u64 a3] 34 (0,0))),(w.heap.size,some (Obj.cells #[.int .i64 4,.int .i64 da,.int .i64 db,.int .i64 ei,.int .u64 ew,.int .i64 ev,.int .u64 er,.int .u64 dn,.bool di] 44 (0,0)))]→z.1≠wc12.heap.size):=Lib.hid fun z hz=>by
      have:=(HC11.out.keep z hz).2.1
      omega
     obtain ⟨wa15,hwa15⟩:∃ x,x=wc12.alloc (.cells Tryz.zeroCells38 38):=⟨_,rfl⟩
     rw [← hwa15] at HA14 ⊢
     obtain ⟨xb,hxb⟩:∃ x,x=wc12.heap.size:=⟨_,rfl⟩
     rw [← hxb] at HA14 HNHA14 ⊢
     clear hwa15 hxb
     refine HK.out.out _ _ (HS.out _ _ _ _ _ _ HA14.out (by simp)) (fun hHeld=>?_)
     try simp only [Act.put,List.getElem_toArray,List.getElem_cons_succ,List.getElem_cons_zero,List.setIfInBounds_toArray,List.set_cons_zero,List.set_cons_succ]
     clear HK Kc
     clear HC11
     refine wpAnyH_ready (rs:=[15]) (by kernel_rfl) (by simp) ?_
     refine AllReadyH.cons rfl (fun Kc hK=>?_) AllReadyH.nil
     have HK:=Lib.hid hK
     clear hK hHeld
     go_simp
     have HA16:=Lib.hid (HA14.out.alloc (.cells #[.int .i64 0,.int .u64 0,.int .i64 0,.int .u64 0] 34))
     have HNHA16:Hid (∀ z,z ∈ [(xb,some (Obj.cells Tryz.zeroCells38 38 (0,0))),(eb,some (Obj.cells #[.int .i64 a0,.int .u64 a1,.int .i64 a2,.int .u64 a3] 34 (0,0))),(w.heap.size,some (Obj.cells #[.int .i64 4,.int .i64 da,.int .i64 db,.int .i64 ei,.int .u64 ew,.int .i64 ev,.int .u64 er,.int .u64 dn,.bool di] 44 (0,0)))]→z.1≠wa15.heap.size):=Lib.hid fun z hz=>by
      have:=(HA14.out.keep z hz).2.1
      omega
     obtain ⟨wa17,hwa17⟩:∃ x,x=wa15.alloc (.cells #[.int .i64 0,.int .u64 0,.int .i64 0,.int .u64 0] 34):=⟨_,rfl⟩
     rw [← hwa17] at HA16 ⊢
     obtain ⟨fb,hfb⟩:∃ x,x=wa15.heap.size:=⟨_,rfl⟩
     rw [← hfb] at HA16 HNHA16 ⊢
     clear hwa17 hfb
     refine HK.out.out _ _ (HS.out _ _ _ _ _ _ HA16.out (by simp)) (fun hHeld=>?_)
     try simp only [Act.put,List.getElem_toArray,List.getElem_cons_succ,List.getElem_cons_zero,List.setIfInBounds_toArray,List.set_cons_zero,List.set_cons_succ]
     clear HK Kc
     clear HA14
     have NX1:Hid (eb≠xb):=Lib.hid (HNHA14.out (eb,some (Obj.cells #[.int .i64 a0,.int .u64 a1,.int .i64 a2,.int .u64 a3] 34 (0,0))) (by simp))
     have NX2:Hid (w.heap.size≠xb):=Lib.hid (HNHA14.out (w.heap.size,some (Obj.cells #[.int .i64 4,.int .i64 da,.int .i64 db,.int .i64 ei,.int .u64 ew,.int .i64 ev,.int .u64 er,.int .u64 dn,.bool di] 44 (0,0))) (by simp))
     have NF1:Hid (eb≠fb):=Lib.hid (HNHA16.out (eb,some (Obj.cells #[.int .i64 a0,.int .u64 a1,.int .i64 a2,.int .u64 a3] 34 (0,0))) (by simp))
     have NF2:Hid (w.heap.size≠fb):=Lib.hid (HNHA16.out (w.heap.size,some (Obj.cells #[.int .i64 4,.int .i64 da,.int .i64 db,.int .i64 ei,.int .u64 ew,.int .i64 ev,.int .u64 er,.int .u64 dn,.bool di] 44 (0,0))) (by simp))
     have NXF:Hid (xb≠fb):=Lib.hid (HNHA16.out (xb,some (Obj.cells Tryz.zeroCells38 38 (0,0))) (by simp))
     clear HNHA14 HNHA16 MD
     obtain ⟨w6,hw6⟩:∃ x,x=wa17:=⟨_,rfl⟩
     rw [← hw6] at hHeld ⊢
     have H7:Hid (RH w0 w6 p h S' S' X X' (K+10000) [(xb,some (Obj.cells Tryz.zeroCells38 38 (0,0))),(fb,some (Obj.cells #[.int .i64 0,.int .u64 0,.int .i64 0,.int .u64 0] 34 (0,0))),(eb,some (Obj.cells #[.int .i64 a0,.int .u64 a1,.int .i64 a2,.int .u64 a3] 34 (0,0))),(w.heap.size,some (Obj.cells #[.int .i64 4,.int .i64 da,.int .i64 db,.int .i64 ei,.int .u64 ew,.int .i64 ev,.int .u64 er,.int .u64 dn,.bool di] 44 (0,0)))]):=Lib.hid (by rw [hw6];exact RH.sub HA16.out (fun z hz=>by simp only [List.mem_cons,List.not_mem_nil,or_false] at hz ⊢;rcases hz with rfl | rfl | rfl | rfl <;> simp))
     clear hw6 HA16
     refine wpAnyH_ready (rs:=[16]) (by kernel_rfl) (by simp) ?_
     refine AllReadyH.cons rfl (fun Kc hK=>?_) AllReadyH.nil
     have HK:=Lib.hid hK
     clear hK hHeld
     rw [if_pos (by rfl)]
     refine wp_store_mid _ _ _ rfl xb 0 (xcells X').toArray rfl rfl (H7.out.room Tryz.zeroCells38_size (H7.out.keep _ List.mem_cons_self).2.2.2 X') (xinfA X') (xcells_one X') ?_
     rw [List.toList_toArray]
     have HB1:=Lib.hid (RH.lay Tryz.zeroCells38_size H7.out (by intro z hz;simp only [List.mem_cons,List.not_mem_nil,or_false] at hz;rcases hz with rfl | rfl | rfl;exact (Ne.symm NXF.out);exact NX1.out;exact NX2.out) X')
     obtain ⟨w7,hw7⟩:∃ x,x=w6.setCells xb 0 (xcells X'):=⟨_,rfl⟩
     rw [← hw7] at HB1 ⊢
     have H8:Hid (RH w0 w7 p h S' S' X X' (K+10000) [(fb,some (Obj.cells #[.int .i64 0,.int .u64 0,.int .i64 0,.int .u64 0] 34 (0,0))),(xb,some (Obj.cells (xcells X').toArray 38 (0,0))),(eb,some (Obj.cells #[.int .i64 a0,.int .u64 a1,.int .i64 a2,.int .u64 a3] 34 (0,0))),(w.heap.size,some (Obj.cells #[.int .i64 4,.int .i64 da,.int .i64 db,.int .i64 ei,.int .u64 ew,.int .i64 ev,.int .u64 er,.int .u64 dn,.bool di] 44 (0,0)))]):=Lib.hid (RH.sub HB1.out (fun z hz=>by simp only [List.mem_cons,List.not_mem_nil,or_false] at hz ⊢;rcases hz with rfl | rfl | rfl | rfl <;> simp))
     clear hw7 HB1 H7
     refine HK.out.out _ _ (HS.out _ _ _ _ _ _ H8.out (by simp)) (fun hHeld=>?_)
     try simp only [Act.put,List.getElem_toArray,List.getElem_cons_succ,List.getElem_cons_zero,List.setIfInBounds_toArray,List.set_cons_zero,List.set_cons_succ]
     clear HK Kc
     refine wpAnyH_ready (rs:=[17]) (by kernel_rfl) (by simp) ?_
     refine AllReadyH.cons rfl (fun Kc hK=>?_) AllReadyH.nil
     have HK:=Lib.hid hK
     clear hK hHeld
     rw [if_pos (by rfl)]
     refine wp_store_mid _ _ _ rfl fb 0 (ecl ⟨a0,a1,a2,a3⟩).toArray rfl rfl (RH.thereE H8.out) (by rfl) (ecl4_one _) ?_
     rw [List.toList_toArray]
     have HB2:=Lib.hid (RH.layE (e:=⟨a0,a1,a2,a3⟩) H8.out (by intro z hz;simp only [List.mem_cons,List.not_mem_nil,or_false] at hz;rcases hz with rfl | rfl | rfl;exact NXF.out;exact NF1.out;exact NF2.out))
     obtain ⟨w8,hw8⟩:∃ x,x=w7.setCells fb 0 (ecl ⟨a0,a1,a2,a3⟩):=⟨_,rfl⟩
     rw [← hw8] at HB2 ⊢
     clear hw8 H8
     refine HK.out.out _ _ (HS.out _ _ _ _ _ _ HB2.out (by simp)) (fun hHeld=>?_)
     try simp only [Act.put,List.getElem_toArray,List.getElem_cons_succ,List.getElem_cons_zero,List.setIfInBounds_toArray,List.set_cons_zero,List.set_cons_succ]
     clear HK Kc
     refine wpAnyH_takes (by kernel_rfl) (fun _ _ _ _ _ h=>h) hHeld [18] [(15,.int .i64 an)] 1 _ _ rfl (by kernel_rfl) ?_ ?_
     ·
      refine tkI rfl rfl (by rfl) ?_ <| tkN
      all_goals (intro W hSw;clear hHeld hSw;go_simp)
     simp only [putsL,listedL,Act.put,List.setIfInBounds_toArray,List.set_cons_zero,List.set_cons_succ]
     refine wpAnyH_done (by kernel_rfl) ?_ _
     clear hHeld HS
     go_wp2_with fail
     go_meet
     case rel=>exact ⟨X',xb,fb,rfl,rfl,rfl,HB2⟩
    ·
     have HK:=Lib.hid hK
     clear hK hHeld
     go_simp
     have HA18:=Lib.hid (HC11.out.alloc (.cells #[.int .i64 0,.int .u64 0,.int .i64 0,.int .u64 0] 34))
     have HNHA18:Hid (∀ z,z ∈ [(eb,some (Obj.cells #[.int .i64 a0,.int .u64 a1,.int .i64 a2,.int .u64 a3] 34 (0,0))),(w.heap.size,some (Obj.cells #[.int .i64 4,.int .i64 da,.int .i64 db,.int .i64 ei,.int .u64 ew,.int .i64 ev,.int .u64 er,.int .u64 dn,.bool di] 44 (0,0)))]→z.1≠wc12.heap.size):=Lib.hid fun z hz=>by
      have:=(HC11.out.keep z hz).2.1
      omega
     obtain ⟨wa19,hwa19⟩:∃ x,x=wc12.alloc (.cells #[.int .i64 0,.int .u64 0,.int .i64 0,.int .u64 0] 34):=⟨_,rfl⟩
     rw [← hwa19] at HA18 ⊢
     obtain ⟨fb,hfb⟩:∃ x,x=wc12.heap.size:=⟨_,rfl⟩
     rw [← hfb] at HA18 HNHA18 ⊢
     clear hwa19 hfb
     refine HK.out.out _ _ (HS.out _ _ _ _ _ _ HA18.out (by simp)) (fun hHeld=>?_)
     try simp only [Act.put,List.getElem_toArray,List.getElem_cons_succ,List.getElem_cons_zero,List.setIfInBounds_toArray,List.set_cons_zero,List.set_cons_succ]
     clear HK Kc
     clear HC11
     refine wpAnyH_ready (rs:=[14]) (by kernel_rfl) (by simp) ?_
     refine AllReadyH.cons rfl (fun Kc hK=>?_) AllReadyH.nil
     have HK:=Lib.hid hK
     clear hK hHeld
     go_simp
     have HA20:=Lib.hid (HA18.out.alloc (.cells Tryz.zeroCells38 38))
     have HNHA20:Hid (∀ z,z ∈ [(fb,some (Obj.cells #[.int .i64 0,.int .u64 0,.int .i64 0,.int .u64 0] 34 (0,0))),(eb,some (Obj.cells #[.int .i64 a0,.int .u64 a1,.int .i64 a2,.int .u64 a3] 34 (0,0))),(w.heap.size,some (Obj.cells #[.int .i64 4,.int .i64 da,.int .i64 db,.int .i64 ei,.int .u64 ew,.int .i64 ev,.int .u64 er,.int .u64 dn,.bool di] 44 (0,0)))]→z.1≠wa19.heap.size):=Lib.hid fun z hz=>by
      have:=(HA18.out.keep z hz).2.1
      omega
     obtain ⟨wa21,hwa21⟩:∃ x,x=wa19.alloc (.cells Tryz.zeroCells38 38):=⟨_,rfl⟩
     rw [← hwa21] at HA20 ⊢
     obtain ⟨xb,hxb⟩:∃ x,x=wa19.heap.size:=⟨_,rfl⟩
     rw [← hxb] at HA20 HNHA20 ⊢
     clear hwa21 hxb
     refine HK.out.out _ _ (HS.out _ _ _ _ _ _ HA20.out (by simp)) (fun hHeld=>?_)
     try simp only [Act.put,List.getElem_toArray,List.getElem_cons_succ,List.getElem_cons_zero,List.setIfInBounds_toArray,List.set_cons_zero,List.set_cons_succ]
     clear HK Kc
     clear HA18
     have NX1:Hid (eb≠xb):=Lib.hid (HNHA20.out (eb,some (Obj.cells #[.int .i64 a0,.int .u64 a1,.int .i64 a2,.int .u64 a3] 34 (0,0))) (by simp))
     have NX2:Hid (w.heap.size≠xb):=Lib.hid (HNHA20.out (w.heap.size,some (Obj.cells #[.int .i64 4,.int .i64 da,.int .i64 db,.int .i64 ei,.int .u64 ew,.int .i64 ev,.int .u64 er,.int .u64 dn,.bool di] 44 (0,0))) (by simp))
     have NF1:Hid (eb≠fb):=Lib.hid (HNHA18.out (eb,some (Obj.cells #[.int .i64 a0,.int .u64 a1,.int .i64 a2,.int .u64 a3] 34 (0,0))) (by simp))
     have NF2:Hid (w.heap.size≠fb):=Lib.hid (HNHA18.out (w.heap.size,some (Obj.cells #[.int .i64 4,.int .i64 da,.int .i64 db,.int .i64 ei,.int .u64 ew,.int .i64 ev,.int .u64 er,.int .u64 dn,.bool di] 44 (0,0))) (by simp))
     have NXF:Hid (xb≠fb):=Lib.hid (Ne.symm (HNHA20.out (fb,some (Obj.cells #[.int .i64 0,.int .u64 0,.int .i64 0,.int .u64 0] 34 (0,0))) (by simp)))
     clear HNHA20 HNHA18 MD
     obtain ⟨w6,hw6⟩:∃ x,x=wa21:=⟨_,rfl⟩
     rw [← hw6] at hHeld ⊢
     have H7:Hid (RH w0 w6 p h S' S' X X' (K+10000) [(xb,some (Obj.cells Tryz.zeroCells38 38 (0,0))),(fb,some (Obj.cells #[.int .i64 0,.int .u64 0,.int .i64 0,.int .u64 0] 34 (0,0))),(eb,some (Obj.cells #[.int .i64 a0,.int .u64 a1,.int .i64 a2,.int .u64 a3] 34 (0,0))),(w.heap.size,some (Obj.cells #[.int .i64 4,.int .i64 da,.int .i64 db,.int .i64 ei,.int .u64 ew,.int .i64 ev,.int .u64 er,.int .u64 dn,.bool di] 44 (0,0)))]):=Lib.hid (by rw [hw6];exact RH.sub HA20.out (fun z hz=>by simp only [List.mem_cons,List.not_mem_nil,or_false] at hz ⊢;rcases hz with rfl | rfl | rfl | rfl <;> simp))
     clear hw6 HA20
     refine wpAnyH_ready (rs:=[16]) (by kernel_rfl) (by simp) ?_
     refine AllReadyH.cons rfl (fun Kc hK=>?_) AllReadyH.nil
     have HK:=Lib.hid hK
     clear hK hHeld
     rw [if_pos (by rfl)]
     refine wp_store_mid _ _ _ rfl xb 0 (xcells X').toArray rfl rfl (H7.out.room Tryz.zeroCells38_size (H7.out.keep _ List.mem_cons_self).2.2.2 X') (xinfA X') (xcells_one X') ?_
     rw [List.toList_toArray]
     have HB1:=Lib.hid (RH.lay Tryz.zeroCells38_size H7.out (by intro z hz;simp only [List.mem_cons,List.not_mem_nil,or_false] at hz;rcases hz with rfl | rfl | rfl;exact (Ne.symm NXF.out);exact NX1.out;exact NX2.out) X')
     obtain ⟨w7,hw7⟩:∃ x,x=w6.setCells xb 0 (xcells X'):=⟨_,rfl⟩
     rw [← hw7] at HB1 ⊢
     have H8:Hid (RH w0 w7 p h S' S' X X' (K+10000) [(fb,some (Obj.cells #[.int .i64 0,.int .u64 0,.int .i64 0,.int .u64 0] 34 (0,0))),(xb,some (Obj.cells (xcells X').toArray 38 (0,0))),(eb,some (Obj.cells #[.int .i64 a0,.int .u64 a1,.int .i64 a2,.int .u64 a3] 34 (0,0))),(w.heap.size,some (Obj.cells #[.int .i64 4,.int .i64 da,.int .i64 db,.int .i64 ei,.int .u64 ew,.int .i64 ev,.int .u64 er,.int .u64 dn,.bool di] 44 (0,0)))]):=Lib.hid (RH.sub HB1.out (fun z hz=>by simp only [List.mem_cons,List.not_mem_nil,or_false] at hz ⊢;rcases hz with rfl | rfl | rfl | rfl <;> simp))
     clear hw7 HB1 H7
     refine HK.out.out _ _ (HS.out _ _ _ _ _ _ H8.out (by simp)) (fun hHeld=>?_)
     try simp only [Act.put,List.getElem_toArray,List.getElem_cons_succ,List.getElem_cons_zero,List.setIfInBounds_toArray,List.set_cons_zero,List.set_cons_succ]
     clear HK Kc
     refine wpAnyH_ready (rs:=[17]) (by kernel_rfl) (by simp) ?_
     refine AllReadyH.cons rfl (fun Kc hK=>?_) AllReadyH.nil
     have HK:=Lib.hid hK
     clear hK hHeld
     rw [if_pos (by rfl)]
     refine wp_store_mid _ _ _ rfl fb 0 (ecl ⟨a0,a1,a2,a3⟩).toArray rfl rfl (RH.thereE H8.out) (by rfl) (ecl4_one _) ?_
     rw [List.toList_toArray]
     have HB2:=Lib.hid (RH.layE (e:=⟨a0,a1,a2,a3⟩) H8.out (by intro z hz;simp only [List.mem_cons,List.not_mem_nil,or_false] at hz;rcases hz with rfl | rfl | rfl;exact NXF.out;exact NF1.out;exact NF2.out))
     obtain ⟨w8,hw8⟩:∃ x,x=w7.setCells fb 0 (ecl ⟨a0,a1,a2,a3⟩):=⟨_,rfl⟩
     rw [← hw8] at HB2 ⊢
     clear hw8 H8
     refine HK.out.out _ _ (HS.out _ _ _ _ _ _ HB2.out (by simp)) (fun hHeld=>?_)
     try simp only [Act.put,List.getElem_toArray,List.getElem_cons_succ,List.getElem_cons_zero,List.setIfInBounds_toArray,List.set_cons_zero,List.set_cons_succ]
     clear HK Kc
     refine wpAnyH_takes (by kernel_rfl) (fun _ _ _ _ _ h=>h) hHeld [18] [(15,.int .i64 an)] 1 _ _ rfl (by kernel_rfl) ?_ ?_
     ·
      refine tkI rfl rfl (by rfl) ?_ <| tkN
      all_goals (intro W hSw;clear hHeld hSw;go_simp)
     simp only [putsL,listedL,Act.put,List.setIfInBounds_toArray,List.set_cons_zero,List.set_cons_succ]
     refine wpAnyH_done (by kernel_rfl) ?_ _
     clear hHeld HS
     go_wp2_with fail
     go_meet
     case rel=>exact ⟨X',xb,fb,rfl,rfl,rfl,HB2⟩
   ·
    have HK:=Lib.hid hK
    clear hK hHeld
    go_simp
    have HA22:=Lib.hid (HR5.out.alloc (.cells Tryz.zeroCells38 38))
    have HNHA22:Hid (∀ z,z ∈ [(eb,some (Obj.cells #[.int .i64 a0,.int .u64 a1,.int .i64 a2,.int .u64 a3] 34 (0,0))),(w.heap.size,some (Obj.cells #[.int .i64 4,.int .i64 da,.int .i64 db,.int .i64 ei,.int .u64 ew,.int .i64 ev,.int .u64 er,.int .u64 dn,.bool di] 44 (0,0)))]→z.1≠w5.heap.size):=Lib.hid fun z hz=>by
     have:=(HR5.out.keep z hz).2.1
     omega
    obtain ⟨wa23,hwa23⟩:∃ x,x=w5.alloc (.cells Tryz.zeroCells38 38):=⟨_,rfl⟩
    rw [← hwa23] at HA22 ⊢
    obtain ⟨xb,hxb⟩:∃ x,x=w5.heap.size:=⟨_,rfl⟩
    rw [← hxb] at HA22 HNHA22 ⊢
    clear hwa23 hxb
    refine HK.out.out _ _ (HS.out _ _ _ _ _ _ HA22.out (by simp)) (fun hHeld=>?_)
    try simp only [Act.put,List.getElem_toArray,List.getElem_cons_succ,List.getElem_cons_zero,List.setIfInBounds_toArray,List.set_cons_zero,List.set_cons_succ]
    clear HK Kc
    clear HR5
    refine wpAnyH_ready (rs:=[9,15]) (by kernel_rfl) (by simp) ?_
    refine AllReadyH.cons rfl (fun Kc hK=>?_) (AllReadyH.cons rfl (fun Kc hK=>?_) AllReadyH.nil)
    ·
     have HK:=Lib.hid hK
     clear hK hHeld
     go_simp
     refine (MD.out _ _ HA22.out.at_).mono ?_
     rintro r wc25 ⟨X',rfl,HT26⟩
     have HC24:=Lib.hid (HA22.out.doc HT26.out)
     refine HK.out.out _ _ (HS.out _ _ _ _ _ _ HC24.out (by simp)) (fun hHeld=>?_)
     try simp only [Act.put,List.getElem_toArray,List.getElem_cons_succ,List.getElem_cons_zero,List.setIfInBounds_toArray,List.set_cons_zero,List.set_cons_succ]
     clear HK Kc
     clear HA22 HT26
     refine wpAnyH_takes (by kernel_rfl) (fun _ _ _ _ _ h=>h) hHeld [10,11,12,13] [(96,.tuple #[xV X',.agg #[.int .i64 a0,.int .u64 a1,.int .i64 a2,.int .u64 a3],.int .i64 an]),(107,xV X'),(108,.agg #[.int .i64 a0,.int .u64 a1,.int .i64 a2,.int .u64 a3]),(109,.int .i64 an)] 4 _ _ rfl (by kernel_rfl) ?_ ?_
     ·
      refine tkI rfl rfl (by rfl) ?_ <| tkI rfl rfl (by rfl) ?_ <| tkI rfl rfl (by rfl) ?_ <| tkI rfl rfl (by rfl) ?_ <| tkN
      all_goals (intro W hSw;clear hHeld hSw;go_simp)
     simp only [putsL,listedL,Act.put,List.setIfInBounds_toArray,List.set_cons_zero,List.set_cons_succ]
     refine wpAnyH_ready (rs:=[15]) (by kernel_rfl) (by simp) ?_
     refine AllReadyH.cons rfl (fun Kc hK=>?_) AllReadyH.nil
     have HK:=Lib.hid hK
     clear hK hHeld
     go_simp
     have HA27:=Lib.hid (HC24.out.alloc (.cells #[.int .i64 0,.int .u64 0,.int .i64 0,.int .u64 0] 34))
     have HNHA27:Hid (∀ z,z ∈ [(xb,some (Obj.cells Tryz.zeroCells38 38 (0,0))),(eb,some (Obj.cells #[.int .i64 a0,.int .u64 a1,.int .i64 a2,.int .u64 a3] 34 (0,0))),(w.heap.size,some (Obj.cells #[.int .i64 4,.int .i64 da,.int .i64 db,.int .i64 ei,.int .u64 ew,.int .i64 ev,.int .u64 er,.int .u64 dn,.bool di] 44 (0,0)))]→z.1≠wc25.heap.size):=Lib.hid fun z hz=>by
      have:=(HC24.out.keep z hz).2.1
      omega
     obtain ⟨wa28,hwa28⟩:∃ x,x=wc25.alloc (.cells #[.int .i64 0,.int .u64 0,.int .i64 0,.int .u64 0] 34):=⟨_,rfl⟩
     rw [← hwa28] at HA27 ⊢
     obtain ⟨fb,hfb⟩:∃ x,x=wc25.heap.size:=⟨_,rfl⟩
     rw [← hfb] at HA27 HNHA27 ⊢
     clear hwa28 hfb
     refine HK.out.out _ _ (HS.out _ _ _ _ _ _ HA27.out (by simp)) (fun hHeld=>?_)
     try simp only [Act.put,List.getElem_toArray,List.getElem_cons_succ,List.getElem_cons_zero,List.setIfInBounds_toArray,List.set_cons_zero,List.set_cons_succ]
     clear HK Kc
     clear HC24
     have NX1:Hid (eb≠xb):=Lib.hid (HNHA22.out (eb,some (Obj.cells #[.int .i64 a0,.int .u64 a1,.int .i64 a2,.int .u64 a3] 34 (0,0))) (by simp))
     have NX2:Hid (w.heap.size≠xb):=Lib.hid (HNHA22.out (w.heap.size,some (Obj.cells #[.int .i64 4,.int .i64 da,.int .i64 db,.int .i64 ei,.int .u64 ew,.int .i64 ev,.int .u64 er,.int .u64 dn,.bool di] 44 (0,0))) (by simp))
     have NF1:Hid (eb≠fb):=Lib.hid (HNHA27.out (eb,some (Obj.cells #[.int .i64 a0,.int .u64 a1,.int .i64 a2,.int .u64 a3] 34 (0,0))) (by simp))
     have NF2:Hid (w.heap.size≠fb):=Lib.hid (HNHA27.out (w.heap.size,some (Obj.cells #[.int .i64 4,.int .i64 da,.int .i64 db,.int .i64 ei,.int .u64 ew,.int .i64 ev,.int .u64 er,.int .u64 dn,.bool di] 44 (0,0))) (by simp))
     have NXF:Hid (xb≠fb):=Lib.hid (HNHA27.out (xb,some (Obj.cells Tryz.zeroCells38 38 (0,0))) (by simp))
     clear HNHA22 HNHA27 MD
     obtain ⟨w6,hw6⟩:∃ x,x=wa28:=⟨_,rfl⟩
     rw [← hw6] at hHeld ⊢
     have H7:Hid (RH w0 w6 p h S' S' X X' (K+10000) [(xb,some (Obj.cells Tryz.zeroCells38 38 (0,0))),(fb,some (Obj.cells #[.int .i64 0,.int .u64 0,.int .i64 0,.int .u64 0] 34 (0,0))),(eb,some (Obj.cells #[.int .i64 a0,.int .u64 a1,.int .i64 a2,.int .u64 a3] 34 (0,0))),(w.heap.size,some (Obj.cells #[.int .i64 4,.int .i64 da,.int .i64 db,.int .i64 ei,.int .u64 ew,.int .i64 ev,.int .u64 er,.int .u64 dn,.bool di] 44 (0,0)))]):=Lib.hid (by rw [hw6];exact RH.sub HA27.out (fun z hz=>by simp only [List.mem_cons,List.not_mem_nil,or_false] at hz ⊢;rcases hz with rfl | rfl | rfl | rfl <;> simp))
     clear hw6 HA27
     refine wpAnyH_ready (rs:=[16]) (by kernel_rfl) (by simp) ?_
     refine AllReadyH.cons rfl (fun Kc hK=>?_) AllReadyH.nil
     have HK:=Lib.hid hK
     clear hK hHeld
     rw [if_pos (by rfl)]
     refine wp_store_mid _ _ _ rfl xb 0 (xcells X').toArray rfl rfl (H7.out.room Tryz.zeroCells38_size (H7.out.keep _ List.mem_cons_self).2.2.2 X') (xinfA X') (xcells_one X') ?_
     rw [List.toList_toArray]
     have HB1:=Lib.hid (RH.lay Tryz.zeroCells38_size H7.out (by intro z hz;simp only [List.mem_cons,List.not_mem_nil,or_false] at hz;rcases hz with rfl | rfl | rfl;exact (Ne.symm NXF.out);exact NX1.out;exact NX2.out) X')
     obtain ⟨w7,hw7⟩:∃ x,x=w6.setCells xb 0 (xcells X'):=⟨_,rfl⟩
     rw [← hw7] at HB1 ⊢
     have H8:Hid (RH w0 w7 p h S' S' X X' (K+10000) [(fb,some (Obj.cells #[.int .i64 0,.int .u64 0,.int .i64 0,.int .u64 0] 34 (0,0))),(xb,some (Obj.cells (xcells X').toArray 38 (0,0))),(eb,some (Obj.cells #[.int .i64 a0,.int .u64 a1,.int .i64 a2,.int .u64 a3] 34 (0,0))),(w.heap.size,some (Obj.cells #[.int .i64 4,.int .i64 da,.int .i64 db,.int .i64 ei,.int .u64 ew,.int .i64 ev,.int .u64 er,.int .u64 dn,.bool di] 44 (0,0)))]):=Lib.hid (RH.sub HB1.out (fun z hz=>by simp only [List.mem_cons,List.not_mem_nil,or_false] at hz ⊢;rcases hz with rfl | rfl | rfl | rfl <;> simp))
     clear hw7 HB1 H7
     refine HK.out.out _ _ (HS.out _ _ _ _ _ _ H8.out (by simp)) (fun hHeld=>?_)
     try simp only [Act.put,List.getElem_toArray,List.getElem_cons_succ,List.getElem_cons_zero,List.setIfInBounds_toArray,List.set_cons_zero,List.set_cons_succ]
     clear HK Kc
     refine wpAnyH_ready (rs:=[17]) (by kernel_rfl) (by simp) ?_
     refine AllReadyH.cons rfl (fun Kc hK=>?_) AllReadyH.nil
     have HK:=Lib.hid hK
     clear hK hHeld
     rw [if_pos (by rfl)]
     refine wp_store_mid _ _ _ rfl fb 0 (ecl ⟨a0,a1,a2,a3⟩).toArray rfl rfl (RH.thereE H8.out) (by rfl) (ecl4_one _) ?_
     rw [List.toList_toArray]
     have HB2:=Lib.hid (RH.layE (e:=⟨a0,a1,a2,a3⟩) H8.out (by intro z hz;simp only [List.mem_cons,List.not_mem_nil,or_false] at hz;rcases hz with rfl | rfl | rfl;exact NXF.out;exact NF1.out;exact NF2.out))
     obtain ⟨w8,hw8⟩:∃ x,x=w7.setCells fb 0 (ecl ⟨a0,a1,a2,a3⟩):=⟨_,rfl⟩
     rw [← hw8] at HB2 ⊢
     clear hw8 H8
     refine HK.out.out _ _ (HS.out _ _ _ _ _ _ HB2.out (by simp)) (fun hHeld=>?_)
     try simp only [Act.put,List.getElem_toArray,List.getElem_cons_succ,List.getElem_cons_zero,List.setIfInBounds_toArray,List.set_cons_zero,List.set_cons_succ]
     clear HK Kc
     refine wpAnyH_takes (by kernel_rfl) (fun _ _ _ _ _ h=>h) hHeld [18] [(15,.int .i64 an)] 1 _ _ rfl (by kernel_rfl) ?_ ?_
     ·
      refine tkI rfl rfl (by rfl) ?_ <| tkN
      all_goals (intro W hSw;clear hHeld hSw;go_simp)
     simp only [putsL,listedL,Act.put,List.setIfInBounds_toArray,List.set_cons_zero,List.set_cons_succ]
     refine wpAnyH_done (by kernel_rfl) ?_ _
     clear hHeld HS
     go_wp2_with fail
     go_meet
     case rel=>exact ⟨X',xb,fb,rfl,rfl,rfl,HB2⟩
    ·
     have HK:=Lib.hid hK
     clear hK hHeld
     go_simp
     have HA29:=Lib.hid (HA22.out.alloc (.cells #[.int .i64 0,.int .u64 0,.int .i64 0,.int .u64 0] 34))
     have HNHA29:Hid (∀ z,z ∈ [(xb,some (Obj.cells Tryz.zeroCells38 38 (0,0))),(eb,some (Obj.cells #[.int .i64 a0,.int .u64 a1,.int .i64 a2,.int .u64 a3] 34 (0,0))),(w.heap.size,some (Obj.cells #[.int .i64 4,.int .i64 da,.int .i64 db,.int .i64 ei,.int .u64 ew,.int .i64 ev,.int .u64 er,.int .u64 dn,.bool di] 44 (0,0)))]→z.1≠wa23.heap.size):=Lib.hid fun z hz=>by
      have:=(HA22.out.keep z hz).2.1
      omega
     obtain ⟨wa30,hwa30⟩:∃ x,x=wa23.alloc (.cells #[.int .i64 0,.int .u64 0,.int .i64 0,.int .u64 0] 34):=⟨_,rfl⟩
     rw [← hwa30] at HA29 ⊢
     obtain ⟨fb,hfb⟩:∃ x,x=wa23.heap.size:=⟨_,rfl⟩
     rw [← hfb] at HA29 HNHA29 ⊢
     clear hwa30 hfb
     refine HK.out.out _ _ (HS.out _ _ _ _ _ _ HA29.out (by simp)) (fun hHeld=>?_)
     try simp only [Act.put,List.getElem_toArray,List.getElem_cons_succ,List.getElem_cons_zero,List.setIfInBounds_toArray,List.set_cons_zero,List.set_cons_succ]
     clear HK Kc
     clear HA22
     refine wpAnyH_ready (rs:=[9]) (by kernel_rfl) (by simp) ?_
     refine AllReadyH.cons rfl (fun Kc hK=>?_) AllReadyH.nil
     have HK:=Lib.hid hK
     clear hK hHeld
     go_simp
     refine (MD.out _ _ HA29.out.at_).mono ?_
     rintro r wc32 ⟨X',rfl,HT33⟩
     have HC31:=Lib.hid (HA29.out.doc HT33.out)
     refine HK.out.out _ _ (HS.out _ _ _ _ _ _ HC31.out (by simp)) (fun hHeld=>?_)
     try simp only [Act.put,List.getElem_toArray,List.getElem_cons_succ,List.getElem_cons_zero,List.setIfInBounds_toArray,List.set_cons_zero,List.set_cons_succ]
     clear HK Kc
     clear HA29 HT33
     refine wpAnyH_takes (by kernel_rfl) (fun _ _ _ _ _ h=>h) hHeld [10,11,12,13] [(96,.tuple #[xV X',.agg #[.int .i64 a0,.int .u64 a1,.int .i64 a2,.int .u64 a3],.int .i64 an]),(107,xV X'),(108,.agg #[.int .i64 a0,.int .u64 a1,.int .i64 a2,.int .u64 a3]),(109,.int .i64 an)] 4 _ _ rfl (by kernel_rfl) ?_ ?_
     ·
      refine tkI rfl rfl (by rfl) ?_ <| tkI rfl rfl (by rfl) ?_ <| tkI rfl rfl (by rfl) ?_ <| tkI rfl rfl (by rfl) ?_ <| tkN
      all_goals (intro W hSw;clear hHeld hSw;go_simp)
     simp only [putsL,listedL,Act.put,List.setIfInBounds_toArray,List.set_cons_zero,List.set_cons_succ]
     have NX1:Hid (eb≠xb):=Lib.hid (HNHA22.out (eb,some (Obj.cells #[.int .i64 a0,.int .u64 a1,.int .i64 a2,.int .u64 a3] 34 (0,0))) (by simp))
     have NX2:Hid (w.heap.size≠xb):=Lib.hid (HNHA22.out (w.heap.size,some (Obj.cells #[.int .i64 4,.int .i64 da,.int .i64 db,.int .i64 ei,.int .u64 ew,.int .i64 ev,.int .u64 er,.int .u64 dn,.bool di] 44 (0,0))) (by simp))
     have NF1:Hid (eb≠fb):=Lib.hid (HNHA29.out (eb,some (Obj.cells #[.int .i64 a0,.int .u64 a1,.int .i64 a2,.int .u64 a3] 34 (0,0))) (by simp))
     have NF2:Hid (w.heap.size≠fb):=Lib.hid (HNHA29.out (w.heap.size,some (Obj.cells #[.int .i64 4,.int .i64 da,.int .i64 db,.int .i64 ei,.int .u64 ew,.int .i64 ev,.int .u64 er,.int .u64 dn,.bool di] 44 (0,0))) (by simp))
     have NXF:Hid (xb≠fb):=Lib.hid (HNHA29.out (xb,some (Obj.cells Tryz.zeroCells38 38 (0,0))) (by simp))
     clear HNHA22 HNHA29 MD
     obtain ⟨w6,hw6⟩:∃ x,x=wc32:=⟨_,rfl⟩
     rw [← hw6] at hHeld ⊢
     have H7:Hid (RH w0 w6 p h S' S' X X' (K+10000) [(xb,some (Obj.cells Tryz.zeroCells38 38 (0,0))),(fb,some (Obj.cells #[.int .i64 0,.int .u64 0,.int .i64 0,.int .u64 0] 34 (0,0))),(eb,some (Obj.cells #[.int .i64 a0,.int .u64 a1,.int .i64 a2,.int .u64 a3] 34 (0,0))),(w.heap.size,some (Obj.cells #[.int .i64 4,.int .i64 da,.int .i64 db,.int .i64 ei,.int .u64 ew,.int .i64 ev,.int .u64 er,.int .u64 dn,.bool di] 44 (0,0)))]):=Lib.hid (by rw [hw6];exact RH.sub HC31.out (fun z hz=>by simp only [List.mem_cons,List.not_mem_nil,or_false] at hz ⊢;rcases hz with rfl | rfl | rfl | rfl <;> simp))
     clear hw6 HC31
     refine wpAnyH_ready (rs:=[16]) (by kernel_rfl) (by simp) ?_
     refine AllReadyH.cons rfl (fun Kc hK=>?_) AllReadyH.nil
     have HK:=Lib.hid hK
     clear hK hHeld
     rw [if_pos (by rfl)]
     refine wp_store_mid _ _ _ rfl xb 0 (xcells X').toArray rfl rfl (H7.out.room Tryz.zeroCells38_size (H7.out.keep _ List.mem_cons_self).2.2.2 X') (xinfA X') (xcells_one X') ?_
     rw [List.toList_toArray]
     have HB1:=Lib.hid (RH.lay Tryz.zeroCells38_size H7.out (by intro z hz;simp only [List.mem_cons,List.not_mem_nil,or_false] at hz;rcases hz with rfl | rfl | rfl;exact (Ne.symm NXF.out);exact NX1.out;exact NX2.out) X')
     obtain ⟨w7,hw7⟩:∃ x,x=w6.setCells xb 0 (xcells X'):=⟨_,rfl⟩
     rw [← hw7] at HB1 ⊢
     have H8:Hid (RH w0 w7 p h S' S' X X' (K+10000) [(fb,some (Obj.cells #[.int .i64 0,.int .u64 0,.int .i64 0,.int .u64 0] 34 (0,0))),(xb,some (Obj.cells (xcells X').toArray 38 (0,0))),(eb,some (Obj.cells #[.int .i64 a0,.int .u64 a1,.int .i64 a2,.int .u64 a3] 34 (0,0))),(w.heap.size,some (Obj.cells #[.int .i64 4,.int .i64 da,.int .i64 db,.int .i64 ei,.int .u64 ew,.int .i64 ev,.int .u64 er,.int .u64 dn,.bool di] 44 (0,0)))]):=Lib.hid (RH.sub HB1.out (fun z hz=>by simp only [List.mem_cons,List.not_mem_nil,or_false] at hz ⊢;rcases hz with rfl | rfl | rfl | rfl <;> simp))
     clear hw7 HB1 H7
     refine HK.out.out _ _ (HS.out _ _ _ _ _ _ H8.out (by simp)) (fun hHeld=>?_)
     try simp only [Act.put,List.getElem_toArray,List.getElem_cons_succ,List.getElem_cons_zero,List.setIfInBounds_toArray,List.set_cons_zero,List.set_cons_succ]
     clear HK Kc
     refine wpAnyH_ready (rs:=[17]) (by kernel_rfl) (by simp) ?_
     refine AllReadyH.cons rfl (fun Kc hK=>?_) AllReadyH.nil
     have HK:=Lib.hid hK
     clear hK hHeld
     rw [if_pos (by rfl)]
     refine wp_store_mid _ _ _ rfl fb 0 (ecl ⟨a0,a1,a2,a3⟩).toArray rfl rfl (RH.thereE H8.out) (by rfl) (ecl4_one _) ?_
     rw [List.toList_toArray]
     have HB2:=Lib.hid (RH.layE (e:=⟨a0,a1,a2,a3⟩) H8.out (by intro z hz;simp only [List.mem_cons,List.not_mem_nil,or_false] at hz;rcases hz with rfl | rfl | rfl;exact NXF.out;exact NF1.out;exact NF2.out))
     obtain ⟨w8,hw8⟩:∃ x,x=w7.setCells fb 0 (ecl ⟨a0,a1,a2,a3⟩):=⟨_,rfl⟩
     rw [← hw8] at HB2 ⊢
     clear hw8 H8
     refine HK.out.out _ _ (HS.out _ _ _ _ _ _ HB2.out (by simp)) (fun hHeld=>?_)
     try simp only [Act.put,List.getElem_toArray,List.getElem_cons_succ,List.getElem_cons_zero,List.setIfInBounds_toArray,List.set_cons_zero,List.set_cons_succ]
     clear HK Kc
     refine wpAnyH_takes (by kernel_rfl) (fun _ _ _ _ _ h=>h) hHeld [18] [(15,.int .i64 an)] 1 _ _ rfl (by kernel_rfl) ?_ ?_
     ·
      refine tkI rfl rfl (by rfl) ?_ <| tkN
      all_goals (intro W hSw;clear hHeld hSw;go_simp)
     simp only [putsL,listedL,Act.put,List.setIfInBounds_toArray,List.set_cons_zero,List.set_cons_succ]
     refine wpAnyH_done (by kernel_rfl) ?_ _
     clear hHeld HS
     go_wp2_with fail
     go_meet
     case rel=>exact ⟨X',xb,fb,rfl,rfl,rfl,HB2⟩
   ·
    have HK:=Lib.hid hK
    clear hK hHeld
    go_simp
    have HA34:=Lib.hid (HR5.out.alloc (.cells #[.int .i64 0,.int .u64 0,.int .i64 0,.int .u64 0] 34))
    have HNHA34:Hid (∀ z,z ∈ [(eb,some (Obj.cells #[.int .i64 a0,.int .u64 a1,.int .i64 a2,.int .u64 a3] 34 (0,0))),(w.heap.size,some (Obj.cells #[.int .i64 4,.int .i64 da,.int .i64 db,.int .i64 ei,.int .u64 ew,.int .i64 ev,.int .u64 er,.int .u64 dn,.bool di] 44 (0,0)))]→z.1≠w5.heap.size):=Lib.hid fun z hz=>by
     have:=(HR5.out.keep z hz).2.1
     omega
    obtain ⟨wa35,hwa35⟩:∃ x,x=w5.alloc (.cells #[.int .i64 0,.int .u64 0,.int .i64 0,.int .u64 0] 34):=⟨_,rfl⟩
    rw [← hwa35] at HA34 ⊢
    obtain ⟨fb,hfb⟩:∃ x,x=w5.heap.size:=⟨_,rfl⟩
    rw [← hfb] at HA34 HNHA34 ⊢
    clear hwa35 hfb
    refine HK.out.out _ _ (HS.out _ _ _ _ _ _ HA34.out (by simp)) (fun hHeld=>?_)
    try simp only [Act.put,List.getElem_toArray,List.getElem_cons_succ,List.getElem_cons_zero,List.setIfInBounds_toArray,List.set_cons_zero,List.set_cons_succ]
    clear HK Kc
    clear HR5
    refine wpAnyH_ready (rs:=[9,14]) (by kernel_rfl) (by simp) ?_
    refine AllReadyH.cons rfl (fun Kc hK=>?_) (AllReadyH.cons rfl (fun Kc hK=>?_) AllReadyH.nil)
    ·
     have HK:=Lib.hid hK
     clear hK hHeld
     go_simp
     refine (MD.out _ _ HA34.out.at_).mono ?_
     rintro r wc37 ⟨X',rfl,HT38⟩
     have HC36:=Lib.hid (HA34.out.doc HT38.out)
     refine HK.out.out _ _ (HS.out _ _ _ _ _ _ HC36.out (by simp)) (fun hHeld=>?_)
     try simp only [Act.put,List.getElem_toArray,List.getElem_cons_succ,List.getElem_cons_zero,List.setIfInBounds_toArray,List.set_cons_zero,List.set_cons_succ]
     clear HK Kc
     clear HA34 HT38
     refine wpAnyH_takes (by kernel_rfl) (fun _ _ _ _ _ h=>h) hHeld [10,11,12,13] [(96,.tuple #[xV X',.agg #[.int .i64 a0,.int .u64 a1,.int .i64 a2,.int .u64 a3],.int .i64 an]),(107,xV X'),(108,.agg #[.int .i64 a0,.int .u64 a1,.int .i64 a2,.int .u64 a3]),(109,.int .i64 an)] 4 _ _ rfl (by kernel_rfl) ?_ ?_
     ·
      refine tkI rfl rfl (by rfl) ?_ <| tkI rfl rfl (by rfl) ?_ <| tkI rfl rfl (by rfl) ?_ <| tkI rfl rfl (by rfl) ?_ <| tkN
      all_goals (intro W hSw;clear hHeld hSw;go_simp)
     simp only [putsL,listedL,Act.put,List.setIfInBounds_toArray,List.set_cons_zero,List.set_cons_succ]
     refine wpAnyH_ready (rs:=[14]) (by kernel_rfl) (by simp) ?_
     refine AllReadyH.cons rfl (fun Kc hK=>?_) AllReadyH.nil
     have HK:=Lib.hid hK
     clear hK hHeld
     go_simp
     have HA39:=Lib.hid (HC36.out.alloc (.cells Tryz.zeroCells38 38))
     have HNHA39:Hid (∀ z,z ∈ [(fb,some (Obj.cells #[.int .i64 0,.int .u64 0,.int .i64 0,.int .u64 0] 34 (0,0))),(eb,some (Obj.cells #[.int .i64 a0,.int .u64 a1,.int .i64 a2,.int .u64 a3] 34 (0,0))),(w.heap.size,some (Obj.cells #[.int .i64 4,.int .i64 da,.int .i64 db,.int .i64 ei,.int .u64 ew,.int .i64 ev,.int .u64 er,.int .u64 dn,.bool di] 44 (0,0)))]→z.1≠wc37.heap.size):=Lib.hid fun z hz=>by
      have:=(HC36.out.keep z hz).2.1
      omega
     obtain ⟨wa40,hwa40⟩:∃ x,x=wc37.alloc (.cells Tryz.zeroCells38 38):=⟨_,rfl⟩
     rw [← hwa40] at HA39 ⊢
     obtain ⟨xb,hxb⟩:∃ x,x=wc37.heap.size:=⟨_,rfl⟩
     rw [← hxb] at HA39 HNHA39 ⊢
     clear hwa40 hxb
     refine HK.out.out _ _ (HS.out _ _ _ _ _ _ HA39.out (by simp)) (fun hHeld=>?_)
     try simp only [Act.put,List.getElem_toArray,List.getElem_cons_succ,List.getElem_cons_zero,List.setIfInBounds_toArray,List.set_cons_zero,List.set_cons_succ]
     clear HK Kc
     clear HC36
     have NX1:Hid (eb≠xb):=Lib.hid (HNHA39.out (eb,some (Obj.cells #[.int .i64 a0,.int .u64 a1,.int .i64 a2,.int .u64 a3] 34 (0,0))) (by simp))
     have NX2:Hid (w.heap.size≠xb):=Lib.hid (HNHA39.out (w.heap.size,some (Obj.cells #[.int .i64 4,.int .i64 da,.int .i64 db,.int .i64 ei,.int .u64 ew,.int .i64 ev,.int .u64 er,.int .u64 dn,.bool di] 44 (0,0))) (by simp))
     have NF1:Hid (eb≠fb):=Lib.hid (HNHA34.out (eb,some (Obj.cells #[.int .i64 a0,.int .u64 a1,.int .i64 a2,.int .u64 a3] 34 (0,0))) (by simp))
     have NF2:Hid (w.heap.size≠fb):=Lib.hid (HNHA34.out (w.heap.size,some (Obj.cells #[.int .i64 4,.int .i64 da,.int .i64 db,.int .i64 ei,.int .u64 ew,.int .i64 ev,.int .u64 er,.int .u64 dn,.bool di] 44 (0,0))) (by simp))
     have NXF:Hid (xb≠fb):=Lib.hid (Ne.symm (HNHA39.out (fb,some (Obj.cells #[.int .i64 0,.int .u64 0,.int .i64 0,.int .u64 0] 34 (0,0))) (by simp)))
     clear HNHA39 HNHA34 MD
     obtain ⟨w6,hw6⟩:∃ x,x=wa40:=⟨_,rfl⟩
     rw [← hw6] at hHeld ⊢
     have H7:Hid (RH w0 w6 p h S' S' X X' (K+10000) [(xb,some (Obj.cells Tryz.zeroCells38 38 (0,0))),(fb,some (Obj.cells #[.int .i64 0,.int .u64 0,.int .i64 0,.int .u64 0] 34 (0,0))),(eb,some (Obj.cells #[.int .i64 a0,.int .u64 a1,.int .i64 a2,.int .u64 a3] 34 (0,0))),(w.heap.size,some (Obj.cells #[.int .i64 4,.int .i64 da,.int .i64 db,.int .i64 ei,.int .u64 ew,.int .i64 ev,.int .u64 er,.int .u64 dn,.bool di] 44 (0,0)))]):=Lib.hid (by rw [hw6];exact RH.sub HA39.out (fun z hz=>by simp only [List.mem_cons,List.not_mem_nil,or_false] at hz ⊢;rcases hz with rfl | rfl | rfl | rfl <;> simp))
     clear hw6 HA39
     refine wpAnyH_ready (rs:=[16]) (by kernel_rfl) (by simp) ?_
     refine AllReadyH.cons rfl (fun Kc hK=>?_) AllReadyH.nil
     have HK:=Lib.hid hK
     clear hK hHeld
     rw [if_pos (by rfl)]
     refine wp_store_mid _ _ _ rfl xb 0 (xcells X').toArray rfl rfl (H7.out.room Tryz.zeroCells38_size (H7.out.keep _ List.mem_cons_self).2.2.2 X') (xinfA X') (xcells_one X') ?_
     rw [List.toList_toArray]
     have HB1:=Lib.hid (RH.lay Tryz.zeroCells38_size H7.out (by intro z hz;simp only [List.mem_cons,List.not_mem_nil,or_false] at hz;rcases hz with rfl | rfl | rfl;exact (Ne.symm NXF.out);exact NX1.out;exact NX2.out) X')
     obtain ⟨w7,hw7⟩:∃ x,x=w6.setCells xb 0 (xcells X'):=⟨_,rfl⟩
     rw [← hw7] at HB1 ⊢
     have H8:Hid (RH w0 w7 p h S' S' X X' (K+10000) [(fb,some (Obj.cells #[.int .i64 0,.int .u64 0,.int .i64 0,.int .u64 0] 34 (0,0))),(xb,some (Obj.cells (xcells X').toArray 38 (0,0))),(eb,some (Obj.cells #[.int .i64 a0,.int .u64 a1,.int .i64 a2,.int .u64 a3] 34 (0,0))),(w.heap.size,some (Obj.cells #[.int .i64 4,.int .i64 da,.int .i64 db,.int .i64 ei,.int .u64 ew,.int .i64 ev,.int .u64 er,.int .u64 dn,.bool di] 44 (0,0)))]):=Lib.hid (RH.sub HB1.out (fun z hz=>by simp only [List.mem_cons,List.not_mem_nil,or_false] at hz ⊢;rcases hz with rfl | rfl | rfl | rfl <;> simp))
     clear hw7 HB1 H7
     refine HK.out.out _ _ (HS.out _ _ _ _ _ _ H8.out (by simp)) (fun hHeld=>?_)
     try simp only [Act.put,List.getElem_toArray,List.getElem_cons_succ,List.getElem_cons_zero,List.setIfInBounds_toArray,List.set_cons_zero,List.set_cons_succ]
     clear HK Kc
     refine wpAnyH_ready (rs:=[17]) (by kernel_rfl) (by simp) ?_
     refine AllReadyH.cons rfl (fun Kc hK=>?_) AllReadyH.nil
     have HK:=Lib.hid hK
     clear hK hHeld
     rw [if_pos (by rfl)]
     refine wp_store_mid _ _ _ rfl fb 0 (ecl ⟨a0,a1,a2,a3⟩).toArray rfl rfl (RH.thereE H8.out) (by rfl) (ecl4_one _) ?_
     rw [List.toList_toArray]
     have HB2:=Lib.hid (RH.layE (e:=⟨a0,a1,a2,a3⟩) H8.out (by intro z hz;simp only [List.mem_cons,List.not_mem_nil,or_false] at hz;rcases hz with rfl | rfl | rfl;exact NXF.out;exact NF1.out;exact NF2.out))
     obtain ⟨w8,hw8⟩:∃ x,x=w7.setCells fb 0 (ecl ⟨a0,a1,a2,a3⟩):=⟨_,rfl⟩
     rw [← hw8] at HB2 ⊢
     clear hw8 H8
     refine HK.out.out _ _ (HS.out _ _ _ _ _ _ HB2.out (by simp)) (fun hHeld=>?_)
     try simp only [Act.put,List.getElem_toArray,List.getElem_cons_succ,List.getElem_cons_zero,List.setIfInBounds_toArray,List.set_cons_zero,List.set_cons_succ]
     clear HK Kc
     refine wpAnyH_takes (by kernel_rfl) (fun _ _ _ _ _ h=>h) hHeld [18] [(15,.int .i64 an)] 1 _ _ rfl (by kernel_rfl) ?_ ?_
     ·
      refine tkI rfl rfl (by rfl) ?_ <| tkN
      all_goals (intro W hSw;clear hHeld hSw;go_simp)
     simp only [putsL,listedL,Act.put,List.setIfInBounds_toArray,List.set_cons_zero,List.set_cons_succ]
     refine wpAnyH_done (by kernel_rfl) ?_ _
     clear hHeld HS
     go_wp2_with fail
     go_meet
     case rel=>exact ⟨X',xb,fb,rfl,rfl,rfl,HB2⟩
    ·
     have HK:=Lib.hid hK
     clear hK hHeld
     go_simp
     have HA41:=Lib.hid (HA34.out.alloc (.cells Tryz.zeroCells38 38))
     have HNHA41:Hid (∀ z,z ∈ [(fb,some (Obj.cells #[.int .i64 0,.int .u64 0,.int .i64 0,.int .u64 0] 34 (0,0))),(eb,some (Obj.cells #[.int .i64 a0,.int .u64 a1,.int .i64 a2,.int .u64 a3] 34 (0,0))),(w.heap.size,some (Obj.cells #[.int .i64 4,.int .i64 da,.int .i64 db,.int .i64 ei,.int .u64 ew,.int .i64 ev,.int .u64 er,.int .u64 dn,.bool di] 44 (0,0)))]→z.1≠wa35.heap.size):=Lib.hid fun z hz=>by
      have:=(HA34.out.keep z hz).2.1
      omega
     obtain ⟨wa42,hwa42⟩:∃ x,x=wa35.alloc (.cells Tryz.zeroCells38 38):=⟨_,rfl⟩
     rw [← hwa42] at HA41 ⊢
     obtain ⟨xb,hxb⟩:∃ x,x=wa35.heap.size:=⟨_,rfl⟩
     rw [← hxb] at HA41 HNHA41 ⊢
     clear hwa42 hxb
     refine HK.out.out _ _ (HS.out _ _ _ _ _ _ HA41.out (by simp)) (fun hHeld=>?_)
     try simp only [Act.put,List.getElem_toArray,List.getElem_cons_succ,List.getElem_cons_zero,List.setIfInBounds_toArray,List.set_cons_zero,List.set_cons_succ]
     clear HK Kc
     clear HA34
     refine wpAnyH_ready (rs:=[9]) (by kernel_rfl) (by simp) ?_
     refine AllReadyH.cons rfl (fun Kc hK=>?_) AllReadyH.nil
     have HK:=Lib.hid hK
     clear hK hHeld
     go_simp
     refine (MD.out _ _ HA41.out.at_).mono ?_
     rintro r wc44 ⟨X',rfl,HT45⟩
     have HC43:=Lib.hid (HA41.out.doc HT45.out)
     refine HK.out.out _ _ (HS.out _ _ _ _ _ _ HC43.out (by simp)) (fun hHeld=>?_)
     try simp only [Act.put,List.getElem_toArray,List.getElem_cons_succ,List.getElem_cons_zero,List.setIfInBounds_toArray,List.set_cons_zero,List.set_cons_succ]
     clear HK Kc
     clear HA41 HT45
     refine wpAnyH_takes (by kernel_rfl) (fun _ _ _ _ _ h=>h) hHeld [10,11,12,13] [(96,.tuple #[xV X',.agg #[.int .i64 a0,.int .u64 a1,.int .i64 a2,.int .u64 a3],.int .i64 an]),(107,xV X'),(108,.agg #[.int .i64 a0,.int .u64 a1,.int .i64 a2,.int .u64 a3]),(109,.int .i64 an)] 4 _ _ rfl (by kernel_rfl) ?_ ?_
     ·
      refine tkI rfl rfl (by rfl) ?_ <| tkI rfl rfl (by rfl) ?_ <| tkI rfl rfl (by rfl) ?_ <| tkI rfl rfl (by rfl) ?_ <| tkN
      all_goals (intro W hSw;clear hHeld hSw;go_simp)
     simp only [putsL,listedL,Act.put,List.setIfInBounds_toArray,List.set_cons_zero,List.set_cons_succ]
     have NX1:Hid (eb≠xb):=Lib.hid (HNHA41.out (eb,some (Obj.cells #[.int .i64 a0,.int .u64 a1,.int .i64 a2,.int .u64 a3] 34 (0,0))) (by simp))
     have NX2:Hid (w.heap.size≠xb):=Lib.hid (HNHA41.out (w.heap.size,some (Obj.cells #[.int .i64 4,.int .i64 da,.int .i64 db,.int .i64 ei,.int .u64 ew,.int .i64 ev,.int .u64 er,.int .u64 dn,.bool di] 44 (0,0))) (by simp))
     have NF1:Hid (eb≠fb):=Lib.hid (HNHA34.out (eb,some (Obj.cells #[.int .i64 a0,.int .u64 a1,.int .i64 a2,.int .u64 a3] 34 (0,0))) (by simp))
     have NF2:Hid (w.heap.size≠fb):=Lib.hid (HNHA34.out (w.heap.size,some (Obj.cells #[.int .i64 4,.int .i64 da,.int .i64 db,.int .i64 ei,.int .u64 ew,.int .i64 ev,.int .u64 er,.int .u64 dn,.bool di] 44 (0,0))) (by simp))
     have NXF:Hid (xb≠fb):=Lib.hid (Ne.symm (HNHA41.out (fb,some (Obj.cells #[.int .i64 0,.int .u64 0,.int .i64 0,.int .u64 0] 34 (0,0))) (by simp)))
     clear HNHA41 HNHA34 MD
     obtain ⟨w6,hw6⟩:∃ x,x=wc44:=⟨_,rfl⟩
     rw [← hw6] at hHeld ⊢
     have H7:Hid (RH w0 w6 p h S' S' X X' (K+10000) [(xb,some (Obj.cells Tryz.zeroCells38 38 (0,0))),(fb,some (Obj.cells #[.int .i64 0,.int .u64 0,.int .i64 0,.int .u64 0] 34 (0,0))),(eb,some (Obj.cells #[.int .i64 a0,.int .u64 a1,.int .i64 a2,.int .u64 a3] 34 (0,0))),(w.heap.size,some (Obj.cells #[.int .i64 4,.int .i64 da,.int .i64 db,.int .i64 ei,.int .u64 ew,.int .i64 ev,.int .u64 er,.int .u64 dn,.bool di] 44 (0,0)))]):=Lib.hid (by rw [hw6];exact RH.sub HC43.out (fun z hz=>by simp only [List.mem_cons,List.not_mem_nil,or_false] at hz ⊢;rcases hz with rfl | rfl | rfl | rfl <;> simp))
     clear hw6 HC43
     refine wpAnyH_ready (rs:=[16]) (by kernel_rfl) (by simp) ?_
     refine AllReadyH.cons rfl (fun Kc hK=>?_) AllReadyH.nil
     have HK:=Lib.hid hK
     clear hK hHeld
     rw [if_pos (by rfl)]
     refine wp_store_mid _ _ _ rfl xb 0 (xcells X').toArray rfl rfl (H7.out.room Tryz.zeroCells38_size (H7.out.keep _ List.mem_cons_self).2.2.2 X') (xinfA X') (xcells_one X') ?_
     rw [List.toList_toArray]
     have HB1:=Lib.hid (RH.lay Tryz.zeroCells38_size H7.out (by intro z hz;simp only [List.mem_cons,List.not_mem_nil,or_false] at hz;rcases hz with rfl | rfl | rfl;exact (Ne.symm NXF.out);exact NX1.out;exact NX2.out) X')
     obtain ⟨w7,hw7⟩:∃ x,x=w6.setCells xb 0 (xcells X'):=⟨_,rfl⟩
     rw [← hw7] at HB1 ⊢
     have H8:Hid (RH w0 w7 p h S' S' X X' (K+10000) [(fb,some (Obj.cells #[.int .i64 0,.int .u64 0,.int .i64 0,.int .u64 0] 34 (0,0))),(xb,some (Obj.cells (xcells X').toArray 38 (0,0))),(eb,some (Obj.cells #[.int .i64 a0,.int .u64 a1,.int .i64 a2,.int .u64 a3] 34 (0,0))),(w.heap.size,some (Obj.cells #[.int .i64 4,.int .i64 da,.int .i64 db,.int .i64 ei,.int .u64 ew,.int .i64 ev,.int .u64 er,.int .u64 dn,.bool di] 44 (0,0)))]):=Lib.hid (RH.sub HB1.out (fun z hz=>by simp only [List.mem_cons,List.not_mem_nil,or_false] at hz ⊢;rcases hz with rfl | rfl | rfl | rfl <;> simp))
     clear hw7 HB1 H7
     refine HK.out.out _ _ (HS.out _ _ _ _ _ _ H8.out (by simp)) (fun hHeld=>?_)
     try simp only [Act.put,List.getElem_toArray,List.getElem_cons_succ,List.getElem_cons_zero,List.setIfInBounds_toArray,List.set_cons_zero,List.set_cons_succ]
     clear HK Kc
     refine wpAnyH_ready (rs:=[17]) (by kernel_rfl) (by simp) ?_
     refine AllReadyH.cons rfl (fun Kc hK=>?_) AllReadyH.nil
     have HK:=Lib.hid hK
     clear hK hHeld
     rw [if_pos (by rfl)]
     refine wp_store_mid _ _ _ rfl fb 0 (ecl ⟨a0,a1,a2,a3⟩).toArray rfl rfl (RH.thereE H8.out) (by rfl) (ecl4_one _) ?_
     rw [List.toList_toArray]
     have HB2:=Lib.hid (RH.layE (e:=⟨a0,a1,a2,a3⟩) H8.out (by intro z hz;simp only [List.mem_cons,List.not_mem_nil,or_false] at hz;rcases hz with rfl | rfl | rfl;exact NXF.out;exact NF1.out;exact NF2.out))
     obtain ⟨w8,hw8⟩:∃ x,x=w7.setCells fb 0 (ecl ⟨a0,a1,a2,a3⟩):=⟨_,rfl⟩
     rw [← hw8] at HB2 ⊢
     clear hw8 H8
     refine HK.out.out _ _ (HS.out _ _ _ _ _ _ HB2.out (by simp)) (fun hHeld=>?_)
     try simp only [Act.put,List.getElem_toArray,List.getElem_cons_succ,List.getElem_cons_zero,List.setIfInBounds_toArray,List.set_cons_zero,List.set_cons_succ]
     clear HK Kc
     refine wpAnyH_takes (by kernel_rfl) (fun _ _ _ _ _ h=>h) hHeld [18] [(15,.int .i64 an)] 1 _ _ rfl (by kernel_rfl) ?_ ?_
     ·
      refine tkI rfl rfl (by rfl) ?_ <| tkN
      all_goals (intro W hSw;clear hHeld hSw;go_simp)
     simp only [putsL,listedL,Act.put,List.setIfInBounds_toArray,List.set_cons_zero,List.set_cons_succ]
     refine wpAnyH_done (by kernel_rfl) ?_ _
     clear hHeld HS
     go_wp2_with fail
     go_meet
     case rel=>exact ⟨X',xb,fb,rfl,rfl,rfl,HB2⟩
  case rest =>
   obtain ⟨X',xb,fb,rfl,rfl,rfl,HB2⟩:=hcut
   clear MD HE
   have HRB:Hid (wc.rangeAt xb 0 (xcells X')):=Lib.hid (XBlk.range (b:=xb) (HB2.out.keep (xb,some (Obj.cells (xcells X').toArray 38 (0,0))) (by simp)).2.2.2)
   go_upto_region 25 with (first
    | (refine wpList_load_mid rfl 38 (.tmp 13) rfl xb 0 rfl (xcells X') _ HRB.out Tryz.underlying38 rfl (xinf X') ?_)
    | (refine wpList_store_mid rfl 38 (.tmp 113) (.tmp 111) rfl p 1 (xcells X').toArray rfl rfl (HB2.out.there X') (xinfA X') (xcells_one X') ?_;obtain ⟨w9,hw9⟩:∃ w9,w9=wc.setCells p 1 (xcells X'):=⟨_,rfl⟩;rw [List.toList_toArray,← hw9]))
   have H9:=Lib.hid HB2.out.store
   rw [← hw9] at H9
   clear hw9 HB2 HRB
   have he9:Blk w9 eb #[.int .i64 a0,.int .u64 a1,.int .i64 a2,.int .u64 a3] 34:=(H9.out.keep (eb,some (Obj.cells #[.int .i64 a0,.int .u64 a1,.int .i64 a2,.int .u64 a3] 34 (0,0))) (by simp)).2.2.2
   have hf9:Blk w9 fb #[.int .i64 a0,.int .u64 a1,.int .i64 a2,.int .u64 a3] 34:=(H9.out.keep _ List.mem_cons_self).2.2.2
   have e0:w9.cell? ⟨eb,0,none⟩=some (.int .i64 a0):=Blk.cell he9 0
   have e1:w9.cell? ⟨eb,1,none⟩=some (.int .u64 a1):=Blk.cell he9 1
   have e2:w9.cell? ⟨eb,2,none⟩=some (.int .i64 a2):=Blk.cell he9 2
   have e3:w9.cell? ⟨eb,3,none⟩=some (.int .u64 a3):=Blk.cell he9 3
   have f0:w9.cell? ⟨fb,0,none⟩=some (.int .i64 a0):=Blk.cell hf9 0
   have f1:w9.cell? ⟨fb,1,none⟩=some (.int .u64 a1):=Blk.cell hf9 1
   have f2:w9.cell? ⟨fb,2,none⟩=some (.int .i64 a2):=Blk.cell hf9 2
   have f3:w9.cell? ⟨fb,3,none⟩=some (.int .u64 a3):=Blk.cell hf9 3
   clear he9 hf9
   go_wp2_with fail
   go_ret
   exact ⟨rfl,S',X',Lib.hid ⟨H9.out.less,HG.out.1,HG.out.2⟩⟩
theorem do_any (r0:RH w0 w p h S S X X K []) (H:HGood S) (hK:K+10000≤1000000000000000) (d:Dh) (hd:d.num) (g1:-9223372036854775808≤S.gran) (g2:S.gran≤9223372036854775807) :
  Calls Tryz.prog 7 #[.pointer (some ⟨p,0,none⟩),.agg d.cells.toArray] w fun r w'=>r=.returned (.bool true)∧∃ S' X',Hid (RH w0 w' p h S' S' X' X' (K+10000) []∧HGood S'∧S'.gran=S.gran):=by
 by_cases c0:d.kind=0
 · exact do_turn r0 H hK d hd (.inl c0)
 by_cases c1:d.kind=1
 · exact do_turn r0 H hK d hd (.inr (.inl c1))
 by_cases c2:d.kind=2
 · exact do_turn r0 H hK d hd (.inr (.inr (.inl c2)))
 by_cases c6:d.kind=6
 · exact do_turn r0 H hK d hd (.inr (.inr (.inr (.inl c6))))
 by_cases c7:d.kind=7
 · exact do_turn r0 H hK d hd (.inr (.inr (.inr (.inr c7))))
 by_cases c3:d.kind=3
 · exact do_put r0 H hK d hd c3
 by_cases c4:d.kind=4
 · exact do_drop r0 H hK d hd c4
 by_cases c5:d.kind=5
 · exact do_nice r0 H hK d hd c5
 by_cases c8:d.kind=8
 · exact do_charge r0 H hK d hd c8
 by_cases c9:d.kind=9
 · exact do_yield r0 H hK d hd g1 g2 c9
 exact do_pick r0 H hK d hd g1 g2 ⟨c0,c1,c2,c6,c7,c3,c4,c5,c8,c9⟩
end
end Go.Proofs.YtefekboacghnjaaGreat
