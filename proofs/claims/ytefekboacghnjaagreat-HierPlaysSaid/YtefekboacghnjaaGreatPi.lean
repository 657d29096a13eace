/-
  doleref20.settle, where it ends at once.
  doleref20.settle, where a group comes to stand in its parent's queue.
  doleref20.settle, where a group leaves its parent's queue; all of it.
  doleref20.Put.
  doleref20.Nice, Stop.
-/
import Derived.Test.YtefekboacghnjaaGreatPg
import Derived.Deep.CutBlock
import Derived.Deep.Cut
import Derived.StillTailTactics
import Derived.Deep.RegionHeld3
import Derived.Test.YtefekboacghnjaaGreatMn
set_option linter.unusedVariables false
set_option linter.unusedSimpArgs false
namespace Go.Proofs.YtefekboacghnjaaGreat
open Go.RowKit Go.Maps
section
variable {w:World} {S:HS} {X:XH}
set_option maxRecDepth 100000 in
theorem xsettle_root (a:XAt w S X):Calls Tryz.prog 64 #[xV X,.int .i64 0] w fun e w'=>∃ X',e=.returned (xV X')∧Hid (XTo w w' X X' S):=by
 obtain ⟨W1,hW1,f,_⟩:=XFr.new a
 have hrg:=f.box.range
 have hth:=f.res.there X
 rw [hW1] at hrg hth
 have HF:=Lib.hid f
 have HR:=Lib.hid (And.intro hrg (And.intro (xinf X) (And.intro hth (And.intro (xinfA X) (xcells_one X)))))
 have HW:=Lib.hid hW1
 clear hW1 f hrg hth a
 show Calls Tryz.prog _ #[.agg (xcells X).toArray,.int .i64 0] w _
 go_enter Tryz.func64,Tryz.ntmps64
 go_wp2_with (first
  | (refine wpList_wload_mid rfl 38 (.tmp 2) rfl w.heap.size 0 rfl (xcells X) _ HR.out.1 Tryz.underlying38 rfl HR.out.2.1 ?_)
  | (refine wpList_store_mid rfl 38 (.tmp 4) (.tmp 16) rfl (w.heap.size+1) 0 (xcells X).toArray rfl rfl HR.out.2.2.1 HR.out.2.2.2.1 HR.out.2.2.2.2 ?_))
 rw [← HW.out]
 obtain ⟨W9,hW9⟩:∃ W9,W9=W1.setCells (w.heap.size+1) 0 (xcells X):=⟨_,rfl⟩
 have hd:=HF.out.done
 rw [← hW9] at hd ⊢
 have hl:=xload hd.1
 refine bodyPost_ret (v:=xV X) (res_cell Tryz.results64 rfl hl) rfl ⟨X,rfl,Lib.hid hd.2⟩
theorem should_cases (x:Gr):(x.q.L≠[]∧x.stopped=false∧shouldB x=true)∨(x.q.L≠[]∧x.stopped=true∧shouldB x=false)∨(x.q.L=[]∧shouldB x=false):=by
 unfold shouldB
 cases hl:x.q.L with
 | nil=>exact .inr (.inr ⟨rfl,by simp⟩)
 | cons e l =>
  cases hs:x.stopped with
  | false=>exact .inl ⟨by simp,rfl,rfl⟩
  | true=>exact .inr (.inl ⟨by simp,rfl,rfl⟩)
def NTest (n:Nat) (b:Bool):Prop:=decide ((0:Int)<(n:Int))=b∧decide (0<n)=b
theorem NTest.yes {L:List En} (h:L≠[]):NTest L.length true:=⟨decide_eq_true (by have:=List.length_pos_iff.2 h;omega),decide_eq_true (List.length_pos_iff.2 h)⟩
theorem NTest.no {L:List En} (h:L=[]):NTest L.length false:=by rw [h];exact ⟨rfl,rfl⟩
set_option maxRecDepth 100000 in
set_option maxHeartbeats 4000000 in
theorem xsettle_same (a:XAt w S X) (I:HInv S) {i:Nat} {x:Gr} (h0:i≠0) (hx:S.G i=some x) (hs:shouldB x=x.on) :
  Calls Tryz.prog 64 #[xV X,.int .i64 (i:Int)] w fun e w'=>∃ X',e=.returned (xV X')∧Hid (XTo w w' X X' S):=by
 obtain ⟨u,p,hu,hp,_⟩:=I.tree.up i x h0 hx
 have hi:=I.tree.lt hx
 obtain ⟨W1,hW1,f,_⟩:=XFr.new a
 have hrg:=f.box.range
 rw [hW1] at hrg
 obtain ⟨hxu,hxq,hxh,_⟩:=a.is i x hx
 have hc:=xbox_cell X (show 130+i<322 by omega) (xcell_up X hi)
 rw [hxu,hu] at hc
 have MO:=Lib.hid (xon_is a I h0 hx f.bel)
 have HF:=Lib.hid f
 have HR:=Lib.hid (And.intro hrg (And.intro (xinf X) (And.intro (xinfA X) (xcells_one X))))
 have HW:=Lib.hid hW1
 have HX:=Lib.hid (And.intro hxq (And.intro (hxh h0) hi))
 have hcase:(NTest x.q.L.length true∧x.stopped=false∧x.on=true)∨(NTest x.q.L.length true∧x.stopped=true∧x.on=false)∨(NTest x.q.L.length false∧x.on=false):=by
  rcases should_cases x with ⟨e1,e2,e3⟩ | ⟨e1,e2,e3⟩ | ⟨e1,e3⟩
  · exact .inl ⟨NTest.yes e1,e2,by rw [← hs];exact e3⟩
  · exact .inr (.inl ⟨NTest.yes e1,e2,by rw [← hs];exact e3⟩)
  · exact .inr (.inr ⟨NTest.no e1,by rw [← hs];exact e3⟩)
 have z0:((i:Int) == 0)=false:=by rw [beq_eq_false_iff_ne];omega
 have z2:decide ((i:Int)=0)=false:=decide_eq_false (by omega)
 have z3:decide (i=0)=false:=decide_eq_false h0
 have j0:(0:Int)≤(i:Int):=by omega
 have j2:(i:Int)<32:=by omega
 have j5:decide (i<32)=true:=decide_eq_true hi
 clear hW1 f hrg a I hp hu hs h0 hi hxu hxq hxh
 show Calls Tryz.prog _ #[.agg (xcells X).toArray,.int .i64 (i:Int)] w _
 go_enter Tryz.func64,Tryz.ntmps64
 go_wp2_with (refine wpList_wload_mid rfl 38 (.tmp 2) rfl w.heap.size 0 rfl (xcells X) _ HR.out.1 Tryz.underlying38 rfl HR.out.2.1 ?_)
 rw [← HW.out]
 refine MO.out.mono ?_
 rintro e w2 ⟨rfl,hb⟩
 have f2:=HF.out.below hb
 have q0:=(f2.box.q HX.out.2.2).1
 have hh:=f2.box.halt HX.out.2.2
 rw [HX.out.1] at q0
 rw [HX.out.2.1] at hh
 have HF2:=Lib.hid f2
 have HR2:=Lib.hid (And.intro f2.box.range (f2.res.there X))
 clear f2 hb HF MO HW hc
 clear HX hx
 generalize x.q.L.length=n at *
 generalize x.stopped=st at *
 generalize x.on=on at *
 rcases hcase with ⟨⟨n1,n2⟩,rfl,rfl⟩ | ⟨⟨n1,n2⟩,rfl,rfl⟩ | ⟨⟨n1,n2⟩,rfl⟩
 all_goals
  go_wp2_with (first
   | (refine wpList_wload_mid rfl 38 (.tmp 2) rfl w.heap.size 0 rfl (xcells X) _ HR2.out.1 Tryz.underlying38 rfl HR.out.2.1 ?_)
   | (refine wpList_store_mid rfl 38 (.tmp 4) (.tmp 41) rfl (w.heap.size+1) 0 (xcells X).toArray rfl rfl HR2.out.2 HR.out.2.2.1 HR.out.2.2.2 ?_))
  obtain ⟨W9,hW9⟩:∃ W9,W9=w2.setCells (w.heap.size+1) 0 (xcells X):=⟨_,rfl⟩
  have hd:=HF2.out.done
  rw [← hW9] at hd ⊢
  have hl:=xload hd.1
  refine bodyPost_ret (v:=xV X) (res_cell Tryz.results64 rfl hl) rfl ⟨X,rfl,Lib.hid hd.2⟩
end
end Go.Proofs.YtefekboacghnjaaGreat
namespace Go.Proofs.YtefekboacghnjaaGreat
open Go.RowKit Go.Maps
theorem kp_alloc {B:Nat} {W w:World} {R:Prop} (h:Below B W w∧R) (hB:B≤W.heap.size) (o:Obj):Below B W (w.alloc o):=h.1.alloc (Nat.le_trans hB h.1.size) o
theorem kb_alloc {W w:World} (h:Below W.heap.size W w) (o:Obj):Below W.heap.size W (w.alloc o):=h.alloc h.size o
theorem kb_four {W w:World} (h:Below W.heap.size W w) {b:Nat} (hb:W.heap.size≤b) (u0 u1 u2 u3:Value):Below W.heap.size W ((((w.setCell ⟨b,0,none⟩ u0).setCell ⟨b,1,none⟩ u1).setCell ⟨b,2,none⟩ u2).setCell ⟨b,3,none⟩ u3):=four_below h b hb u0 u1 u2 u3
theorem blk_ahead {W w':World} {cs:Array Value} {t:TypeId} (hb:Below (W.alloc (.cells cs t)).drew.heap.size (W.alloc (.cells cs t)).drew w'):Blk w' W.heap.size cs t:=Blk.below (w:=(W.alloc (.cells cs t)).drew) (Blk.new W cs t) hb (Blk.new W cs t).lt
theorem RfRes.ahead {W w1 w2:World} {A A':Option Addr} {c c':Nat} {Y Y':QS} {o:Obj} (hr:RfRes (W.alloc o).drew w1 A A' c' Y Y') (hA:RQ W W.heap.size A c Y.L) (ho:∀ b,b≠W.heap.size→w2.heap[b]?=w1.heap[b]?) (hs:w2.heap.size=w1.heap.size)
  (hB:Below W.heap.size W w2):RfRes W w2 A A' c' Y Y':=by
 have hz:(W.alloc o).drew.heap.size=W.heap.size+1:=by simp
 refine ⟨⟨⟨?_,hr.res.rq.2⟩,hr.res.or.imp id (fun h a ha=>by have:=h a ha;omega),hB⟩,fun hne=>(hr.or hne).imp id (fun h a ha=>by have:=h a ha;omega)⟩
 by_cases hne:Y'.L=[]
 · exact .inl hne
 ·
  obtain ⟨b,off,q1,q2,q3⟩:=hr.res.rq.1.at_ (List.length_pos_iff.2 hne)
  refine .inr ⟨b,off,q1,by omega,fun j hj=>(q3 j hj).of (ho b ?_)⟩
  rcases hr.or hne with ⟨e1,e2⟩ | e
  ·
   obtain ⟨b2,off2,k1,k2,_⟩:=hA.1.at_ (List.length_pos_iff.2 e2)
   rw [← e1,q1] at k1
   injection k1 with k1
   injection k1 with k1
   omega
  ·
   have:=e _ q1
   simp only at this
   omega
theorem RfRes.later {W w1 w2:World} {A A':Option Addr} {c':Nat} {Y Y':QS} (hr:RfRes W w1 A A' c' Y Y') (hb:Below w1.heap.size w1 w2):RfRes W w2 A A' c' Y Y' :=
 ⟨⟨(hr.res.rq.below hb).mono hb.size,hr.res.or,hr.res.bel.trans (hb.mono hr.res.bel.size)⟩,hr.or⟩
theorem RfRes.drew {W w1:World} {A A':Option Addr} {c':Nat} {Y Y':QS} (hr:RfRes W.drew w1 A A' c' Y Y'):RfRes W w1 A A' c' Y Y' :=
 ⟨⟨hr.res.rq,hr.res.or,((Below.refl _ _).drew).trans hr.res.bel⟩,hr.or⟩
section
variable {w:World} {S:HS} {X:XH}
set_option maxRecDepth 100000 in
set_option maxHeartbeats 16000000 in
theorem xsettle_put (a:XAt w S X) (I:HInv S) {i u:Nat} {x p:Gr} (h0:i≠0) (hx:S.G i=some x) (hu:x.up=((u:Nat):Int)) (hp:S.G u=some p) (hs:shouldB x=true) (hon:x.on=false) {S':HS}
  (M:∀ W Y,XAt W (stepH S i u x p) Y→Calls Tryz.prog 64 #[xV Y,.int .i64 (u:Int)] W fun e w'=>∃ X',e=.returned (xV X')∧Hid (XTo W w' Y X' S')) :
  Calls Tryz.prog 64 #[xV X,.int .i64 (i:Int)] w fun e w'=>∃ X',e=.returned (xV X')∧Hid (XTo w w' X X' S'):=by
 have hi:=I.tree.lt hx
 have hu32:=I.tree.lt hp
 obtain ⟨hne,_⟩:=I.tree.ne h0 hx hu hp
 obtain ⟨W1,hW1,f,_⟩:=XFr.new a
 have hrg:=f.box.range
 rw [hW1] at hrg
 obtain ⟨hxu,hxq,hxh,hxo⟩:=a.is i x hx
 have hc:=xbox_cell X (show 130+i<322 by omega) (xcell_up X hi)
 rw [hxu,hu] at hc
 have MO:=Lib.hid (xon_is a I h0 hx f.bel)
 rw [hon] at MO
 have HF:=Lib.hid f
 have HR:=Lib.hid (And.intro hrg (And.intro (xinf X) (And.intro (xinfA X) (xcells_one X))))
 have HW:=Lib.hid hW1
 have hst:x.stopped=false:=by
  rcases should_cases x with ⟨_,e2,_⟩ | ⟨_,_,e3⟩ | ⟨_,e3⟩
  · exact e2
  · rw [hs] at e3;simp at e3
  · rw [hs] at e3;simp at e3
 have hnn:NTest x.q.L.length true:=by
  rcases should_cases x with ⟨e1,_,_⟩ | ⟨_,_,e3⟩ | ⟨_,e3⟩
  · exact NTest.yes e1
  · rw [hs] at e3;simp at e3
  · rw [hs] at e3;simp at e3
 have HX:=Lib.hid (And.intro hxq (And.intro ((hxh h0).trans hst) (And.intro hi (And.intro hu32 (hxo h0 hon)))))
 have z0:((i:Int) == 0)=false:=by rw [beq_eq_false_iff_ne];omega
 have z2:decide ((i:Int)=0)=false:=decide_eq_false (by omega)
 have z3:decide (i=0)=false:=decide_eq_false h0
 have j0:(0:Int)≤(i:Int):=by omega
 have j2:(i:Int)<32:=by omega
 have j5:decide (i<32)=true:=decide_eq_true hi
 have u0:(0:Int)≤(u:Int):=by omega
 have u2:(u:Int)<32:=by omega
 have u5:decide (u<32)=true:=decide_eq_true hu32
 have O:=I.own i x h0 hx
 have hpq:=(a.is u p hp).2.1
 have hpok:=I.qok u p hp
 have hled:=a.led u p hp
 obtain ⟨v2,hv2⟩:∃ v2,v2=wakeZ x.own.v p.q.mn S.credit:=⟨_,rfl⟩
 have hv2i:-9223372036854775808≤v2∧v2≤9223372036854775807:=by
  rw [hv2]
  have h1:=O.v1
  have h2:=O.v2
  have h3:=satZ_lo p.q.mn (-(holdZ S.credit 0 1099511627776))
  have h4:=satZ_hi p.q.mn (-(holdZ S.credit 0 1099511627776))
  unfold wakeZ
  omega
 have MW:=Lib.hid fun W=>(refWake_any x.own.v p.q.mn S.credit hpok.m1 hpok.m2 W).mono (R':=fun e w'=>e=.returned (.int .i64 v2)∧w'=W) fun e w' h=>⟨by rw [hv2];exact h.1,h.2.symm⟩
 have hput:=(put_fine I h0 hx hu hp hon v2).1
 have he:({ x.own with v:=v2 }:En).num:=by
  have n:=I.num i x h0 hx
  exact ⟨n.i1,n.i2,hv2i.1,hv2i.2,n.w2,n.r2⟩
 have MP:=fun (W:World) (hW:RQ W W.heap.size (X.g u).A (X.g u).c p.q.L)=>rf_put (X.g u).A (X.g u).c p.q hpok { x.own with v:=v2 } he W hW
 rw [hput] at MP
 have hst2:(S.put u (some { p with q:=putQ p.q { x.own with v:=v2 } })).put i (some { x with own:={ x.own with v:=v2 },on:=true })=stepH S i u x p:=by unfold stepH;rw [if_pos hs,← hv2]
 have hled2:=led_putQ (e:={ x.own with v:=v2 }) hled
 generalize putQ p.q { x.own with v:=v2 } = q2 at *
 obtain ⟨m2,hm2⟩:∃ m2,m2=q2.L.length:=⟨_,rfl⟩
 rw [← hm2] at MP
 have MP:=Lib.hid MP
 have HST:=Lib.hid hst2
 have HP:=Lib.hid (And.intro hx (And.intro hp (And.intro hne (And.intro hpq (And.intro hled2 (And.intro a.cr hm2))))))
 have HM:=Lib.hid M
 clear hW1 f hrg a I hu hs h0 hxu hxq hxh hxo hon hst O hpok hled hv2 hv2i he hp hne hx hpq hput M hst2 hled2 hm2
 show Calls Tryz.prog _ #[.agg (xcells X).toArray,.int .i64 (i:Int)] w _
 go_enter Tryz.func64,Tryz.ntmps64
 go_wp2_with (refine wpList_wload_mid rfl 38 (.tmp 2) rfl w.heap.size 0 rfl (xcells X) _ HR.out.1 Tryz.underlying38 rfl HR.out.2.1 ?_)
 rw [← HW.out]
 refine MO.out.mono ?_
 rintro e w2 ⟨rfl,hb⟩
 have f2:=HF.out.below hb
 have q0:=(f2.box.q HX.out.2.2.1).1
 have hh:=f2.box.halt HX.out.2.2.1
 obtain ⟨o0,o1,o2,o3⟩:=f2.box.own HX.out.2.2.1
 obtain ⟨-,p1,p2,p3⟩:=f2.box.q HX.out.2.2.2.1
 obtain ⟨c0,-⟩:=f2.box.cred
 rw [HX.out.1] at q0
 rw [HX.out.2.1] at hh
 rw [HX.out.2.2.2.2] at o0 o1 o2 o3
 rw [HP.out.2.2.2.1] at p1 p2 p3
 rw [HP.out.2.2.2.2.2.1] at c0
 have HF2:=Lib.hid f2
 clear f2 hb HF MO HW hc
 generalize x.q.L.length=n at *
 obtain ⟨n1,n2⟩:=hnn
 go_wp2_with fail
 obtain ⟨W3,hW3⟩:∃ W3,W3=w2.alloc (.cells #[.int .i64 x.own.id,.int .u64 x.own.wt,.int .i64 x.own.v,.int .u64 x.own.rem] 34):=⟨_,rfl⟩
 have hb3:Below w2.heap.size w2 W3:=by rw [hW3];exact (Below.refl _ _).alloc (Nat.le_refl _) _
 have hx3:Blk W3 w2.heap.size #[.int .i64 x.own.id,.int .u64 x.own.wt,.int .i64 x.own.v,.int .u64 x.own.rem] 34:=by rw [hW3];exact Blk.new _ _ _
 rw [← hW3]
 have b2:W3.cell? ⟨w2.heap.size,2,none⟩=some (.int .i64 x.own.v):=Blk.cell hx3 2
 have bf:W3.frozen? ⟨w2.heap.size,2,none⟩=false:=Blk.frozen hx3 2
 obtain ⟨-,-,p2',-⟩:=((HF2.out.below hb3).box.q HX.out.2.2.2.1)
 obtain ⟨c0',-⟩:=(HF2.out.below hb3).box.cred
 rw [HP.out.2.2.2.1] at p2'
 rw [HP.out.2.2.2.2.2.1] at c0'
 have H3:=Lib.hid (And.intro hb3 hx3)
 clear hW3 hb3 hx3 q0 hh o0 o1 o2 o3 p1 p2 p3 c0
 go_still_tail 11,(by kernel_rfl)
 still_call (MW.out _)
 repeat still_step
 refine wpStill_nil ?_
 change wpList _ _ _ _ _ W3.drew
 go_wp2_with fail
 obtain ⟨W4,hW4⟩:∃ W4,W4=(W3.setCell ⟨w2.heap.size,2,none⟩ (.int .i64 v2)).drew:=⟨_,rfl⟩
 have hb4:Below w2.heap.size w2 W4:=by rw [hW4];exact (H3.out.1.setCell (Nat.le_refl _) _).drew
 have hx4:Blk W4 w2.heap.size #[.int .i64 x.own.id,.int .u64 x.own.wt,.int .i64 v2,.int .u64 x.own.rem] 34:=by
  rw [hW4]
  exact Blk.set H3.out.2 2 (.int .i64 v2)
 rw [← hW4]
 have f4:=HF2.out.below hb4
 have hr4:=f4.at_.row u HX.out.2.2.2.1
 rw [HP.out.2.2.2.1] at hr4
 have SO:=Lib.hid fun W (hW:Below W4.heap.size W4 W)=>(by
   obtain ⟨q0,q1,q2,q3⟩:=(f4.box.below hW).q HX.out.2.2.2.1
   rw [HP.out.2.2.2.1] at q0 q1 q2 q3
   have hx:=hx4.below hW hx4.lt
   exact ⟨hW,⟨q0,q1,q2,q3⟩,Blk.cell hx 0,Blk.cell hx 1,Blk.cell hx 2,Blk.cell hx 3⟩ :
  Below W4.heap.size W4 W∧(W.cell? ⟨w.heap.size,2+u*4,none⟩=some (.slice (X.g u).A p.q.L.length (X.g u).c)∧W.cell? ⟨w.heap.size,2+u*4+1,none⟩=some (.int .i64 p.q.cur)∧W.cell? ⟨w.heap.size,2+u*4+2,none⟩=some (.int .i64 p.q.mn)∧W.cell? ⟨w.heap.size,2+u*4+3,none⟩=some (.bool p.q.over)) ∧
   W.cell? ⟨w2.heap.size,0,none⟩=some (.int .i64 x.own.id)∧W.cell? ⟨w2.heap.size,1,none⟩=some (.int .u64 x.own.wt)∧W.cell? ⟨w2.heap.size,2,none⟩=some (.int .i64 v2)∧W.cell? ⟨w2.heap.size,3,none⟩=some (.int .u64 x.own.rem))
 have hz4:=Nat.le_refl W4.heap.size
 have HF4:=Lib.hid (And.intro f4 hr4)
 have MP2:=Lib.hid fun W (k:Below W4.heap.size W4 W)=>MP.out W ((hr4.below k).mono k.size)
 clear hW4 hb4 hx4 f4 hr4 H3 p2' c0' b2 bf HF2 MP MW
 generalize p.q.L.length=m at *
 go_region_held3 (fun W=>Below W4.heap.size W4 W∧(W.cell? ⟨w.heap.size,2+u*4,none⟩=some (.slice (X.g u).A m (X.g u).c)∧W.cell? ⟨w.heap.size,2+u*4+1,none⟩=some (.int .i64 p.q.cur)∧W.cell? ⟨w.heap.size,2+u*4+2,none⟩=some (.int .i64 p.q.mn)∧W.cell? ⟨w.heap.size,2+u*4+3,none⟩=some (.bool p.q.over)) ∧
   W.cell? ⟨w2.heap.size,0,none⟩=some (.int .i64 x.own.id)∧W.cell? ⟨w2.heap.size,1,none⟩=some (.int .u64 x.own.wt)∧W.cell? ⟨w2.heap.size,2,none⟩=some (.int .i64 v2)∧W.cell? ⟨w2.heap.size,3,none⟩=some (.int .u64 x.own.rem))
  (first | exact SO.out _ (kp_drew (by assumption)) | exact SO.out _ (by assumption) | exact SO.out _ (kp_call (by assumption) (by assumption) hz4) | exact SO.out _ (kp_same (by assumption)) | exact SO.out _ (kp_alloc (by assumption) hz4 _) | exact SO.out _ (kp_start _ _) | exact SO.out _ (kb_alloc (Below.refl _ _) _).drew | exact SO.out _ (kb_alloc (by assumption) _) | exact SO.out _ (kb_four (by assumption) (Nat.le_refl _) _ _ _ _))
  (first
   | (go_at_call 63;refine (MP2.out _ (by first | exact kp_same (by assumption) | exact kp_drew (by assumption) | exact kp_start _ _ | exact kp_alloc (by assumption) hz4 _ | exact (kb_alloc (Below.refl _ _) _).drew)).mono ?_;rintro r w5 ⟨A5,c5,rfl,H5⟩;have hb5:=H5.out.res.bel;have k5:=kp_call hb5 (by assumption) hz4;first | (have k9:=blk_ahead hb5;have g0:=Blk.cell k9 0;have g1:=Blk.cell k9 1;have g2:=Blk.cell k9 2;have g3:=Blk.cell k9 3;have gf:=Blk.frozen k9) | skip))
 ·
  obtain ⟨W6,hW6⟩:∃ W6,W6=w5.alloc (.cells #[.slice A5 m2 c5,.int .i64 q2.cur,.int .i64 q2.mn,.bool q2.over] 29):=⟨_,rfl⟩
  have hx6:Blk W6 w5.heap.size #[.slice A5 m2 c5,.int .i64 q2.cur,.int .i64 q2.mn,.bool q2.over] 29:=by rw [hW6];exact Blk.new _ _ _
  have hr6:RfRes W4 W6 (X.g u).A A5 c5 p.q q2:=(H5.out.drew).later (by rw [hW6];exact (Below.refl _ _).alloc (Nat.le_refl _) _)
  change Exit.then _ _ _ _ (w5.alloc (.cells #[.slice A5 m2 c5,.int .i64 q2.cur,.int .i64 q2.mn,.bool q2.over] 29))
  rw [← hW6]
  have hr7:=hr6
  rw [← HP.out.2.2.2.1] at hr7
  have f7:=HF4.out.1.queue HP.out.2.1 HX.out.2.2.2.1 hr7 HP.out.2.2.2.2.1 (Below.refl _ _) HP.out.2.2.2.2.2.2
  have f6:=HF4.out.1.below hr6.res.bel
  obtain ⟨y0,y1,y2,y3⟩:=f6.box.q HX.out.2.2.2.1
  have yf:=f6.box.frozen
  have x0:W6.cell? ⟨_,0,none⟩=some (.slice A5 m2 c5):=Blk.cell hx6 0
  have x1:W6.cell? ⟨_,1,none⟩=some (.int .i64 q2.cur):=Blk.cell hx6 1
  have x2:W6.cell? ⟨_,2,none⟩=some (.int .i64 q2.mn):=Blk.cell hx6 2
  have x3:W6.cell? ⟨_,3,none⟩=some (.bool q2.over):=Blk.cell hx6 3
  have HF7:=Lib.hid f7
  rename_i hHeld
  clear hHeld f7 f6 hr7 hr6 hW6 hx6 H5 hb5 k5 SO HF4 MP2
  go_upto_region 16 with (fail)
  obtain ⟨W7,hW7,f7⟩:∃ W7,W7=_∧XFr 1 1 w W7 X _ _:=⟨_,rfl,HF7.out⟩
  rw [← hW7]
  clear HF7
  have hat:=f7.at_.put_on ((HS.put_other S _ (Ne.symm HP.out.2.2.1)).trans HP.out.1) { x.own with v:=v2 }
  rw [HST.out] at hat
  obtain ⟨Y7,hY7⟩:∃ Y7,Y7=X.put u { X.g u with A:=A5,c:=c5,q:=q2 }:=⟨_,rfl⟩
  rw [← hY7] at f7 hat
  have HR7:=Lib.hid (And.intro f7.box.range (xinf Y7))
  have HF7:=Lib.hid f7
  have HAT:=Lib.hid hat
  clear f7 hat hY7 hW7 y0 y1 y2 y3 yf x0 x1 x2 x3
  go_wp2_with (refine wpList_wload_mid rfl 38 (.tmp 2) rfl w.heap.size 0 rfl (xcells Y7) _ HR7.out.1 Tryz.underlying38 rfl HR7.out.2 ?_)
  refine (HM.out _ Y7 HAT.out).mono ?_
  rintro r w8 ⟨Y8,rfl,H8⟩
  have HR8:=Lib.hid (And.intro ((HF7.out.res.below H8.out.bel).there Y8) (And.intro (xinfA Y8) (xcells_one Y8)))
  have hd:=HF7.out.done2 H8.out
  clear HR7 HAT HM H8 HF7
  go_wp2_with (refine wpList_store_mid rfl 38 (.tmp 4) (.tmp 93) rfl (w.heap.size+1) 0 (xcells Y8).toArray rfl rfl HR8.out.1 HR8.out.2.1 HR8.out.2.2 ?_)
  obtain ⟨W9,hW9⟩:∃ W9,W9=w8.setCells (w.heap.size+1) 0 (xcells Y8):=⟨_,rfl⟩
  rw [← hW9] at hd ⊢
  have hl:=xload hd.1
  refine bodyPost_ret (v:=xV Y8) (res_cell Tryz.results64 rfl hl) rfl ⟨Y8,rfl,Lib.hid hd.2⟩
 ·
  obtain ⟨W6,hW6⟩:∃ W6,W6=(((w5.setCell ⟨W4.heap.size,0,none⟩ (.slice A5 m2 c5)).setCell ⟨W4.heap.size,1,none⟩ (.int .i64 q2.cur)).setCell ⟨W4.heap.size,2,none⟩ (.int .i64 q2.mn)).setCell ⟨W4.heap.size,3,none⟩ (.bool q2.over):=⟨_,rfl⟩
  have hx6:Blk W6 W4.heap.size #[.slice A5 m2 c5,.int .i64 q2.cur,.int .i64 q2.mn,.bool q2.over] 29:=by
   rw [hW6]
   exact Blk.set (Blk.set (Blk.set (Blk.set k9 0 (.slice A5 m2 c5)) 1 (.int .i64 q2.cur)) 2 (.int .i64 q2.mn)) 3 (.bool q2.over)
  have hr6:RfRes W4 W6 (X.g u).A A5 c5 p.q q2:=H5.out.ahead HF4.out.2 (fun b hb=>by rw [hW6];exact four_other _ _ _ _ _ _ hb) (by rw [hW6];simp) (by rw [hW6];exact kb_four k5 (Nat.le_refl _) _ _ _ _)
  change Exit.then _ _ _ _ ((((w5.setCell ⟨W4.heap.size,0,none⟩ (.slice A5 m2 c5)).setCell ⟨W4.heap.size,1,none⟩ (.int .i64 q2.cur)).setCell ⟨W4.heap.size,2,none⟩ (.int .i64 q2.mn)).setCell ⟨W4.heap.size,3,none⟩ (.bool q2.over))
  rw [← hW6]
  have hr7:=hr6
  rw [← HP.out.2.2.2.1] at hr7
  have f7:=HF4.out.1.queue HP.out.2.1 HX.out.2.2.2.1 hr7 HP.out.2.2.2.2.1 (Below.refl _ _) HP.out.2.2.2.2.2.2
  have f6:=HF4.out.1.below hr6.res.bel
  obtain ⟨y0,y1,y2,y3⟩:=f6.box.q HX.out.2.2.2.1
  have yf:=f6.box.frozen
  have x0:W6.cell? ⟨_,0,none⟩=some (.slice A5 m2 c5):=Blk.cell hx6 0
  have x1:W6.cell? ⟨_,1,none⟩=some (.int .i64 q2.cur):=Blk.cell hx6 1
  have x2:W6.cell? ⟨_,2,none⟩=some (.int .i64 q2.mn):=Blk.cell hx6 2
  have x3:W6.cell? ⟨_,3,none⟩=some (.bool q2.over):=Blk.cell hx6 3
  have HF7:=Lib.hid f7
  rename_i hHeld
  clear hHeld f7 f6 hr7 hr6 hW6 hx6 H5 hb5 k5 SO HF4 MP2
  go_upto_region 16 with (fail)
  obtain ⟨W7,hW7,f7⟩:∃ W7,W7=_∧XFr 1 1 w W7 X _ _:=⟨_,rfl,HF7.out⟩
  rw [← hW7]
  clear HF7
  have hat:=f7.at_.put_on ((HS.put_other S _ (Ne.symm HP.out.2.2.1)).trans HP.out.1) { x.own with v:=v2 }
  rw [HST.out] at hat
  obtain ⟨Y7,hY7⟩:∃ Y7,Y7=X.put u { X.g u with A:=A5,c:=c5,q:=q2 }:=⟨_,rfl⟩
  rw [← hY7] at f7 hat
  have HR7:=Lib.hid (And.intro f7.box.range (xinf Y7))
  have HF7:=Lib.hid f7
  have HAT:=Lib.hid hat
  clear f7 hat hY7 hW7 y0 y1 y2 y3 yf x0 x1 x2 x3
  go_wp2_with (refine wpList_wload_mid rfl 38 (.tmp 2) rfl w.heap.size 0 rfl (xcells Y7) _ HR7.out.1 Tryz.underlying38 rfl HR7.out.2 ?_)
  refine (HM.out _ Y7 HAT.out).mono ?_
  rintro r w8 ⟨Y8,rfl,H8⟩
  have HR8:=Lib.hid (And.intro ((HF7.out.res.below H8.out.bel).there Y8) (And.intro (xinfA Y8) (xcells_one Y8)))
  have hd:=HF7.out.done2 H8.out
  clear HR7 HAT HM H8 HF7
  go_wp2_with (refine wpList_store_mid rfl 38 (.tmp 4) (.tmp 93) rfl (w.heap.size+1) 0 (xcells Y8).toArray rfl rfl HR8.out.1 HR8.out.2.1 HR8.out.2.2 ?_)
  obtain ⟨W9,hW9⟩:∃ W9,W9=w8.setCells (w.heap.size+1) 0 (xcells Y8):=⟨_,rfl⟩
  rw [← hW9] at hd ⊢
  have hl:=xload hd.1
  refine bodyPost_ret (v:=xV Y8) (res_cell Tryz.results64 rfl hl) rfl ⟨Y8,rfl,Lib.hid hd.2⟩
end
end Go.Proofs.YtefekboacghnjaaGreat
namespace Go.Proofs.YtefekboacghnjaaGreat
open Go.RowKit Go.Maps
theorem dropE_get {X:QS} (i:Int):dropE X.L i=(X.get i).getD ⟨0,0,0,0⟩:=by
 unfold dropE
 cases hf:fnd X.L i with
 | none=>rw [get_not hf];rfl
 | some k=>rw [get_fnd hf];rfl
theorem XFr.own {r k:Nat} {w W:World} {X Y:XH} {S:HS} (f:XFr r k w W X Y S) {i:Nat} {x y:Gr} (hx:S.G i=some x) (hi:i<32) (e:En) (h1:y.up=x.up) (h2:y.q=x.q) (h3:y.stopped=x.stopped) (h4:y.on=false→y.own=e) :
  XFr r k w ((((W.setCell ⟨w.heap.size,162+i*4,none⟩ (.int .i64 e.id)).setCell ⟨w.heap.size,162+i*4+1,none⟩ (.int .u64 e.wt)).setCell ⟨w.heap.size,162+i*4+2,none⟩ (.int .i64 e.v)).setCell ⟨w.heap.size,162+i*4+3,none⟩ (.int .u64 e.rem)) X (Y.put i { Y.g i with own:=e }) (S.put i (some y)):=by
 refine f.set (f.box.set_own hi e) (fun b hb=>four_oth _ _ _ _ _ _ _ hb) (four_siz _ _ _ _ _ _ _) (four_low f.bel _ (Nat.le_refl _) _ _ _ _ _) (fun j=>?_) f.at_.cr f.at_.gr (fun j hj hn=>?_) (fun j z hz=>?_) (fun j z hz=>?_)
 ·
  by_cases hji:j=i
  · subst hji;rw [XH.put_same];exact .inl ⟨rfl,rfl,rfl⟩
  · rw [XH.put_other _ _ hji];exact .inl ⟨rfl,rfl,rfl⟩
 ·
  by_cases hji:j=i
  · subst hji;rw [HS.put_same] at hn;simp at hn
  · rw [HS.put_other _ _ hji] at hn;rw [XH.put_other _ _ hji];exact f.at_.no j hj hn
 ·
  by_cases hji:j=i
  ·
   subst hji
   rw [HS.put_same] at hz
   injection hz with hz
   subst hz
   obtain ⟨e1,e2,e3,_⟩:=f.at_.is j x hx
   rw [XH.put_same]
   exact ⟨e1.trans h1.symm,e2.trans h2.symm,fun h0=>(e3 h0).trans h3.symm,fun _ hon=>(h4 hon).symm⟩
  · rw [HS.put_other _ _ hji] at hz;rw [XH.put_other _ _ hji];exact f.at_.is j z hz
 ·
  by_cases hji:j=i
  ·
   subst hji
   rw [HS.put_same] at hz
   injection hz with hz
   subst hz
   rw [h2]
   exact f.at_.led j x hx
  · rw [HS.put_other _ _ hji] at hz;exact f.at_.led j z hz
section
variable {w:World} {S:HS} {X:XH}
set_option maxRecDepth 100000 in
set_option maxHeartbeats 16000000 in
theorem xsettle_drop (a:XAt w S X) (I:HInv S) {i u:Nat} {x p:Gr} (h0:i≠0) (hx:S.G i=some x) (hu:x.up=((u:Nat):Int)) (hp:S.G u=some p) (hs:shouldB x=false) (hon:x.on=true) {S':HS}
  (M:∀ W Y,XAt W (stepH S i u x p) Y→Calls Tryz.prog 64 #[xV Y,.int .i64 (u:Int)] W fun e w'=>∃ X',e=.returned (xV X')∧Hid (XTo W w' Y X' S')) :
  Calls Tryz.prog 64 #[xV X,.int .i64 (i:Int)] w fun e w'=>∃ X',e=.returned (xV X')∧Hid (XTo w w' X X' S'):=by
 have hi:=I.tree.lt hx
 have hu32:=I.tree.lt hp
 obtain ⟨hne,_⟩:=I.tree.ne h0 hx hu hp
 obtain ⟨W1,hW1,f,_⟩:=XFr.new a
 have hrg:=f.box.range
 rw [hW1] at hrg
 obtain ⟨hxu,hxq,hxh,hxo⟩:=a.is i x hx
 have hc:=xbox_cell X (show 130+i<322 by omega) (xcell_up X hi)
 rw [hxu,hu] at hc
 have MO:=Lib.hid (xon_is a I h0 hx f.bel)
 rw [hon] at MO
 have HF:=Lib.hid f
 have HR:=Lib.hid (And.intro hrg (And.intro (xinf X) (And.intro (xinfA X) (xcells_one X))))
 have HW:=Lib.hid hW1
 have hcase:(NTest x.q.L.length true∧x.stopped=true)∨(NTest x.q.L.length false):=by
  rcases should_cases x with ⟨_,_,e3⟩ | ⟨e1,e2,e3⟩ | ⟨e1,e3⟩
  · rw [hs] at e3;simp at e3
  · exact .inl ⟨NTest.yes e1,e2⟩
  · exact .inr (NTest.no e1)
 have HX:=Lib.hid (And.intro hxq (And.intro (hxh h0) (And.intro hi hu32)))
 have z0:((i:Int) == 0)=false:=by rw [beq_eq_false_iff_ne];omega
 have z2:decide ((i:Int)=0)=false:=decide_eq_false (by omega)
 have z3:decide (i=0)=false:=decide_eq_false h0
 have j0:(0:Int)≤(i:Int):=by omega
 have j2:(i:Int)<32:=by omega
 have j5:decide (i<32)=true:=decide_eq_true hi
 have u0:(0:Int)≤(u:Int):=by omega
 have u2:(u:Int)<32:=by omega
 have u5:decide (u<32)=true:=decide_eq_true hu32
 have hpq:=(a.is u p hp).2.1
 have hpok:=I.qok u p hp
 have hled:=a.led u p hp
 have MP:=fun (W:World) (hW:RQ W W.heap.size (X.g u).A (X.g u).c p.q.L)=>rf_drop (X.g u).A (X.g u).c p.q hpok (2*(i:Int)+1) W hW
 have hst2:(S.put u (some { p with q:=dropQ p.q (2*(i:Int)+1) })).put i (some { x with own:=dropE p.q.L (2*(i:Int)+1),on:=false })=stepH S i u x p:=by unfold stepH;rw [if_neg (by rw [hs];simp),dropE_get]
 have hled2:=led_dropQ hled (2*(i:Int)+1)
 generalize dropQ p.q (2*(i:Int)+1)=q2 at *
 generalize dropE p.q.L (2*(i:Int)+1)=e2 at *
 generalize dropR p.q.L (2*(i:Int)+1)=r2 at *
 obtain ⟨m2,hm2⟩:∃ m2,m2=q2.L.length:=⟨_,rfl⟩
 rw [← hm2] at MP
 have MP:=Lib.hid MP
 have HST:=Lib.hid hst2
 have HP:=Lib.hid (And.intro hx (And.intro hp (And.intro hne (And.intro hpq (And.intro hled2 (And.intro a.cr hm2))))))
 have HM:=Lib.hid M
 clear hW1 f hrg a I hu hs h0 hxu hxq hxh hxo hon hpok hled hp hne hx hpq M hst2 hled2 hm2
 show Calls Tryz.prog _ #[.agg (xcells X).toArray,.int .i64 (i:Int)] w _
 go_enter Tryz.func64,Tryz.ntmps64
 go_wp2_with (refine wpList_wload_mid rfl 38 (.tmp 2) rfl w.heap.size 0 rfl (xcells X) _ HR.out.1 Tryz.underlying38 rfl HR.out.2.1 ?_)
 rw [← HW.out]
 refine MO.out.mono ?_
 rintro e w2 ⟨rfl,hb⟩
 have f2:=HF.out.below hb
 have q0:=(f2.box.q HX.out.2.2.1).1
 have hh:=f2.box.halt HX.out.2.2.1
 obtain ⟨p0,p1,p2,p3⟩:=f2.box.q HX.out.2.2.2
 rw [HX.out.1] at q0
 rw [HX.out.2.1] at hh
 rw [HP.out.2.2.2.1] at p0 p1 p2 p3
 have hr2:=f2.at_.row u HX.out.2.2.2
 rw [HP.out.2.2.2.1] at hr2
 have HF2:=Lib.hid (And.intro f2 hr2)
 clear f2 hb HF MO HW hc hr2
 generalize x.q.L.length=n at *
 obtain ⟨m,hm⟩:∃ m,m=p.q.L.length:=⟨_,rfl⟩
 rw [← hm] at MP p0
 clear hm
 generalize x.stopped=st at hh hcase
 have MP:=MP.out w2 HF2.out.2
 have MP:=Lib.hid MP
 rcases hcase with ⟨⟨n1,n2⟩,rfl⟩ | ⟨n1,n2⟩
 all_goals
  go_wp2_with fail
  refine MP.out.mono ?_
  rintro r w5 ⟨A5,c5,rfl,H5⟩
  have f5:=HF2.out.1.below H5.out.res.bel
  obtain ⟨y0,y1,y2,y3⟩:=f5.box.q HX.out.2.2.2
  obtain ⟨o0,o1,o2,o3⟩:=f5.box.own HX.out.2.2.1
  have yf:=f5.box.frozen
  have hlt5:=f5.box.lt
  have hne5:(w.heap.size=w5.heap.size)=False:=eq_false (by omega)
  have hne6:(w5.heap.size=w.heap.size)=False:=eq_false (by omega)
  have hne7:(w.heap.size=w5.heap.size+1)=False:=eq_false (by omega)
  have hne8:(w5.heap.size+1=w.heap.size)=False:=eq_false (by omega)
  have HF5:=Lib.hid f5
  clear f5 q0 hh p0 p1 p2 p3 MP
  go_upto_region 16 with (fail)
  have hr7:=H5.out
  rw [← HP.out.2.2.2.1] at hr7
  have f8:=((HF2.out.1.queue HP.out.2.1 HX.out.2.2.2 hr7 HP.out.2.2.2.2.1 (Below.refl _ _) HP.out.2.2.2.2.2.2).own ((HS.put_other S _ (Ne.symm HP.out.2.2.1)).trans HP.out.1) HX.out.2.2.1 e2 (y:={ x with own:=e2,on:=false }) rfl rfl rfl (fun _=>rfl))
  rw [HST.out] at f8
  have hal:∀ (W:World) (o1 o2:Obj),Below W.heap.size W ((W.alloc o1).alloc o2):=fun W o1 o2=>((Below.refl _ _).alloc (Nat.le_refl _) _).alloc (by simp) _
  obtain ⟨W9,hW9,f9⟩:∃ W9,W9=_∧XFr 1 1 w W9 X _ _:=⟨_,rfl,f8.below (hal _ (.cells #[.slice A5 m2 c5,.int .i64 q2.cur,.int .i64 q2.mn,.bool q2.over] 29) (.cells #[.int .i64 e2.id,.int .u64 e2.wt,.int .i64 e2.v,.int .u64 e2.rem] 34))⟩
  rw [← hW9]
  clear hal f8 hr7 hW9 H5 HF5 y0 y1 y2 y3 o0 o1 o2 o3 yf hlt5 hne5 hne6 hne7 hne8
  generalize XH.put _ i _=Y7 at f9
  have HR7:=Lib.hid (And.intro f9.box.range (xinf Y7))
  have HF7:=Lib.hid f9
  clear f9
  go_wp2_with (refine wpList_wload_mid rfl 38 (.tmp 2) rfl w.heap.size 0 rfl (xcells Y7) _ HR7.out.1 Tryz.underlying38 rfl HR7.out.2 ?_)
  refine (HM.out _ Y7 HF7.out.at_).mono ?_
  rintro r w8 ⟨Y8,rfl,H8⟩
  have HR8:=Lib.hid (And.intro ((HF7.out.res.below H8.out.bel).there Y8) (And.intro (xinfA Y8) (xcells_one Y8)))
  have hd:=HF7.out.done2 H8.out
  clear HR7 HM H8 HF7
  go_wp2_with (refine wpList_store_mid rfl 38 (.tmp 4) (.tmp 93) rfl (w.heap.size+1) 0 (xcells Y8).toArray rfl rfl HR8.out.1 HR8.out.2.1 HR8.out.2.2 ?_)
  obtain ⟨W9,hW9⟩:∃ W9,W9=w8.setCells (w.heap.size+1) 0 (xcells Y8):=⟨_,rfl⟩
  rw [← hW9] at hd ⊢
  have hl:=xload hd.1
  refine bodyPost_ret (v:=xV Y8) (res_cell Tryz.results64 rfl hl) rfl ⟨Y8,rfl,Lib.hid hd.2⟩
end
theorem step_up {S:HS} {i u:Nat} {x p:Gr} (hne:u≠i):∃ p2,(stepH S i u x p).G u=some p2∧p2.deep=p.deep:=by
 unfold stepH
 split
 · exact ⟨_,(HS.put_other _ _ hne).trans (HS.put_same _ _ _),rfl⟩
 · exact ⟨_,(HS.put_other _ _ hne).trans (HS.put_same _ _ _),rfl⟩
theorem xsettle_any:∀ (n:Nat) {w:World} {S:HS} {X:XH} {i:Nat} {x:Gr} (_a:XAt w S X) (_I:HInv S) (_hx:S.G i=some x) (_hd:x.deep<n),
  Calls Tryz.prog 64 #[xV X,.int .i64 (i:Int)] w fun e w'=>∃ X',e=.returned (xV X')∧Hid (XTo w w' X X' (settleH n S i))
 | 0,_,_,_,_,_,_,_,_,hd=>absurd hd (Nat.not_lt_zero _)
 | n+1,w,S,X,i,x,a,I,hx,hd=>by
  by_cases h0:i=0
  ·
   subst h0
   have hup:x.up = -1:=by
    obtain ⟨g,e1,e2,_⟩:=I.tree.root
    rw [hx] at e1
    injection e1 with e1
    subst e1
    exact e2
   rw [settleH_root hx hup]
   exact xsettle_root a
  ·
   obtain ⟨u,p,hu,hp,hdp⟩:=I.tree.up i x h0 hx
   obtain ⟨hne,_⟩:=I.tree.ne h0 hx hu hp
   by_cases hs:shouldB x=x.on
   ·
    rw [settleH_same hx hu hs]
    exact xsettle_same a I h0 hx hs
   ·
    rw [settleH_step hx hu hp hs]
    have I2:=step_inv I h0 hx hu hp hs
    obtain ⟨p2,g1,g2⟩:=step_up (S:=S) (x:=x) (p:=p) hne
    have M:=fun W Y (hY:XAt W (stepH S i u x p) Y)=>xsettle_any n hY I2 g1 (by omega)
    cases hsh:shouldB x with
    | true =>
     refine xsettle_put a I h0 hx hu hp hsh ?_ M
     cases hon:x.on with
     | false=>rfl
     | true=>rw [hsh,hon] at hs;exact absurd rfl hs
    | false =>
     refine xsettle_drop a I h0 hx hu hp hsh ?_ M
     cases hon:x.on with
     | true=>rfl
     | false=>rw [hsh,hon] at hs;exact absurd rfl hs
end Go.Proofs.YtefekboacghnjaaGreat
namespace Go.Proofs.YtefekboacghnjaaGreat
open Go.RowKit Go.Maps
section
variable {w:World} {S:HS} {X:XH}
set_option maxRecDepth 100000 in
set_option maxHeartbeats 8000000 in
theorem xput_bad (a:XAt w S X) (T:HTree S) {g:Int} {e:En} (hbad:S.at_ g=none∨¬(0≤e.id∧e.id<64)) :
  Calls Tryz.prog 18 #[xV X,.int .i64 g,enV e] w fun r w'=>r=.returned (.tuple #[xV X,.int .i64 1])∧Hid (XTo w w' X X S):=by
 obtain ⟨W1,hW1,f,he⟩:=XFr.new2 a e
 have hp:=f.pack
 rw [hW1] at hp
 have HR:=Lib.hid hp
 have MT:=Lib.hid fun W=>xthere_any a T g W
 have MK:=Lib.hid fun W=>xtask_any e.id W
 have HF:=Lib.hid (And.intro f he)
 have HW:=Lib.hid hW1
 clear hp f he hW1 a T
 have hcase:((S.at_ g).isSome=false)∨((S.at_ g).isSome=true∧decide (0≤e.id∧e.id<64)=false):=by
  cases hg:S.at_ g with
  | none=>exact .inl rfl
  | some x =>
   refine .inr ⟨rfl,?_⟩
   rcases hbad with h | h
   · rw [hg] at h;simp at h
   · exact decide_eq_false h
 clear hbad
 generalize decide (0≤e.id∧e.id<64)=bk at *
 generalize (S.at_ g).isSome=bt at *
 show Calls Tryz.prog _ #[.agg (xcells X).toArray,.int .i64 g,.agg #[.int .i64 e.id,.int .u64 e.wt,.int .i64 e.v,.int .u64 e.rem]] w _
 go_enter Tryz.func18,Tryz.ntmps18
 go_wp2_with (refine wpList_wload_mid rfl 38 (.tmp 3) rfl w.heap.size 0 rfl (xcells X) _ HR.out.1 Tryz.underlying38 rfl HR.out.2.1 ?_)
 rw [← HW.out]
 refine (MT.out _).mono ?_
 rintro r w2 ⟨rfl,hb⟩
 have f2:=HF.out.1.below hb
 have x0:w2.cell? ⟨w.heap.size+1,0,none⟩=some (.int .i64 e.id):=Blk.cell (HF.out.2.below hb HF.out.2.lt) 0
 have HF2:=Lib.hid f2
 have HR2:=Lib.hid f2.pack
 clear f2 hb HF HW MT
 rcases hcase with rfl | ⟨rfl,rfl⟩
 ·
  go_wp2_with (first
   | (refine wpList_wload_mid rfl 38 (.tmp 3) rfl w.heap.size 0 rfl (xcells X) _ HR2.out.1 Tryz.underlying38 rfl HR2.out.2.1 ?_)
   | (refine wpList_store_mid rfl 38 (.tmp 6) (.tmp 20) rfl (w.heap.size+2) 0 (xcells X).toArray rfl rfl HR2.out.2.2.1 HR2.out.2.2.2.1 HR2.out.2.2.2.2 ?_))
  obtain ⟨W9,hW9⟩:∃ W9,W9=w2.setCells (w.heap.size+2) 0 (xcells X):=⟨_,rfl⟩
  have hd:=HF2.out.done
  rw [← hW9] at hd ⊢
  have hl:=xload hd.1
  refine bodyPost_ret (v:=.tuple #[xV X,.int .i64 1]) (res_cell_tmp Tryz.results18 rfl rfl hl) rfl ⟨rfl,Lib.hid hd.2⟩
 ·
  go_wp2_with fail
  refine (MK.out _).mono ?_
  rintro r w3 ⟨rfl,rfl⟩
  go_wp2_with (first
   | (refine wpList_wload_mid rfl 38 (.tmp 3) rfl w.heap.size 0 rfl (xcells X) _ HR2.out.1 Tryz.underlying38 rfl HR2.out.2.1 ?_)
   | (refine wpList_store_mid rfl 38 (.tmp 6) (.tmp 20) rfl (w.heap.size+2) 0 (xcells X).toArray rfl rfl HR2.out.2.2.1 HR2.out.2.2.2.1 HR2.out.2.2.2.2 ?_))
  obtain ⟨W9,hW9⟩:∃ W9,W9=w2.setCells (w.heap.size+2) 0 (xcells X):=⟨_,rfl⟩
  have hd:=HF2.out.done
  rw [← hW9] at hd ⊢
  have hl:=xload hd.1
  refine bodyPost_ret (v:=.tuple #[xV X,.int .i64 1]) (res_cell_tmp Tryz.results18 rfl rfl hl) rfl ⟨rfl,Lib.hid hd.2⟩
set_option maxRecDepth 100000 in
set_option maxHeartbeats 16000000 in
theorem xput_ok (a:XAt w S X) (H:HGood S) {i:Nat} {x:Gr} (hx:S.G i=some x) {e:En} (t0:0≤e.id) (t1:e.id<64) (he:e.num) :
  Calls Tryz.prog 18 #[xV X,.int .i64 (i:Int),enV e] w fun r w'=>∃ X',r=.returned (.tuple #[xV X',.int .i64 (putC x.q (dblE e))])∧Hid (XTo w w' X X' (putHS S i x (dblE e))):=by
 have hi:=H.inv.tree.lt hx
 obtain ⟨W1,hW1,f,hbe⟩:=XFr.new2 a e
 have hp:=f.pack
 rw [hW1] at hp
 have HR:=Lib.hid hp
 have MT:=fun W=>xthere_any a H.inv.tree (i:Int) W
 rw [S.at_nat hi,hx] at MT
 have MT:=Lib.hid MT
 have MK:=fun W=>xtask_any e.id W
 rw [decide_eq_true ⟨t0,t1⟩] at MK
 have MK:=Lib.hid MK
 have HF:=Lib.hid (And.intro f hbe)
 have HW:=Lib.hid hW1
 have hq:=(a.is i x hx).2.1
 have hqok:=H.inv.qok i x hx
 have hled:=led_putQ (e:=dblE e) (a.led i x hx)
 have hen:(dblE e).num:=⟨by show _≤2*e.id;omega,by show 2*e.id≤_;omega,he.v1,he.v2,he.w2,he.r2⟩
 have MP:=fun (W:World) (hW:RQ W W.heap.size (X.g i).A (X.g i).c x.q.L)=>rf_put (X.g i).A (X.g i).c x.q hqok (dblE e) hen W hW
 have hst:putC x.q (dblE e)=0→settleH 9 (S.put i (some { x with q:=putQ x.q (dblE e) })) i=putHS S i x (dblE e):=fun h=>by unfold putHS;rw [if_pos h]
 have hst2:putC x.q (dblE e)≠0→S=putHS S i x (dblE e):=fun h=>by unfold putHS;rw [if_neg h]
 have hinv:putC x.q (dblE e)=0→HInv (S.put i (some { x with q:=putQ x.q (dblE e) })):=fun h=>by
  obtain ⟨hk,hnot,hlen⟩:=putC_ok (e:=dblE e) (by show 2*e.id≤_;omega) ⟨he.v1,he.v2⟩ h
  have hL:=putQ_L h
  refine H.inv.queue hx (hqok.put (e:=dblE e) (by show 2*e.id≤_;omega) ⟨he.v1,he.v2⟩) (fun y hy=>?_) (fun y hy _=>?_)
  ·
   rw [hL,List.mem_append] at hy
   rcases hy with hy | hy
   · exact .inl ⟨y,hy,rfl⟩
   ·
    rw [List.mem_singleton] at hy
    subst hy
    exact .inr ⟨e.id.toNat,by omega,by show 2*e.id=_;omega⟩
  · exact ⟨y,by rw [hL];exact List.mem_append_left _ hy,rfl⟩
 generalize putQ x.q (dblE e)=q2 at *
 generalize putC x.q (dblE e)=pc at *
 generalize putHS S i x (dblE e)=S2 at *
 obtain ⟨m2,hm2⟩:∃ m2,m2=q2.L.length:=⟨_,rfl⟩
 rw [← hm2] at MP
 have MP:=Lib.hid MP
 have HP:=Lib.hid (And.intro hx (And.intro hi (And.intro hq (And.intro hled (And.intro hm2 (And.intro hst (And.intro hst2 (And.intro hinv (H.inv.tree.deep i x hx)))))))))
 have j0:(0:Int)≤(i:Int):=by omega
 have j2:(i:Int)<32:=by omega
 have j5:decide (i<32)=true:=decide_eq_true hi
 clear hp f hbe hW1 a H hx hq hqok hled hen he hm2 hst hst2 hinv hi
 show Calls Tryz.prog _ #[.agg (xcells X).toArray,.int .i64 (i:Int),.agg #[.int .i64 e.id,.int .u64 e.wt,.int .i64 e.v,.int .u64 e.rem]] w _
 go_enter Tryz.func18,Tryz.ntmps18
 go_wp2_with (refine wpList_wload_mid rfl 38 (.tmp 3) rfl w.heap.size 0 rfl (xcells X) _ HR.out.1 Tryz.underlying38 rfl HR.out.2.1 ?_)
 rw [← HW.out]
 refine (MT.out _).mono ?_
 rintro r w2 ⟨rfl,hb⟩
 have f2:=HF.out.1.below hb
 have he2:=HF.out.2.below hb HF.out.2.lt
 have x0:w2.cell? ⟨w.heap.size+1,0,none⟩=some (.int .i64 e.id):=Blk.cell he2 0
 have xf:w2.frozen? ⟨w.heap.size+1,0,none⟩=false:=Blk.frozen he2 0
 have HF2:=Lib.hid (And.intro f2 he2)
 clear f2 hb HF HW MT he2
 go_wp2_with fail
 refine (MK.out _).mono ?_
 rintro r w3 ⟨rfl,rfl⟩
 go_upto_region 4 with (fail)
 obtain ⟨W4,hW4⟩:∃ W4,W4=w2.setCell ⟨w.heap.size+1,0,none⟩ (.int .i64 (2*e.id)):=⟨_,rfl⟩
 rw [← hW4]
 have hx4:Blk W4 (w.heap.size+1) #[.int .i64 (2*e.id),.int .u64 e.wt,.int .i64 e.v,.int .u64 e.rem] 34:=by rw [hW4];exact Blk.set HF2.out.2 0 (.int .i64 (2*e.id))
 have f4:XFr 2 2 w W4 X X S:=HF2.out.1.beside (b:=w.heap.size+1) (by rw [hW4];exact fun b hb=>Below.heap_setCell _ _ _ _ hb) (by rw [hW4];simp) (by rw [hW4];exact HF2.out.1.bel.setCell (by simp) _) (by omega) (by omega) (by omega)
 have hr4:=f4.at_.row i HP.out.2.1
 rw [HP.out.2.2.1] at hr4
 have SO:=Lib.hid fun W (hW:Below W4.heap.size W4 W)=>(by
   obtain ⟨q0,q1,q2,q3⟩:=(f4.box.below hW).q HP.out.2.1
   rw [HP.out.2.2.1] at q0 q1 q2 q3
   have hx:=hx4.below hW hx4.lt
   exact ⟨hW,⟨q0,q1,q2,q3⟩,Blk.cell hx 0,Blk.cell hx 1,Blk.cell hx 2,Blk.cell hx 3⟩ :
  Below W4.heap.size W4 W∧(W.cell? ⟨w.heap.size,2+i*4,none⟩=some (.slice (X.g i).A x.q.L.length (X.g i).c)∧W.cell? ⟨w.heap.size,2+i*4+1,none⟩=some (.int .i64 x.q.cur)∧W.cell? ⟨w.heap.size,2+i*4+2,none⟩=some (.int .i64 x.q.mn)∧W.cell? ⟨w.heap.size,2+i*4+3,none⟩=some (.bool x.q.over)) ∧
   W.cell? ⟨w.heap.size+1,0,none⟩=some (.int .i64 (2*e.id))∧W.cell? ⟨w.heap.size+1,1,none⟩=some (.int .u64 e.wt)∧W.cell? ⟨w.heap.size+1,2,none⟩=some (.int .i64 e.v)∧W.cell? ⟨w.heap.size+1,3,none⟩=some (.int .u64 e.rem))
 have hz4:=Nat.le_refl W4.heap.size
 have HF4:=Lib.hid (And.intro f4 hr4)
 have MP2:=Lib.hid fun W (k:Below W4.heap.size W4 W)=>MP.out W ((hr4.below k).mono k.size)
 clear hW4 hx4 f4 hr4 HF2 MP x0 xf MK
 generalize x.q.L.length=m at *
 go_region_held3 (fun W=>Below W4.heap.size W4 W∧(W.cell? ⟨w.heap.size,2+i*4,none⟩=some (.slice (X.g i).A m (X.g i).c)∧W.cell? ⟨w.heap.size,2+i*4+1,none⟩=some (.int .i64 x.q.cur)∧W.cell? ⟨w.heap.size,2+i*4+2,none⟩=some (.int .i64 x.q.mn)∧W.cell? ⟨w.heap.size,2+i*4+3,none⟩=some (.bool x.q.over)) ∧
   W.cell? ⟨w.heap.size+1,0,none⟩=some (.int .i64 (2*e.id))∧W.cell? ⟨w.heap.size+1,1,none⟩=some (.int .u64 e.wt)∧W.cell? ⟨w.heap.size+1,2,none⟩=some (.int .i64 e.v)∧W.cell? ⟨w.heap.size+1,3,none⟩=some (.int .u64 e.rem))
  (first | exact SO.out _ (kp_drew (by assumption)) | exact SO.out _ (by assumption) | exact SO.out _ (kp_call (by assumption) (by assumption) hz4) | exact SO.out _ (kp_same (by assumption)) | exact SO.out _ (kp_alloc (by assumption) hz4 _) | exact SO.out _ (kp_start _ _) | exact SO.out _ (kb_alloc (Below.refl _ _) _).drew | exact SO.out _ (kb_alloc (by assumption) _) | exact SO.out _ (kb_four (by assumption) (Nat.le_refl _) _ _ _ _))
  (first
   | (go_at_call 63;refine (MP2.out _ (by first | exact kp_same (by assumption) | exact kp_drew (by assumption) | exact kp_start _ _ | exact kp_alloc (by assumption) hz4 _ | exact (kb_alloc (Below.refl _ _) _).drew)).mono ?_;rintro r w5 ⟨A5,c5,rfl,H5⟩;have hb5:=H5.out.res.bel;have k5:=kp_call hb5 (by assumption) hz4;first | (have k9:=blk_ahead hb5;have g0:=Blk.cell k9 0;have g1:=Blk.cell k9 1;have g2:=Blk.cell k9 2;have g3:=Blk.cell k9 3;have gf:=Blk.frozen k9) | skip))
 ·
  obtain ⟨W6,hW6⟩:∃ W6,W6=w5.alloc (.cells #[.slice A5 m2 c5,.int .i64 q2.cur,.int .i64 q2.mn,.bool q2.over] 29):=⟨_,rfl⟩
  have hx6:Blk W6 w5.heap.size #[.slice A5 m2 c5,.int .i64 q2.cur,.int .i64 q2.mn,.bool q2.over] 29:=by rw [hW6];exact Blk.new _ _ _
  have hr6:RfRes W4 W6 (X.g i).A A5 c5 x.q q2:=(H5.out.drew).later (by rw [hW6];exact (Below.refl _ _).alloc (Nat.le_refl _) _)
  change Exit.then _ _ _ _ (w5.alloc (.cells #[.slice A5 m2 c5,.int .i64 q2.cur,.int .i64 q2.mn,.bool q2.over] 29))
  rw [← hW6]
  rename_i hHeld
  have f6:=HF4.out.1.below hr6.res.bel
  have x0:W6.cell? ⟨_,0,none⟩=some (.slice A5 m2 c5):=Blk.cell hx6 0
  have x1:W6.cell? ⟨_,1,none⟩=some (.int .i64 q2.cur):=Blk.cell hx6 1
  have x2:W6.cell? ⟨_,2,none⟩=some (.int .i64 q2.mn):=Blk.cell hx6 2
  have x3:W6.cell? ⟨_,3,none⟩=some (.bool q2.over):=Blk.cell hx6 3
  by_cases hpc:pc=0
  ·
   subst hpc
   have hr7:=hr6
   rw [← HP.out.2.2.1] at hr7
   have f7:=HF4.out.1.queue HP.out.1 HP.out.2.1 hr7 HP.out.2.2.2.1 (Below.refl _ _) HP.out.2.2.2.2.1
   obtain ⟨y0,y1,y2,y3⟩:=f6.box.q HP.out.2.1
   have yf:=f6.box.frozen
   have HF7:=Lib.hid f7
   clear hHeld f7 f6 hr7 hr6 hW6 hx6 H5 hb5 k5 SO HF4 MP2
   go_upto_region 8 with (fail)
   obtain ⟨W7,hW7,f7⟩:∃ W7,W7=_∧XFr 2 2 w W7 X _ _:=⟨_,rfl,HF7.out⟩
   rw [← hW7]
   have hinv:=HP.out.2.2.2.2.2.2.2.1 rfl
   have hsn:=HP.out.2.2.2.2.2.1 rfl
   have MS:=xsettle_any 9 f7.at_ hinv (HS.put_same _ _ _) (show x.deep<9 by have:=HP.out.2.2.2.2.2.2.2.2;omega)
   rw [hsn] at MS
   have MS:=Lib.hid MS
   clear HF7 hW7 hinv hsn y0 y1 y2 y3 yf x0 x1 x2 x3
   generalize XH.put _ i _=Y7 at f7 MS
   have HR7:=Lib.hid f7.pack
   have HF7:=Lib.hid f7
   clear f7
   go_wp2_with (refine wpList_wload_mid rfl 38 (.tmp 3) rfl w.heap.size 0 rfl (xcells Y7) _ HR7.out.1 Tryz.underlying38 rfl HR7.out.2.1 ?_)
   refine MS.out.mono ?_
   rintro r w8 ⟨Y8,rfl,H8⟩
   have HR8:=Lib.hid (HF7.out.pack2 H8.out.bel Y8)
   have hd:=HF7.out.done2 H8.out
   clear HR7 MS H8 HF7
   go_wp2_with (refine wpList_store_mid rfl 38 (.tmp 6) (.tmp 44) rfl (w.heap.size+2) 0 (xcells Y8).toArray rfl rfl HR8.out.2.2.1 HR8.out.2.2.2.1 HR8.out.2.2.2.2 ?_)
   obtain ⟨W9,hW9⟩:∃ W9,W9=w8.setCells (w.heap.size+2) 0 (xcells Y8):=⟨_,rfl⟩
   rw [← hW9] at hd ⊢
   have hl:=xload hd.1
   refine bodyPost_ret (v:=.tuple #[xV Y8,.int .i64 0]) (res_cell_tmp Tryz.results18 rfl rfl hl) rfl ⟨Y8,rfl,Lib.hid hd.2⟩
  ·
   have z0:(pc == 0)=false:=beq_eq_false_iff_ne.2 hpc
   have z1:(pc != 0)=true:=bne_iff_ne.2 hpc
   have z2:decide (pc=0)=false:=decide_eq_false hpc
   have hS2:=HP.out.2.2.2.2.2.2.1 hpc
   rw [hS2] at f6
   have HF6:=Lib.hid f6
   have HR6:=Lib.hid f6.pack
   clear hHeld f6 hr6 hW6 hx6 H5 hb5 k5 SO HF4 MP2 HP hpc hS2
   go_wp2_with (first
    | (refine wpList_wload_mid rfl 38 (.tmp 3) rfl w.heap.size 0 rfl (xcells X) _ HR6.out.1 Tryz.underlying38 rfl HR6.out.2.1 ?_)
    | (refine wpList_store_mid rfl 38 (.tmp 6) (.tmp 36) rfl (w.heap.size+2) 0 (xcells X).toArray rfl rfl HR6.out.2.2.1 HR6.out.2.2.2.1 HR6.out.2.2.2.2 ?_))
   obtain ⟨W9,hW9⟩:∃ W9,W9=W6.setCells (w.heap.size+2) 0 (xcells X):=⟨_,rfl⟩
   have hd:=HF6.out.done
   rw [← hW9] at hd ⊢
   have hl:=xload hd.1
   refine bodyPost_ret (v:=.tuple #[xV X,.int .i64 pc]) (res_cell_tmp Tryz.results18 rfl rfl hl) rfl ⟨X,rfl,Lib.hid hd.2⟩
 ·
  obtain ⟨W6,hW6⟩:∃ W6,W6=(((w5.setCell ⟨W4.heap.size,0,none⟩ (.slice A5 m2 c5)).setCell ⟨W4.heap.size,1,none⟩ (.int .i64 q2.cur)).setCell ⟨W4.heap.size,2,none⟩ (.int .i64 q2.mn)).setCell ⟨W4.heap.size,3,none⟩ (.bool q2.over):=⟨_,rfl⟩
  have hx6:Blk W6 W4.heap.size #[.slice A5 m2 c5,.int .i64 q2.cur,.int .i64 q2.mn,.bool q2.over] 29:=by
   rw [hW6]
   exact Blk.set (Blk.set (Blk.set (Blk.set k9 0 (.slice A5 m2 c5)) 1 (.int .i64 q2.cur)) 2 (.int .i64 q2.mn)) 3 (.bool q2.over)
  have hr6:RfRes W4 W6 (X.g i).A A5 c5 x.q q2:=H5.out.ahead HF4.out.2 (fun b hb=>by rw [hW6];exact four_other _ _ _ _ _ _ hb) (by rw [hW6];simp) (by rw [hW6];exact kb_four k5 (Nat.le_refl _) _ _ _ _)
  change Exit.then _ _ _ _ ((((w5.setCell ⟨W4.heap.size,0,none⟩ (.slice A5 m2 c5)).setCell ⟨W4.heap.size,1,none⟩ (.int .i64 q2.cur)).setCell ⟨W4.heap.size,2,none⟩ (.int .i64 q2.mn)).setCell ⟨W4.heap.size,3,none⟩ (.bool q2.over))
  rw [← hW6]
  rename_i hHeld
  have f6:=HF4.out.1.below hr6.res.bel
  have x0:W6.cell? ⟨_,0,none⟩=some (.slice A5 m2 c5):=Blk.cell hx6 0
  have x1:W6.cell? ⟨_,1,none⟩=some (.int .i64 q2.cur):=Blk.cell hx6 1
  have x2:W6.cell? ⟨_,2,none⟩=some (.int .i64 q2.mn):=Blk.cell hx6 2
  have x3:W6.cell? ⟨_,3,none⟩=some (.bool q2.over):=Blk.cell hx6 3
  by_cases hpc:pc=0
  ·
   subst hpc
   have hr7:=hr6
   rw [← HP.out.2.2.1] at hr7
   have f7:=HF4.out.1.queue HP.out.1 HP.out.2.1 hr7 HP.out.2.2.2.1 (Below.refl _ _) HP.out.2.2.2.2.1
   obtain ⟨y0,y1,y2,y3⟩:=f6.box.q HP.out.2.1
   have yf:=f6.box.frozen
   have HF7:=Lib.hid f7
   clear hHeld f7 f6 hr7 hr6 hW6 hx6 H5 hb5 k5 SO HF4 MP2
   go_upto_region 8 with (fail)
   obtain ⟨W7,hW7,f7⟩:∃ W7,W7=_∧XFr 2 2 w W7 X _ _:=⟨_,rfl,HF7.out⟩
   rw [← hW7]
   have hinv:=HP.out.2.2.2.2.2.2.2.1 rfl
   have hsn:=HP.out.2.2.2.2.2.1 rfl
   have MS:=xsettle_any 9 f7.at_ hinv (HS.put_same _ _ _) (show x.deep<9 by have:=HP.out.2.2.2.2.2.2.2.2;omega)
   rw [hsn] at MS
   have MS:=Lib.hid MS
   clear HF7 hW7 hinv hsn y0 y1 y2 y3 yf x0 x1 x2 x3
   generalize XH.put _ i _=Y7 at f7 MS
   have HR7:=Lib.hid f7.pack
   have HF7:=Lib.hid f7
   clear f7
   go_wp2_with (refine wpList_wload_mid rfl 38 (.tmp 3) rfl w.heap.size 0 rfl (xcells Y7) _ HR7.out.1 Tryz.underlying38 rfl HR7.out.2.1 ?_)
   refine MS.out.mono ?_
   rintro r w8 ⟨Y8,rfl,H8⟩
   have HR8:=Lib.hid (HF7.out.pack2 H8.out.bel Y8)
   have hd:=HF7.out.done2 H8.out
   clear HR7 MS H8 HF7
   go_wp2_with (refine wpList_store_mid rfl 38 (.tmp 6) (.tmp 44) rfl (w.heap.size+2) 0 (xcells Y8).toArray rfl rfl HR8.out.2.2.1 HR8.out.2.2.2.1 HR8.out.2.2.2.2 ?_)
   obtain ⟨W9,hW9⟩:∃ W9,W9=w8.setCells (w.heap.size+2) 0 (xcells Y8):=⟨_,rfl⟩
   rw [← hW9] at hd ⊢
   have hl:=xload hd.1
   refine bodyPost_ret (v:=.tuple #[xV Y8,.int .i64 0]) (res_cell_tmp Tryz.results18 rfl rfl hl) rfl ⟨Y8,rfl,Lib.hid hd.2⟩
  ·
   have z0:(pc == 0)=false:=beq_eq_false_iff_ne.2 hpc
   have z1:(pc != 0)=true:=bne_iff_ne.2 hpc
   have z2:decide (pc=0)=false:=decide_eq_false hpc
   have hS2:=HP.out.2.2.2.2.2.2.1 hpc
   rw [hS2] at f6
   have HF6:=Lib.hid f6
   have HR6:=Lib.hid f6.pack
   clear hHeld f6 hr6 hW6 hx6 H5 hb5 k5 SO HF4 MP2 HP hpc hS2
   go_wp2_with (first
    | (refine wpList_wload_mid rfl 38 (.tmp 3) rfl w.heap.size 0 rfl (xcells X) _ HR6.out.1 Tryz.underlying38 rfl HR6.out.2.1 ?_)
    | (refine wpList_store_mid rfl 38 (.tmp 6) (.tmp 36) rfl (w.heap.size+2) 0 (xcells X).toArray rfl rfl HR6.out.2.2.1 HR6.out.2.2.2.1 HR6.out.2.2.2.2 ?_))
   obtain ⟨W9,hW9⟩:∃ W9,W9=W6.setCells (w.heap.size+2) 0 (xcells X):=⟨_,rfl⟩
   have hd:=HF6.out.done
   rw [← hW9] at hd ⊢
   have hl:=xload hd.1
   refine bodyPost_ret (v:=.tuple #[xV X,.int .i64 pc]) (res_cell_tmp Tryz.results18 rfl rfl hl) rfl ⟨X,rfl,Lib.hid hd.2⟩
end
end Go.Proofs.YtefekboacghnjaaGreat
namespace Go.Proofs.YtefekboacghnjaaGreat
open Go.RowKit Go.Maps
section
variable {w:World} {S:HS} {X:XH}
set_option maxRecDepth 100000 in
set_option maxHeartbeats 8000000 in
theorem xnice_bad (a:XAt w S X) (T:HTree S) {g t:Int} {wn:Nat} (hbad:S.at_ g=none∨¬(0≤t∧t<64)) :
  Calls Tryz.prog 22 #[xV X,.int .i64 g,.int .i64 t,.int .u64 wn] w fun r w'=>r=.returned (.tuple #[xV X,.int .i64 1])∧Hid (XTo w w' X X S):=by
 obtain ⟨W1,hW1,f,_⟩:=XFr.new a
 have hp:=f.pack
 rw [hW1] at hp
 have HR:=Lib.hid hp
 have MT:=Lib.hid fun W=>xthere_any a T g W
 have MK:=Lib.hid fun W=>xtask_any t W
 have HF:=Lib.hid f
 have HW:=Lib.hid hW1
 clear hp f hW1 a T
 have hcase:((S.at_ g).isSome=false)∨((S.at_ g).isSome=true∧decide (0≤t∧t<64)=false):=by
  cases hg:S.at_ g with
  | none=>exact .inl rfl
  | some x =>
   refine .inr ⟨rfl,?_⟩
   rcases hbad with h | h
   · rw [hg] at h;simp at h
   · exact decide_eq_false h
 clear hbad
 generalize decide (0≤t∧t<64)=bk at *
 generalize (S.at_ g).isSome=bt at *
 show Calls Tryz.prog _ #[.agg (xcells X).toArray,.int .i64 g,.int .i64 t,.int .u64 wn] w _
 go_enter Tryz.func22,Tryz.ntmps22
 go_wp2_with (refine wpList_wload_mid rfl 38 (.tmp 4) rfl w.heap.size 0 rfl (xcells X) _ HR.out.1 Tryz.underlying38 rfl HR.out.2.1 ?_)
 rw [← HW.out]
 refine (MT.out _).mono ?_
 rintro r w2 ⟨rfl,hb⟩
 have f2:=HF.out.below hb
 have HF2:=Lib.hid f2
 have HR2:=Lib.hid f2.pack
 clear f2 hb HF HW MT
 rcases hcase with rfl | ⟨rfl,rfl⟩
 ·
  go_wp2_with (first
   | (refine wpList_wload_mid rfl 38 (.tmp 4) rfl w.heap.size 0 rfl (xcells X) _ HR2.out.1 Tryz.underlying38 rfl HR2.out.2.1 ?_)
   | (refine wpList_store_mid rfl 38 (.tmp 8) (.tmp 21) rfl (w.heap.size+1) 0 (xcells X).toArray rfl rfl HR2.out.2.2.1 HR2.out.2.2.2.1 HR2.out.2.2.2.2 ?_))
  obtain ⟨W9,hW9⟩:∃ W9,W9=w2.setCells (w.heap.size+1) 0 (xcells X):=⟨_,rfl⟩
  have hd:=HF2.out.done
  rw [← hW9] at hd ⊢
  have hl:=xload hd.1
  refine bodyPost_ret (v:=.tuple #[xV X,.int .i64 1]) (res_cell_tmp Tryz.results22 rfl rfl hl) rfl ⟨rfl,Lib.hid hd.2⟩
 ·
  go_wp2_with fail
  refine (MK.out _).mono ?_
  rintro r w3 ⟨rfl,rfl⟩
  go_wp2_with (first
   | (refine wpList_wload_mid rfl 38 (.tmp 4) rfl w.heap.size 0 rfl (xcells X) _ HR2.out.1 Tryz.underlying38 rfl HR2.out.2.1 ?_)
   | (refine wpList_store_mid rfl 38 (.tmp 8) (.tmp 21) rfl (w.heap.size+1) 0 (xcells X).toArray rfl rfl HR2.out.2.2.1 HR2.out.2.2.2.1 HR2.out.2.2.2.2 ?_))
  obtain ⟨W9,hW9⟩:∃ W9,W9=w2.setCells (w.heap.size+1) 0 (xcells X):=⟨_,rfl⟩
  have hd:=HF2.out.done
  rw [← hW9] at hd ⊢
  have hl:=xload hd.1
  refine bodyPost_ret (v:=.tuple #[xV X,.int .i64 1]) (res_cell_tmp Tryz.results22 rfl rfl hl) rfl ⟨rfl,Lib.hid hd.2⟩
set_option maxRecDepth 100000 in
set_option maxHeartbeats 16000000 in
theorem xnice_ok (a:XAt w S X) (H:HGood S) {i:Nat} {x:Gr} (hx:S.G i=some x) {t:Int} (t0:0≤t) (t1:t<64) {wn:Nat} (hwn:wn<18446744073709551616) :
  Calls Tryz.prog 22 #[xV X,.int .i64 (i:Int),.int .i64 t,.int .u64 wn] w fun r w'=>∃ X',r=.returned (.tuple #[xV X',.int .i64 (weighC x.q (2*t) wn)])∧Hid (XTo w w' X X' (S.put i (some { x with q:=weighQ x.q (2*t) wn }))):=by
 have hi:=H.inv.tree.lt hx
 obtain ⟨W1,hW1,f,_⟩:=XFr.new a
 have hp:=f.pack
 rw [hW1] at hp
 have HR:=Lib.hid hp
 have MT:=fun W=>xthere_any a H.inv.tree (i:Int) W
 rw [S.at_nat hi,hx] at MT
 have MT:=Lib.hid MT
 have MK:=fun W=>xtask_any t W
 rw [decide_eq_true ⟨t0,t1⟩] at MK
 have MK:=Lib.hid MK
 have HF:=Lib.hid f
 have HW:=Lib.hid hW1
 have hq:=(a.is i x hx).2.1
 have hqok:=H.inv.qok i x hx
 have hl0:=a.led i x hx
 have hled:=led_weigh hqok hl0 (2*t) wn
 have MP:=fun (W:World) (hW:RQ W W.heap.size (X.g i).A (X.g i).c x.q.L)=>rf_weigh (X.g i).A (X.g i).c x.q hqok hl0 (2*t) wn hwn W hW
 generalize weighQ x.q (2*t) wn=q2 at *
 generalize weighC x.q (2*t) wn=pc at *
 obtain ⟨m2,hm2⟩:∃ m2,m2=q2.L.length:=⟨_,rfl⟩
 rw [← hm2] at MP
 have MP:=Lib.hid MP
 have HP:=Lib.hid (And.intro hx (And.intro hi (And.intro hq (And.intro hled hm2))))
 have j0:(0:Int)≤(i:Int):=by omega
 have j2:(i:Int)<32:=by omega
 have j5:decide (i<32)=true:=decide_eq_true hi
 clear hp f hW1 a H hx hq hqok hl0 hled hm2 hi
 show Calls Tryz.prog _ #[.agg (xcells X).toArray,.int .i64 (i:Int),.int .i64 t,.int .u64 wn] w _
 go_enter Tryz.func22,Tryz.ntmps22
 go_wp2_with (refine wpList_wload_mid rfl 38 (.tmp 4) rfl w.heap.size 0 rfl (xcells X) _ HR.out.1 Tryz.underlying38 rfl HR.out.2.1 ?_)
 rw [← HW.out]
 refine (MT.out _).mono ?_
 rintro r w2 ⟨rfl,hb⟩
 have f2:=HF.out.below hb
 obtain ⟨p0,p1,p2,p3⟩:=f2.box.q HP.out.2.1
 rw [HP.out.2.2.1] at p0 p1 p2 p3
 have hr2:=f2.at_.row i HP.out.2.1
 rw [HP.out.2.2.1] at hr2
 have HF2:=Lib.hid f2
 have MP2:=Lib.hid (MP.out w2 hr2)
 clear f2 hb HF HW MT hr2 MP
 generalize x.q.L.length=m at *
 go_wp2_with fail
 refine (MK.out _).mono ?_
 rintro r w3 ⟨rfl,rfl⟩
 go_wp2_with fail
 refine MP2.out.mono ?_
 rintro r w5 ⟨A5,c5,rfl,H5⟩
 have f5:=HF2.out.below H5.out.res.bel
 obtain ⟨y0,y1,y2,y3⟩:=f5.box.q HP.out.2.1
 have yf:=f5.box.frozen
 have hlt5:=f5.box.lt
 have hne5:(w.heap.size=w5.heap.size)=False:=eq_false (by omega)
 have hne6:(w5.heap.size=w.heap.size)=False:=eq_false (by omega)
 clear f5 p0 p1 p2 p3 MP2
 go_upto_region 5 with (fail)
 have hr7:=H5.out
 rw [← HP.out.2.2.1] at hr7
 have f8:=HF2.out.queue HP.out.1 HP.out.2.1 hr7 HP.out.2.2.2.1 (Below.refl _ _) HP.out.2.2.2.2
 have hal:∀ (W:World) (o1:Obj),Below W.heap.size W (W.alloc o1):=fun W o1=>(Below.refl _ _).alloc (Nat.le_refl _) _
 obtain ⟨W9,hW9,f9⟩:∃ W9,W9=_∧XFr 1 1 w W9 X _ _:=⟨_,rfl,f8.below (hal _ (.cells #[.slice A5 m2 c5,.int .i64 q2.cur,.int .i64 q2.mn,.bool q2.over] 29))⟩
 rw [← hW9]
 clear hal f8 hr7 hW9 H5 y0 y1 y2 y3 yf hlt5 hne5 hne6
 generalize XH.put _ i _=Y7 at f9
 have HR7:=Lib.hid f9.pack
 have HF7:=Lib.hid f9
 clear f9
 go_wp2_with (first
  | (refine wpList_wload_mid rfl 38 (.tmp 4) rfl w.heap.size 0 rfl (xcells Y7) _ HR7.out.1 Tryz.underlying38 rfl HR7.out.2.1 ?_)
  | (refine wpList_store_mid rfl 38 (.tmp 8) (.tmp 37) rfl (w.heap.size+1) 0 (xcells Y7).toArray rfl rfl HR7.out.2.2.1 HR7.out.2.2.2.1 HR7.out.2.2.2.2 ?_))
 obtain ⟨Wz,hWz⟩:∃ Wz,Wz=W9.setCells (w.heap.size+1) 0 (xcells Y7):=⟨_,rfl⟩
 have hd:=HF7.out.done
 rw [← hWz] at hd ⊢
 have hl:=xload hd.1
 refine bodyPost_ret (v:=.tuple #[xV Y7,.int .i64 pc]) (res_cell_tmp Tryz.results22 rfl rfl hl) rfl ⟨Y7,rfl,Lib.hid hd.2⟩
end
section
variable {w:World} {S:HS} {X:XH}
theorem XFr.halt {r k:Nat} {w W:World} {X Y:XH} {S:HS} (f:XFr r k w W X Y S) {i:Nat} {x:Gr} (hx:S.G i=some x) (hi:i<32) (h0:i≠0) (b:Bool) :
  XFr r k w (W.setCell ⟨w.heap.size,290+i,none⟩ (.bool b)) X (Y.put i { Y.g i with halt:=b }) (S.put i (some { x with stopped:=b })):=by
 refine f.set (f.box.set_halt hi b) (fun c hc=>Below.heap_setCell _ _ _ _ hc) (by simp) (f.bel.setCell (Nat.le_refl _) _) (fun j=>?_) f.at_.cr f.at_.gr (fun j hj hn=>?_) (fun j z hz=>?_) (fun j z hz=>?_)
 ·
  by_cases hji:j=i
  · subst hji;rw [XH.put_same];exact .inl ⟨rfl,rfl,rfl⟩
  · rw [XH.put_other _ _ hji];exact .inl ⟨rfl,rfl,rfl⟩
 ·
  by_cases hji:j=i
  · subst hji;rw [HS.put_same] at hn;simp at hn
  · rw [HS.put_other _ _ hji] at hn;rw [XH.put_other _ _ hji];exact f.at_.no j hj hn
 ·
  by_cases hji:j=i
  ·
   subst hji
   rw [HS.put_same] at hz
   injection hz with hz
   subst hz
   obtain ⟨e1,e2,_,e4⟩:=f.at_.is j x hx
   rw [XH.put_same]
   exact ⟨e1,e2,fun _=>rfl,e4⟩
  · rw [HS.put_other _ _ hji] at hz;rw [XH.put_other _ _ hji];exact f.at_.is j z hz
 ·
  by_cases hji:j=i
  ·
   subst hji
   rw [HS.put_same] at hz
   injection hz with hz
   subst hz
   exact f.at_.led j x hx
  · rw [HS.put_other _ _ hji] at hz;exact f.at_.led j z hz
set_option maxRecDepth 100000 in
set_option maxHeartbeats 8000000 in
theorem xstop_bad (a:XAt w S X) (T:HTree S) {g:Int} (hbad:S.linked g=none) (b:Bool) :
  Calls Tryz.prog 61 #[xV X,.int .i64 g,.bool b] w fun r w'=>r=.returned (.tuple #[xV X,.int .i64 1])∧Hid (XTo w w' X X S):=by
 obtain ⟨W1,hW1,f,_⟩:=XFr.new a
 have hp:=f.pack
 rw [hW1] at hp
 have HR:=Lib.hid hp
 have MT:=fun W=>xlinked_any a T g W
 rw [hbad] at MT
 have MT:=Lib.hid MT
 have HF:=Lib.hid f
 have HW:=Lib.hid hW1
 clear hp f hW1 a T hbad
 show Calls Tryz.prog _ #[.agg (xcells X).toArray,.int .i64 g,.bool b] w _
 go_enter Tryz.func61,Tryz.ntmps61
 go_wp2_with (refine wpList_wload_mid rfl 38 (.tmp 3) rfl w.heap.size 0 rfl (xcells X) _ HR.out.1 Tryz.underlying38 rfl HR.out.2.1 ?_)
 rw [← HW.out]
 refine (MT.out _).mono ?_
 rintro r w2 ⟨rfl,hb⟩
 have f2:=HF.out.below hb
 have HF2:=Lib.hid f2
 have HR2:=Lib.hid f2.pack
 clear f2 hb HF HW MT
 go_wp2_with (first
  | (refine wpList_wload_mid rfl 38 (.tmp 3) rfl w.heap.size 0 rfl (xcells X) _ HR2.out.1 Tryz.underlying38 rfl HR2.out.2.1 ?_)
  | (refine wpList_store_mid rfl 38 (.tmp 6) (.tmp 12) rfl (w.heap.size+1) 0 (xcells X).toArray rfl rfl HR2.out.2.2.1 HR2.out.2.2.2.1 HR2.out.2.2.2.2 ?_))
 obtain ⟨W9,hW9⟩:∃ W9,W9=w2.setCells (w.heap.size+1) 0 (xcells X):=⟨_,rfl⟩
 have hd:=HF2.out.done
 rw [← hW9] at hd ⊢
 have hl:=xload hd.1
 refine bodyPost_ret (v:=.tuple #[xV X,.int .i64 1]) (res_cell_tmp Tryz.results61 rfl rfl hl) rfl ⟨rfl,Lib.hid hd.2⟩
set_option maxRecDepth 100000 in
set_option maxHeartbeats 16000000 in
theorem xstop_ok (a:XAt w S X) (H:HGood S) {i:Nat} {x:Gr} (h0:i≠0) (hx:S.G i=some x) (b:Bool) :
  Calls Tryz.prog 61 #[xV X,.int .i64 (i:Int),.bool b] w fun r w'=>∃ X',r=.returned (.tuple #[xV X',.int .i64 0])∧Hid (XTo w w' X X' (stopHS S i x b)):=by
 have hi:=H.inv.tree.lt hx
 obtain ⟨W1,hW1,f,_⟩:=XFr.new a
 have hp:=f.pack
 rw [hW1] at hp
 have HR:=Lib.hid hp
 have MT:=fun W=>xlinked_any a H.inv.tree (i:Int) W
 rw [HS.linked,if_neg (by omega),S.at_nat hi,hx] at MT
 have MT:=Lib.hid MT
 have HF:=Lib.hid f
 have HW:=Lib.hid hW1
 have hinv:HInv (S.put i (some { x with stopped:=b })):=H.inv.group hx rfl rfl rfl rfl (fun h=>H.inv.own i x h hx)
 have hdp:=H.inv.tree.deep i x hx
 have MS:=Lib.hid fun W Y (hY:XAt W (S.put i (some { x with stopped:=b })) Y)=>xsettle_any 9 hY hinv (HS.put_same _ _ _) (show x.deep<9 by omega)
 have HP:=Lib.hid (And.intro hx (And.intro hi h0))
 have j0:(0:Int)≤(i:Int):=by omega
 have j2:(i:Int)<32:=by omega
 have j5:decide (i<32)=true:=decide_eq_true hi
 clear hp f hW1 a H hx hi hinv hdp h0
 show Calls Tryz.prog _ #[.agg (xcells X).toArray,.int .i64 (i:Int),.bool b] w _
 go_enter Tryz.func61,Tryz.ntmps61
 go_wp2_with (refine wpList_wload_mid rfl 38 (.tmp 3) rfl w.heap.size 0 rfl (xcells X) _ HR.out.1 Tryz.underlying38 rfl HR.out.2.1 ?_)
 rw [← HW.out]
 refine (MT.out _).mono ?_
 rintro r w2 ⟨rfl,hb⟩
 have f2:=HF.out.below hb
 have hh:=f2.box.halt HP.out.2.1
 have yf:=f2.box.frozen
 have HF2:=Lib.hid f2
 clear f2 hb HF HW MT
 go_upto_region 4 with (fail)
 obtain ⟨W7,hW7,f7⟩:∃ W7,W7=_∧XFr 1 1 w W7 X _ _:=⟨_,rfl,HF2.out.halt HP.out.1 HP.out.2.1 HP.out.2.2 b⟩
 rw [← hW7]
 clear hW7 hh yf
 generalize XH.put _ i _=Y7 at f7
 have HR7:=Lib.hid f7.pack
 have HF7:=Lib.hid f7
 clear f7
 go_wp2_with (refine wpList_wload_mid rfl 38 (.tmp 3) rfl w.heap.size 0 rfl (xcells Y7) _ HR7.out.1 Tryz.underlying38 rfl HR7.out.2.1 ?_)
 refine (MS.out _ Y7 HF7.out.at_).mono ?_
 rintro r w8 ⟨Y8,rfl,H8⟩
 have HR8:=Lib.hid (HF7.out.pack2 H8.out.bel Y8)
 have hd:=HF7.out.done2 H8.out
 clear HR7 MS H8 HF7
 go_wp2_with (refine wpList_store_mid rfl 38 (.tmp 6) (.tmp 19) rfl (w.heap.size+1) 0 (xcells Y8).toArray rfl rfl HR8.out.2.2.1 HR8.out.2.2.2.1 HR8.out.2.2.2.2 ?_)
 obtain ⟨W9,hW9⟩:∃ W9,W9=w8.setCells (w.heap.size+1) 0 (xcells Y8):=⟨_,rfl⟩
 rw [← hW9] at hd ⊢
 have hl:=xload hd.1
 refine bodyPost_ret (v:=.tuple #[xV Y8,.int .i64 0]) (res_cell_tmp Tryz.results61 rfl rfl hl) rfl ⟨Y8,rfl,Lib.hid hd.2⟩
end
end Go.Proofs.YtefekboacghnjaaGreat
