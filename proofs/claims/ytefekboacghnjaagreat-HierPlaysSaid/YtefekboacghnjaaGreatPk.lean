/-
  doleref20.Move.
  doleref20.Pick.
  doleref20.Way.
  doleref20.Charge.
  doleref20.Yield.
-/
import Derived.Test.YtefekboacghnjaaGreatPj
import Derived.Test.YtefekboacghnjaaGreatMo
import Derived.IntWalk
import Derived.Test.YtefekboacghnjaaGreatPi
import Derived.Deep.RegionHeld3
import Derived.LoopTactic
import Derived.StillTailTactics
set_option linter.unusedVariables false
set_option linter.unusedSimpArgs false
namespace Go.Proofs.YtefekboacghnjaaGreat
open Go.RowKit Go.Maps
theorem deepL_all {by_:Int} {k:Nat}:∀ (l:List Nat) (S:HS) (y:Gr),(∀ a,a ∈ l→∃ y,S.G a=some y)→S.G k=some y→∃ d,(deepL by_ S l).G k=some { y with deep:=d }
 | [],_,y,_,h=>⟨y.deep,h⟩
 | a::l,S,y,ha,h=>by
  obtain ⟨z,hz⟩:=ha a List.mem_cons_self
  have hn:∀ b,b ∈ l→∃ y,(deeper by_ S a).G b=some y:=fun b hb=>by
   by_cases hba:b=a
   ·
    subst hba
    exact ⟨_,HS.put_same _ _ _⟩
   ·
    obtain ⟨y2,h2⟩:=ha b (List.mem_cons_of_mem _ hb)
    exact ⟨y2,(HS.put_other _ _ hba).trans h2⟩
  by_cases hka:k=a
  ·
   subst hka
   obtain ⟨d,hd⟩:=deepL_all l (deeper by_ S k) _ hn (HS.put_same _ _ _)
   rw [grOf_some h] at hd
   exact ⟨d,hd⟩
  · exact deepL_all l (deeper by_ S a) y hn ((HS.put_other _ _ hka).trans h)
theorem deepL_grans {by_:Int}:∀ (l:List Nat) (S:HS),(deepL by_ S l).credit=S.credit∧(deepL by_ S l).gran=S.gran
 | [],_=>⟨rfl,rfl⟩
 | a::l,S=>deepL_grans l (deeper by_ S a)
theorem le_deepest {S:HS} {l:List Nat} {k:Nat} (h:k ∈ l):(grOf S k).deep≤deepest S l:=by
 have key:∀ (l:List Nat) (m:Nat),m≤l.foldl (fun m k=>max m (grOf S k).deep) m∧∀ k,k ∈ l→(grOf S k).deep≤l.foldl (fun m k=>max m (grOf S k).deep) m:=by
  intro l
  induction l with
  | nil=>exact fun m=>⟨Nat.le_refl _,fun k hk=>by simp at hk⟩
  | cons a l ih =>
   intro m
   rw [List.foldl_cons]
   obtain ⟨h1,h2⟩:=ih (max m (grOf S a).deep)
   refine ⟨by omega,fun k hk=>?_⟩
   rcases List.mem_cons.1 hk with rfl | hk
   · omega
   · exact h2 k hk
 exact (key l 0).2 k h
theorem XBlk.set_vup {w:World} {b:Nat} {X:XH} (h:XBlk w b X) {i:Nat} (hi:i<32) {e:En} (ho:(X.g i).own=e) (v u:Int) :
  XBlk ((w.setCell ⟨b,162+i*4+2,none⟩ (.int .i64 v)).setCell ⟨b,130+i,none⟩ (.int .i64 u)) b (X.put i { X.g i with own:=⟨e.id,e.wt,v,e.rem⟩,up:=u }):=by
 have h2:=(h.set_v hi ho v).set_up hi u
 rw [XH.put_put,XH.put_same] at h2
 exact h2
theorem XFr.moved {r k:Nat} {w W:World} {X Y:XH} {S:HS} (f:XFr r k w W X Y S) {i:Nat} {x y:Gr} (hx:S.G i=some x) {e:En} {v u:Int} (hb:XBlk ((W.setCell ⟨w.heap.size,162+i*4+2,none⟩ (.int .i64 v)).setCell ⟨w.heap.size,130+i,none⟩ (.int .i64 u)) w.heap.size (Y.put i { Y.g i with own:=e,up:=u }))
  (h2:y.q=x.q) (h3:y.stopped=x.stopped) (h4:y.own=e) (h5:y.up=u):XFr r k w ((W.setCell ⟨w.heap.size,162+i*4+2,none⟩ (.int .i64 v)).setCell ⟨w.heap.size,130+i,none⟩ (.int .i64 u)) X (Y.put i { Y.g i with own:=e,up:=u }) (S.put i (some y)):=by
 refine f.set hb (fun b hb=>(Below.heap_setCell _ _ _ _ hb).trans (Below.heap_setCell _ _ _ _ hb)) (by simp) ((f.bel.setCell (Nat.le_refl _) _).setCell (Nat.le_refl _) _) (fun j=>?_) f.at_.cr f.at_.gr (fun j hj hn=>?_) (fun j z hz=>?_) (fun j z hz=>?_)
 ·
  by_cases hji:j=i
  · subst hji;rw [XH.put_same];exact .inl ⟨rfl,rfl,rfl⟩
  · rw [XH.put_other _ _ hji];exact .inl ⟨rfl,rfl,rfl⟩
 ·
  by_cases hji:j=i
  · subst hji;rw [HS.put_same] at hn;simp at hn
  · rw [HS.put_other _ _ hji] at hn;rw [XH.put_other _ _ hji];exact f.at_.no j hj hn
 ·
  by_cases hji:j=i
  ·
   subst hji
   rw [HS.put_same] at hz
   injection hz with hz
   subst hz
   obtain ⟨_,e2,e3,_⟩:=f.at_.is j x hx
   rw [XH.put_same]
   exact ⟨h5.symm,e2.trans h2.symm,fun h0=>(e3 h0).trans h3.symm,fun _ _=>h4.symm⟩
  · rw [HS.put_other _ _ hji] at hz;rw [XH.put_other _ _ hji];exact f.at_.is j z hz
 ·
  by_cases hji:j=i
  ·
   subst hji
   rw [HS.put_same] at hz
   injection hz with hz
   subst hz
   rw [h2]
   exact f.at_.led j x hx
  · rw [HS.put_other _ _ hji] at hz;exact f.at_.led j z hz
def moveR (S:HS) (i j:Nat) (x p:Gr):HS:=if moveC S i x p=0 then moveHS S i j x p else S
theorem moveR_no {S:HS} {i j:Nat} {x p:Gr} (h:moveC S i x p≠0):moveR S i j x p=S:=if_neg h
theorem moveR_yes {S:HS} {i j:Nat} {x p:Gr} (h:moveC S i x p=0):moveR S i j x p=moveHS S i j x p:=if_pos h
theorem XAt.deepL {w:World} {S:HS} {X:XH} (a:XAt w S X) (by_:Int) (l:List Nat) (h:∀ a,a ∈ l→∃ y,S.G a=some y):XAt w (deepL by_ S l) X :=
 a.like (deepL_grans l S).1 (deepL_grans l S).2 (fun i hi=>deepL_none l S h hi) fun i x hx=>by
  obtain ⟨d,hd⟩:=deepL_all (by_:=by_) l S x h hx
  exact ⟨_,hd,rfl,rfl,rfl,fun _ hon=>⟨hon,rfl⟩⟩
section
variable {w:World} {S:HS} {X:XH}
set_option maxRecDepth 100000 in
set_option maxHeartbeats 8000000 in
theorem xmove_bad (a:XAt w S X) (T:HTree S) {g k:Int} (hbad:S.linked g=none∨S.at_ k=none) :
  Calls Tryz.prog 57 #[xV X,.int .i64 g,.int .i64 k] w fun r w'=>r=.returned (.tuple #[xV X,.int .i64 1])∧Hid (XTo w w' X X S):=by
 obtain ⟨W1,hW1,f,_⟩:=XFr.new a
 have hpk:=f.pack
 rw [hW1] at hpk
 have HR:=Lib.hid hpk
 have ML:=Lib.hid fun W=>xlinked_any a T g W
 have MT:=Lib.hid fun W=>xthere_any a T k W
 have HF:=Lib.hid f
 have HW:=Lib.hid hW1
 have hcase:(S.linked g).isSome=false∨((S.linked g).isSome=true∧(S.at_ k).isSome=false):=by
  cases hg:S.linked g with
  | none=>exact .inl rfl
  | some x =>
   rcases hbad with h | h
   · rw [hg] at h;simp at h
   · exact .inr ⟨rfl,by rw [h];rfl⟩
 clear hpk f hW1 a T hbad
 generalize (S.linked g).isSome=b1 at *
 generalize (S.at_ k).isSome=b2 at *
 show Calls Tryz.prog _ #[.agg (xcells X).toArray,.int .i64 g,.int .i64 k] w _
 go_enter Tryz.func57,Tryz.ntmps57
 go_wp2_with (refine wpList_wload_mid rfl 38 (.tmp 3) rfl w.heap.size 0 rfl (xcells X) _ HR.out.1 Tryz.underlying38 rfl HR.out.2.1 ?_)
 rw [← HW.out]
 refine (ML.out _).mono ?_
 rintro r w2 ⟨rfl,hb⟩
 have f2:=HF.out.below hb
 have HF2:=Lib.hid f2
 have HR2:=Lib.hid f2.pack
 clear f2 hb HF HW ML
 rcases hcase with rfl | ⟨rfl,rfl⟩
 ·
  go_wp2_with (first
   | (refine wpList_wload_mid rfl 38 (.tmp 3) rfl w.heap.size 0 rfl (xcells X) _ HR2.out.1 Tryz.underlying38 rfl HR2.out.2.1 ?_)
   | (refine wpList_store_mid rfl 38 (.tmp 6) (.tmp 22) rfl (w.heap.size+1) 0 (xcells X).toArray rfl rfl HR2.out.2.2.1 HR2.out.2.2.2.1 HR2.out.2.2.2.2 ?_))
  obtain ⟨W9,hW9⟩:∃ W9,W9=w2.setCells (w.heap.size+1) 0 (xcells X):=⟨_,rfl⟩
  have hd:=HF2.out.done
  rw [← hW9] at hd ⊢
  have hl:=xload hd.1
  refine bodyPost_ret (v:=.tuple #[xV X,.int .i64 1]) (res_cell_tmp Tryz.results57 rfl rfl hl) rfl ⟨rfl,Lib.hid hd.2⟩
 ·
  go_wp2_with (refine wpList_wload_mid rfl 38 (.tmp 3) rfl w.heap.size 0 rfl (xcells X) _ HR2.out.1 Tryz.underlying38 rfl HR2.out.2.1 ?_)
  refine (MT.out _).mono ?_
  rintro r w3 ⟨rfl,hb⟩
  have f3:=HF2.out.below hb
  have HF3:=Lib.hid f3
  have HR3:=Lib.hid f3.pack
  clear f3 hb HF2 MT HR2
  go_wp2_with (first
   | (refine wpList_wload_mid rfl 38 (.tmp 3) rfl w.heap.size 0 rfl (xcells X) _ HR3.out.1 Tryz.underlying38 rfl HR3.out.2.1 ?_)
   | (refine wpList_store_mid rfl 38 (.tmp 6) (.tmp 22) rfl (w.heap.size+1) 0 (xcells X).toArray rfl rfl HR3.out.2.2.1 HR3.out.2.2.2.1 HR3.out.2.2.2.2 ?_))
  obtain ⟨W9,hW9⟩:∃ W9,W9=w3.setCells (w.heap.size+1) 0 (xcells X):=⟨_,rfl⟩
  have hd:=HF3.out.done
  rw [← hW9] at hd ⊢
  have hl:=xload hd.1
  refine bodyPost_ret (v:=.tuple #[xV X,.int .i64 1]) (res_cell_tmp Tryz.results57 rfl rfl hl) rfl ⟨rfl,Lib.hid hd.2⟩
set_option maxRecDepth 100000 in
set_option maxHeartbeats 8000000 in
theorem xmove_loop (a:XAt w S X) (T:HTree S) {i j:Nat} {x p:Gr} (h0:i≠0) (hx:S.G i=some x) (hp:S.G j=some p) (hu:underF 9 S j (i:Int)=true) :
  Calls Tryz.prog 57 #[xV X,.int .i64 (i:Int),.int .i64 (j:Int)] w fun r w'=>r=.returned (.tuple #[xV X,.int .i64 10])∧Hid (XTo w w' X X S):=by
 have hi:=T.lt hx
 obtain ⟨W1,hW1,f,_⟩:=XFr.new a
 have hpk:=f.pack
 rw [hW1] at hpk
 have HR:=Lib.hid hpk
 have ML:=fun W=>xlinked_any a T (i:Int) W
 rw [HS.linked,if_neg (by omega),S.at_nat hi,hx] at ML
 have ML:=Lib.hid ML
 have MT:=fun W=>xthere_any a T (j:Int) W
 rw [S.at_nat (T.lt hp),hp] at MT
 have MT:=Lib.hid MT
 have MU:=fun W=>xunder_any a T hp i W
 rw [hu] at MU
 have MU:=Lib.hid MU
 have HF:=Lib.hid f
 have HW:=Lib.hid hW1
 clear hpk f hW1 a T hx hp hu hi h0
 show Calls Tryz.prog _ #[.agg (xcells X).toArray,.int .i64 (i:Int),.int .i64 (j:Int)] w _
 go_enter Tryz.func57,Tryz.ntmps57
 go_wp2_with (refine wpList_wload_mid rfl 38 (.tmp 3) rfl w.heap.size 0 rfl (xcells X) _ HR.out.1 Tryz.underlying38 rfl HR.out.2.1 ?_)
 rw [← HW.out]
 refine (ML.out _).mono ?_
 rintro r w2 ⟨rfl,hb⟩
 have f2:=HF.out.below hb
 have HF2:=Lib.hid f2
 have HR2:=Lib.hid f2.pack
 clear f2 hb HF HW ML
 go_wp2_with (refine wpList_wload_mid rfl 38 (.tmp 3) rfl w.heap.size 0 rfl (xcells X) _ HR2.out.1 Tryz.underlying38 rfl HR2.out.2.1 ?_)
 refine (MT.out _).mono ?_
 rintro r w3 ⟨rfl,hb⟩
 have f3:=HF2.out.below hb
 have HF3:=Lib.hid f3
 have HR3:=Lib.hid f3.pack
 clear f3 hb HF2 MT HR2
 go_wp2_with (refine wpList_wload_mid rfl 38 (.tmp 3) rfl w.heap.size 0 rfl (xcells X) _ HR3.out.1 Tryz.underlying38 rfl HR3.out.2.1 ?_)
 refine (MU.out _).mono ?_
 rintro r w4 ⟨rfl,hb⟩
 have f4:=HF3.out.below hb
 have HF4:=Lib.hid f4
 have HR4:=Lib.hid f4.pack
 clear f4 hb HF3 MU HR3
 go_wp2_with (first
  | (refine wpList_wload_mid rfl 38 (.tmp 3) rfl w.heap.size 0 rfl (xcells X) _ HR4.out.1 Tryz.underlying38 rfl HR4.out.2.1 ?_)
  | (refine wpList_store_mid rfl 38 (.tmp 6) (.tmp 27) rfl (w.heap.size+1) 0 (xcells X).toArray rfl rfl HR4.out.2.2.1 HR4.out.2.2.2.1 HR4.out.2.2.2.2 ?_))
 obtain ⟨W9,hW9⟩:∃ W9,W9=w4.setCells (w.heap.size+1) 0 (xcells X):=⟨_,rfl⟩
 have hd:=HF4.out.done
 rw [← hW9] at hd ⊢
 have hl:=xload hd.1
 refine bodyPost_ret (v:=.tuple #[xV X,.int .i64 10]) (res_cell_tmp Tryz.results57 rfl rfl hl) rfl ⟨rfl,Lib.hid hd.2⟩
set_option maxRecDepth 100000 in
set_option maxHeartbeats 32000000 in
theorem xmove_any (a:XAt w S X) (H:HGood S) {i j:Nat} {x p:Gr} (h0:i≠0) (hx:S.G i=some x) (hp:S.G j=some p) (hu:underF 9 S j (i:Int)=false) :
  Calls Tryz.prog 57 #[xV X,.int .i64 (i:Int),.int .i64 (j:Int)] w fun r w'=>∃ X',r=.returned (.tuple #[xV X',.int .i64 (moveC S i x p)])∧Hid (XTo w w' X X' (moveR S i j x p)):=by
 have T:=H.inv.tree
 have hi:=T.lt hx
 have hj:=T.lt hp
 obtain ⟨W1,hW1,f,_⟩:=XFr.new a
 have hpk:=f.pack
 rw [hW1] at hpk
 have HR:=Lib.hid hpk
 have ML:=fun W=>xlinked_any a T (i:Int) W
 rw [HS.linked,if_neg (by omega),S.at_nat hi,hx] at ML
 have ML:=Lib.hid ML
 have MT:=fun W=>xthere_any a T (j:Int) W
 rw [S.at_nat (T.lt hp),hp] at MT
 have MT:=Lib.hid MT
 have MU:=fun W=>xunder_any a T hp i W
 rw [hu] at MU
 have MU:=Lib.hid MU
 have HF:=Lib.hid f
 have HW:=Lib.hid hW1
 have HP:=Lib.hid (And.intro a (And.intro H (And.intro hx (And.intro hp (And.intro h0 (And.intro hi hj))))))
 have j0:(0:Int)≤(i:Int):=by omega
 have j2:(i:Int)<32:=by omega
 have j5:decide (i<32)=true:=decide_eq_true hi
 clear hpk f hW1 a T hx hp hu hi h0 H hj
 show Calls Tryz.prog _ #[.agg (xcells X).toArray,.int .i64 (i:Int),.int .i64 (j:Int)] w _
 go_enter Tryz.func57,Tryz.ntmps57
 go_wp2_with (refine wpList_wload_mid rfl 38 (.tmp 3) rfl w.heap.size 0 rfl (xcells X) _ HR.out.1 Tryz.underlying38 rfl HR.out.2.1 ?_)
 rw [← HW.out]
 refine (ML.out _).mono ?_
 rintro r w2 ⟨rfl,hb⟩
 have f2:=HF.out.below hb
 have HF2:=Lib.hid f2
 have HR2:=Lib.hid f2.pack
 clear f2 hb HF HW ML
 go_wp2_with (refine wpList_wload_mid rfl 38 (.tmp 3) rfl w.heap.size 0 rfl (xcells X) _ HR2.out.1 Tryz.underlying38 rfl HR2.out.2.1 ?_)
 refine (MT.out _).mono ?_
 rintro r w3 ⟨rfl,hb⟩
 have f3:=HF2.out.below hb
 have HF3:=Lib.hid f3
 have HR3:=Lib.hid f3.pack
 clear f3 hb HF2 MT HR2
 go_wp2_with (refine wpList_wload_mid rfl 38 (.tmp 3) rfl w.heap.size 0 rfl (xcells X) _ HR3.out.1 Tryz.underlying38 rfl HR3.out.2.1 ?_)
 refine (MU.out _).mono ?_
 rintro r w4 ⟨rfl,hb⟩
 have f4:=HF3.out.below hb
 have HF4:=Lib.hid f4
 clear f4 hb HF3 MU HR3
 go_wp2_with fail
 go_loopw [8,9] (fun s8 s9 wr=>∃ k d:Nat,1≤k∧k≤32∧s9=.int .i64 (k:Int)∧s8=.int .i64 (d:Int)∧Hid (d=deepest S (unders S i k) - x.deep∧d≤8∧(∀ q,q ∈ unders S i k→(grOf S q).q.L=[])∧XFr 1 1 w wr X X S)) (fun _ s9 _=>32 - (intOf s9).toNat)
 case atStart =>
  have hu1:unders S i 1=[]:=by
   rw [unders_step]
   rw [if_neg]
   · rfl
   ·
    intro h
    rw [Bool.and_eq_true] at h
    have h2:=h.2
    obtain ⟨g,e1,e2,_⟩:=HP.out.2.1.inv.tree.root
    unfold underF at h2
    rw [if_neg (by have:=HP.out.2.2.2.2.1;omega),e1] at h2
    dsimp only at h2
    rw [if_pos e2] at h2
    simp at h2
  exact ⟨1,0,by omega,by omega,rfl,rfl,by rw [hu1];show 0=0 - _;omega,by omega,by rw [hu1];exact fun q hq=>absurd hq (by simp),HF4.out⟩
 case round =>
  obtain ⟨k,d,hk1,hk,rfl,rfl,HD⟩:=hrel
  by_cases hlt:k<32
  ·
   have k0:(0:Int)≤(k:Int):=by omega
   have k2:(k:Int)<32:=by omega
   have k5:decide (k<32)=true:=decide_eq_true hlt
   have k6:decide ((k:Int)<32)=true:=decide_eq_true k2
   have c0:=HD.out.2.2.2.box.up hlt
   have HRk:=Lib.hid HD.out.2.2.2.pack
   have HLT:=Lib.hid (And.intro hk1 hlt)
   cases hy:S.G k with
   | none =>
    rw [HP.out.1.no k hlt hy] at c0
    have HN:=Lib.hid (show unders S i (k+1)=unders S i k by rw [unders_step,hy];rfl)
    clear hy hk1 hk hlt HF4
    go_wp2_with fail
    go_roundw
    case rel=>exact ⟨k+1,d,by omega,by have:=HLT.out;omega,by go_num,rfl,by rw [HN.out];exact HD.out⟩
    case measure=>have:=HLT.out;simp [intOf];omega
   | some y =>
    obtain ⟨u,q,hyu,_,_⟩:=HP.out.2.1.inv.tree.up k y (by omega) hy
    rw [(HP.out.1.is k y hy).1,hyu] at c0
    have u1:decide ((0:Int)≤(u:Int))=true:=decide_eq_true (by omega)
    have u0:(0:Int)≤(u:Int):=by omega
    have MUk:=Lib.hid fun W=>xunder_any HP.out.1 HP.out.2.1.inv.tree hy i W
    have HY:=Lib.hid hy
    have hqk:=(HP.out.1.is k y hy).2.1
    have HQ:=Lib.hid hqk
    cases hun:underF 9 S k (i:Int) with
    | false =>
     rw [hun] at MUk
     have HN:=Lib.hid (show unders S i (k+1)=unders S i k by rw [unders_step,hun,Bool.and_false];rfl)
     clear hy hk1 hk hlt HF4 hyu hun hqk
     go_wp2_with (refine wpList_wload_mid rfl 38 (.tmp 3) rfl w.heap.size 0 rfl (xcells X) _ HRk.out.1 Tryz.underlying38 rfl HRk.out.2.1 ?_)
     refine (MUk.out _).mono ?_
     rintro r w5 ⟨rfl,hb⟩
     have f5:=Lib.hid (HD.out.2.2.2.below hb)
     clear hb
     go_wp2_with fail
     go_roundw
     case rel=>exact ⟨k+1,d,by omega,by have:=HLT.out;omega,by go_num,rfl,by rw [HN.out];exact ⟨HD.out.1,HD.out.2.1,HD.out.2.2.1,f5.out⟩⟩
     case measure=>have:=HLT.out;simp [intOf];omega
    | true =>
     rw [hun] at MUk
     have HN:=Lib.hid (show unders S i (k+1)=unders S i k++[k] by rw [unders_step,hun,hy];rfl)
     have hcase:(NTest y.q.L.length true∧y.q.L≠[])∨(NTest y.q.L.length false∧y.q.L=[]):=by
      by_cases h:y.q.L=[]
      · exact .inr ⟨NTest.no h,h⟩
      · exact .inl ⟨NTest.yes h,h⟩
     have HC:=Lib.hid hcase
     have hun2:=hun
     clear hk1 hk hlt HF4 hyu hqk hcase
     have HUN:=Lib.hid hun2
     clear hun hun2 hy
     go_wp2_with (refine wpList_wload_mid rfl 38 (.tmp 3) rfl w.heap.size 0 rfl (xcells X) _ HRk.out.1 Tryz.underlying38 rfl HRk.out.2.1 ?_)
     refine (MUk.out _).mono ?_
     rintro r w5 ⟨rfl,hb⟩
     have f5:=HD.out.2.2.2.below hb
     have q0:=(f5.box.q HLT.out.2).1
     rw [HQ.out] at q0
     have HF5:=Lib.hid f5
     have HR5:=Lib.hid f5.pack
     clear f5 hb MUk c0
     rcases HC.out with ⟨⟨n1,n2⟩,hne⟩ | ⟨⟨n1,n2⟩,hne⟩
     ·
      have HM:=Lib.hid (show moveC S i x p=6 by
       unfold moveC
       rw [if_pos ⟨k,unders_mem.2 ⟨HLT.out.2,⟨y,HY.out⟩,HUN.out⟩,by rw [grOf_some HY.out];exact hne⟩])
      clear hne
      generalize y.q.L.length=n at n1 n2 q0
      go_wp2_with (first
       | (refine wpList_wload_mid rfl 38 (.tmp 3) rfl w.heap.size 0 rfl (xcells X) _ HR5.out.1 Tryz.underlying38 rfl HR5.out.2.1 ?_)
       | (refine wpList_store_mid rfl 38 (.tmp 6) (.tmp 50) rfl (w.heap.size+1) 0 (xcells X).toArray rfl rfl HR5.out.2.2.1 HR5.out.2.2.2.1 HR5.out.2.2.2.2 ?_))
      obtain ⟨W9,hW9⟩:∃ W9,W9=w5.setCells (w.heap.size+1) 0 (xcells X):=⟨_,rfl⟩
      have hd:=HF5.out.done
      rw [← hW9] at hd ⊢
      have hl:=xload hd.1
      refine bodyPost_ret (v:=.tuple #[xV X,.int .i64 6]) (res_cell_tmp Tryz.results57 rfl rfl hl) rfl ⟨X,by rw [HM.out],Lib.hid (by rw [moveR_no (by rw [HM.out];decide)];exact hd.2)⟩
     ·
      have HNE:=Lib.hid hne
      clear hne
      generalize y.q.L.length=n at n1 n2 q0
      go_upto_region 12 with (fail)
      have hdy:=HP.out.2.1.inv.tree.deep k y HY.out
      have hxy:=under_deep HP.out.2.1.inv.tree HP.out.2.2.1 9 k y HY.out HUN.out
      have MD1:=fun W=>xdepth_any HP.out.1 HP.out.2.1.inv.tree HY.out W
      have MD2:=fun W=>xdepth_any HP.out.1 HP.out.2.1.inv.tree HP.out.2.2.1 W
      obtain ⟨dy,hdy2⟩:∃ dy,dy=y.deep:=⟨_,rfl⟩
      obtain ⟨dx,hdx2⟩:∃ dx,dx=x.deep:=⟨_,rfl⟩
      rw [← hdy2] at MD1 hdy
      rw [← hdx2] at MD2
      rw [← hdx2,← hdy2] at hxy
      obtain ⟨e,he⟩:∃ e,e=dy - dx:=⟨_,rfl⟩
      obtain ⟨m,hm⟩:∃ m,m=max d e:=⟨_,rfl⟩
      have hsub:IntKind.i64.wrap ((dy:Int) - (dx:Int))=(e:Int):=by
       rw [IntWalk.i64_in _ (by omega)]
       omega
      have hmax:max (d:Int) (e:Int)=(m:Int):=by omega
      have MD1:=Lib.hid MD1
      have MD2:=Lib.hid MD2
      have HMM:=Lib.hid (show m=deepest S (unders S i (k+1)) - x.deep∧m≤8∧∀ q,q ∈ unders S i (k+1)→(grOf S q).q.L=[] from by
       have h1:=HD.out.1
       have h2:=HD.out.2.1
       have e1:(grOf S k).deep=dy:=by rw [grOf_some HY.out,hdy2]
       rw [HN.out,deepest_snoc,e1,← hdx2]
       rw [← hdx2] at h1
       refine ⟨by omega,by omega,fun q hq=>?_⟩
       rcases List.mem_append.1 hq with hq | hq
       · exact HD.out.2.2.1 q hq
       ·
        rw [List.mem_singleton] at hq
        rw [hq,grOf_some HY.out]
        exact HNE.out)
      have HS5:Hid (∀ W,Below w5.heap.size w5 W→W.rangeAt w.heap.size 0 (xcells X)):=Lib.hid fun W hW=>(HF5.out.below hW).box.range
      clear hdy hxy hdy2 hdx2 he hm
      have HEQ:=Lib.hid (And.intro hsub hmax)
      clear hsub hmax q0
      refine wp_region_held_drew (S:=fun W=>Below w5.heap.size w5 W∧W.rangeAt w.heap.size 0 (xcells X)) (by kernel_rfl) ⟨(Below.refl _ _).drew,HS5.out _ (Below.refl _ _).drew⟩ (fun hHeld=>?_)
      refine wpAnyH_take (i:=0) (v:=.int .i64 (d:Int)) rfl (by kernel_rfl) (by kernel_rfl) (by kernel_rfl) (fun _ _ _ h=>h) (Or.inl ⟨by rfl,?_⟩) hHeld ?_
      ·
       intro W hSw
       clear hHeld hSw
       go_simp
      try simp only [Act.put,List.setIfInBounds_toArray,List.set_cons_zero,List.set_cons_succ]
      refine wpAnyH_take (i:=1) (v:=.agg (xcells X).toArray) rfl (by kernel_rfl) (by kernel_rfl) (by kernel_rfl) (fun _ _ _ h=>h) (yieldsIf_load_mid (by rfl) _ _ rfl w.heap.size 0 rfl (xcells X) _ (fun W h=>h.2) Tryz.underlying38 rfl (xinf X)) hHeld ?_
      try simp only [Act.put,List.setIfInBounds_toArray,List.set_cons_zero,List.set_cons_succ]
      refine wpAnyH_take (i:=2) (v:=.int .i64 (k:Int)) rfl (by kernel_rfl) (by kernel_rfl) (by kernel_rfl) (fun _ _ _ h=>h) (Or.inl ⟨by rfl,?_⟩) hHeld ?_
      ·
       intro W hSw
       clear hHeld hSw
       go_simp
      try simp only [Act.put,List.setIfInBounds_toArray,List.set_cons_zero,List.set_cons_succ]
      refine wpAnyH_take (i:=4) (v:=.agg (xcells X).toArray) rfl (by kernel_rfl) (by kernel_rfl) (by kernel_rfl) (fun _ _ _ h=>h) (yieldsIf_load_mid (by rfl) _ _ rfl w.heap.size 0 rfl (xcells X) _ (fun W h=>h.2) Tryz.underlying38 rfl (xinf X)) hHeld ?_
      try simp only [Act.put,List.setIfInBounds_toArray,List.set_cons_zero,List.set_cons_succ]
      refine wpAnyH_take (i:=5) (v:=.int .i64 (i:Int)) rfl (by kernel_rfl) (by kernel_rfl) (by kernel_rfl) (fun _ _ _ h=>h) (Or.inl ⟨by rfl,?_⟩) hHeld ?_
      ·
       intro W hSw
       clear hHeld hSw
       go_simp
      try simp only [Act.put,List.setIfInBounds_toArray,List.set_cons_zero,List.set_cons_succ]
      refine wpAnyH_ready (rs:=[3]) (by kernel_rfl) (by simp) ?_
      refine AllReadyH.cons rfl (fun K hK=>?_) AllReadyH.nil
      have HK:=Lib.hid hK
      clear hK hHeld
      go_simp
      refine (MD1.out _).mono ?_
      rintro r w6 ⟨rfl,hb6⟩
      have hb6':Below w5.heap.size w5 w6:=(Below.refl _ _).drew.trans hb6
      refine HK.out.out _ _ ⟨hb6',HS5.out _ hb6'⟩ (fun hHeld=>?_)
      try simp only [Act.put,List.setIfInBounds_toArray,List.set_cons_zero,List.set_cons_succ]
      clear HK K hHeld hb6
      refine wpAnyH_ready (rs:=[6]) (by kernel_rfl) (by simp) ?_
      refine AllReadyH.cons rfl (fun K hK=>?_) AllReadyH.nil
      have HK:=Lib.hid hK
      have HB6:=Lib.hid hb6'
      clear hK hb6'
      go_simp
      refine (MD2.out _).mono ?_
      rintro r w7 ⟨rfl,hb7⟩
      have hb7':Below w5.heap.size w5 w7:=HB6.out.trans (hb7.mono HB6.out.size)
      refine HK.out.out _ _ ⟨hb7',HS5.out _ hb7'⟩ (fun hHeld=>?_)
      try simp only [Act.put,List.setIfInBounds_toArray,List.set_cons_zero,List.set_cons_succ]
      have HB7:=Lib.hid (show Below w5.heap.size w5 w7∧w7.rangeAt w.heap.size 0 (xcells X) from ⟨hb7',HS5.out _ hb7'⟩)
      clear HK K hHeld hb7 hb7' HB6
      have hsub:=HEQ.out.1
      have hmax:=HEQ.out.2
      refine wpAnyH_ready (rs:=[7]) (by kernel_rfl) (by simp) ?_
      refine AllReadyH.cons rfl (fun K hK=>?_) AllReadyH.nil
      have HK:=Lib.hid hK
      clear hK
      go_simp
      refine HK.out.out _ _ HB7.out (fun _=>?_)
      try simp only [Act.put,List.setIfInBounds_toArray,List.set_cons_zero,List.set_cons_succ]
      clear HK K
      refine wpAnyH_ready (rs:=[8]) (by kernel_rfl) (by simp) ?_
      refine AllReadyH.cons rfl (fun K hK=>?_) AllReadyH.nil
      have HK:=Lib.hid hK
      clear hK
      go_simp
      refine HK.out.out _ _ HB7.out (fun _=>?_)
      try simp only [Act.put,List.setIfInBounds_toArray,List.set_cons_zero,List.set_cons_succ]
      clear HK K
      refine wpAnyH_ready (rs:=[9]) (by kernel_rfl) (by simp) ?_
      refine AllReadyH.cons rfl (fun K hK=>?_) AllReadyH.nil
      have HK:=Lib.hid hK
      clear hK
      go_simp
      refine HK.out.out _ _ HB7.out (fun _=>?_)
      try simp only [Act.put,List.setIfInBounds_toArray,List.set_cons_zero,List.set_cons_succ]
      clear HK K
      refine wpAnyH_done (by kernel_rfl) ?_ _
      have HF7:=Lib.hid (HF5.out.below HB7.out.1)
      clear hsub hmax HB7 HF5
      go_wp2_with fail
      go_roundw
      case rel=>exact ⟨k+1,m,by omega,by have:=HLT.out;omega,by go_num,by first | rfl | (rw [hmax'];rfl),by exact ⟨HMM.out.1,HMM.out.2.1,HMM.out.2.2,HF7.out⟩⟩
      case measure=>have:=HLT.out;simp [intOf];omega
  ·
   obtain rfl:k=32:=by omega
   have T:=HP.out.2.1.inv.tree
   have hui:i ∈ unders S i 32:=unders_mem.2 ⟨HP.out.2.2.2.2.2.1,⟨x,HP.out.2.2.1⟩,by unfold underF;rw [if_pos rfl]⟩
   have hDx:x.deep≤deepest S (unders S i 32):=by
    have:=le_deepest (S:=S) hui
    rw [grOf_some HP.out.2.2.1] at this
    exact this
   have hdp:=T.deep j p HP.out.2.2.2.1
   have hno:¬∃ k,k ∈ unders S i 32∧(grOf S k).q.L≠[]:=fun ⟨k,h1,h2⟩=>h2 (HD.out.2.2.1 k h1)
   have hL:x.q.L=[]:=by
    have:=HD.out.2.2.1 i hui
    rw [grOf_some HP.out.2.2.1] at this
    exact this
   have hon:x.on=false:=by
    rw [HP.out.2.1.set i x HP.out.2.2.2.2.1 HP.out.2.2.1]
    unfold shouldB
    rw [hL]
    simp
   have hd1:=HD.out.1
   have hd8:=HD.out.2.1
   have MD:=fun W=>xdepth_any HP.out.1 T HP.out.2.2.2.1 W
   have hmv:moveC S i x p=if 8<d+p.deep+1 then 5 else 0:=by
    unfold moveC moveBy
    rw [if_neg hno]
    by_cases h:8<d+p.deep+1
    · rw [if_pos h,if_pos (by omega)]
    · rw [if_neg h,if_neg (by omega)]
   obtain ⟨dp,hdp2⟩:∃ dp,dp=p.deep:=⟨_,rfl⟩
   rw [← hdp2] at MD hdp hmv
   have MD:=Lib.hid MD
   obtain ⟨u,pu,hxu,hpu,_⟩:=T.up i x HP.out.2.2.2.2.1 HP.out.2.2.1
   have hu32:=T.lt hpu
   have HU:=Lib.hid (And.intro hxu (And.intro hpu (And.intro hu32 hon)))
   have HRk:=Lib.hid HD.out.2.2.2.pack
   have HF0:=Lib.hid HD.out.2.2.2
   have HUN:=Lib.hid (show ∀ a,a ∈ unders S i 32→∃ y,S.G a=some y from fun a ha=>(unders_mem.1 ha).2.1)
   have s0:(0:Int)≤(dp:Int):=by omega
   have s1:(dp:Int)≤8:=by omega
   have s2:(0:Int)≤(d:Int):=by omega
   have s3:(d:Int)≤8:=by omega
   have i0:(0:Int)≤(u:Int):=by omega
   have i1:(u:Int)<32:=by omega
   have i2:decide (u<32)=true:=decide_eq_true hu32
   have i3:(0:Int)≤(j:Int):=by omega
   have i4:(j:Int)<32:=by have:=HP.out.2.2.2.2.2.2;omega
   have i5:decide (j<32)=true:=decide_eq_true HP.out.2.2.2.2.2.2
   clear T hui hDx hno hL hon hd1 hd8 hdp hdp2 hxu hpu hu32 HD HF4 hk1 hk
   by_cases h8:8<d+dp+1
   ·
    rw [if_pos h8] at hmv
    have HM:=Lib.hid hmv
    have z1:decide ((8:Int)<(dp:Int)+1+(d:Int))=true:=decide_eq_true (by omega)
    have z2:decide (8<dp+1+d)=true:=decide_eq_true (by omega)
    clear hmv h8 hlt
    go_wp2_with (refine wpList_wload_mid rfl 38 (.tmp 3) rfl w.heap.size 0 rfl (xcells X) _ HRk.out.1 Tryz.underlying38 rfl HRk.out.2.1 ?_)
    refine (MD.out _).mono ?_
    rintro r w6 ⟨rfl,hb⟩
    have f6:=HF0.out.below hb
    have HF6:=Lib.hid f6
    have HR6:=Lib.hid f6.pack
    clear f6 hb
    go_wp2_with (first
     | (refine wpList_wload_mid rfl 38 (.tmp 3) rfl w.heap.size 0 rfl (xcells X) _ HR6.out.1 Tryz.underlying38 rfl HR6.out.2.1 ?_)
     | (refine wpList_store_mid rfl 38 (.tmp 6) (.tmp 67) rfl (w.heap.size+1) 0 (xcells X).toArray rfl rfl HR6.out.2.2.1 HR6.out.2.2.2.1 HR6.out.2.2.2.2 ?_))
    obtain ⟨W9,hW9⟩:∃ W9,W9=w6.setCells (w.heap.size+1) 0 (xcells X):=⟨_,rfl⟩
    have hd:=HF6.out.done
    rw [← hW9] at hd ⊢
    have hl:=xload hd.1
    refine bodyPost_ret (v:=.tuple #[xV X,.int .i64 5]) (res_cell_tmp Tryz.results57 rfl rfl hl) rfl ⟨X,by rw [HM.out],Lib.hid (by rw [moveR_no (by rw [HM.out];decide)];exact hd.2)⟩
   ·
    rw [if_neg h8] at hmv
    have HM:=Lib.hid hmv
    have z1:decide ((8:Int)<(dp:Int)+1+(d:Int))=false:=decide_eq_false (by omega)
    have z2:decide (8<dp+1+d)=false:=decide_eq_false (by omega)
    clear hmv h8 hlt
    go_wp2_with (refine wpList_wload_mid rfl 38 (.tmp 3) rfl w.heap.size 0 rfl (xcells X) _ HRk.out.1 Tryz.underlying38 rfl HRk.out.2.1 ?_)
    refine (MD.out _).mono ?_
    rintro r w6 ⟨rfl,hb⟩
    have f6:=HF0.out.below hb
    have O:=HP.out.2.1.inv.own i x HP.out.2.2.2.2.1 HP.out.2.2.1
    have qu:=HP.out.2.1.inv.qok u pu HU.out.2.1
    have qj:=HP.out.2.1.inv.qok j p HP.out.2.2.2.1
    have MM:=fun W=>refMove_any x.own.v pu.q.mn p.q.mn O.v1 O.v2 qu.m1 qu.m2 qj.m1 qj.m2 W
    have hvv:movV S x p=satZ (satZ x.own.v (-pu.q.mn)) p.q.mn:=by
     unfold movV
     rw [HU.out.1,Int.toNat_natCast,grOf_some HU.out.2.1]
    rw [← hvv] at MM
    generalize (overZ x.own.v (-pu.q.mn) || overZ (satZ x.own.v (-pu.q.mn)) p.q.mn)=ob at MM
    obtain ⟨-,-,o2,-⟩:=f6.box.own HP.out.2.2.2.2.2.1
    have hown:=(HP.out.1.is i x HP.out.2.2.1).2.2.2 HP.out.2.2.2.2.1 HU.out.2.2.2
    rw [hown] at o2
    have c0:=f6.box.up HP.out.2.2.2.2.2.1
    rw [(HP.out.1.is i x HP.out.2.2.1).1,HU.out.1] at c0
    obtain ⟨-,-,m1,-⟩:=f6.box.q HU.out.2.2.1
    rw [(HP.out.1.is u pu HU.out.2.1).2.1] at m1
    obtain ⟨-,-,m2,-⟩:=f6.box.q HP.out.2.2.2.2.2.2
    rw [(HP.out.1.is j p HP.out.2.2.2.1).2.1] at m2
    have yf:=f6.box.frozen
    obtain ⟨vv,hv⟩:∃ vv,vv=movV S x p:=⟨_,rfl⟩
    rw [← hv] at MM
    have HV:=Lib.hid (And.intro hv hown)
    obtain ⟨xv,hxv⟩:∃ xv,xv=x.own.v:=⟨_,rfl⟩
    obtain ⟨a1,ha1⟩:∃ a1,a1=pu.q.mn:=⟨_,rfl⟩
    obtain ⟨a2,ha2⟩:∃ a2,a2=p.q.mn:=⟨_,rfl⟩
    rw [← hxv] at MM o2
    rw [← ha1] at MM m1
    rw [← ha2] at MM m2
    have MM:=Lib.hid MM
    have HC:=Lib.hid (And.intro o2 (And.intro c0 (And.intro m1 m2)))
    have HF6:=Lib.hid f6
    clear f6 hb O qu qj hvv hv hown hxv ha1 ha2 HRk MD HF0
    go_upto_region 15 with (fail)
    go_region_held3 (fun W=>W.cell? ⟨w.heap.size,162+i*4+2,none⟩=some (.int .i64 xv)∧W.cell? ⟨w.heap.size,130+i,none⟩=some (.int .i64 (u:Int))∧W.cell? ⟨w.heap.size,2+u*4+2,none⟩=some (.int .i64 a1)∧W.cell? ⟨w.heap.size,2+j*4+2,none⟩=some (.int .i64 a2))
     (first | exact HC.out | assumption)
     (first | (go_at_call 95;refine (MM.out _).mono ?_;rintro r w7 ⟨rfl,rfl⟩))
    rename_i hHeld
    clear hHeld HC
    have HB2:=Lib.hid (HF6.out.box.set_vup HP.out.2.2.2.2.2.1 HV.out.2 vv (j:Int))
    go_upto_region 18 with (fail)
    have hD:=deepL_all (by_:=moveBy x p) (unders S i 32) S x HUN.out HP.out.2.2.1
    obtain ⟨dd,hD⟩:=hD
    have f8:=((HF6.out.like (HF6.out.at_.deepL (moveBy x p) (unders S i 32) HUN.out)).moved (y:={ grOf (deepL (moveBy x p) S (unders S i 32)) i with own:={ x.own with v:=movV S x p },up:=(j:Int) }) hD HB2.out (by rw [grOf_some hD]) (by rw [grOf_some hD]) (by rw [HV.out.1]) rfl).below (Below.refl _ _).drew
    obtain ⟨W7,hW7,f7⟩:∃ W7,W7=_∧XFr 1 1 w W7 X _ (moveHS S i j x p):=⟨_,rfl,f8⟩
    rw [← hW7]
    clear hW7 f8 o2 c0 m1 m2 yf HB2 hD
    generalize XH.put _ i _=Y7 at f7
    have HR7:=Lib.hid f7.pack
    have HF7:=Lib.hid f7
    clear f7
    go_wp2_with (first
     | (refine wpList_wload_mid rfl 38 (.tmp 3) rfl w.heap.size 0 rfl (xcells Y7) _ HR7.out.1 Tryz.underlying38 rfl HR7.out.2.1 ?_)
     | (refine wpList_store_mid rfl 38 (.tmp 6) (.tmp 99) rfl (w.heap.size+1) 0 (xcells Y7).toArray rfl rfl HR7.out.2.2.1 HR7.out.2.2.2.1 HR7.out.2.2.2.2 ?_))
    obtain ⟨W9,hW9⟩:∃ W9,W9=W7.setCells (w.heap.size+1) 0 (xcells Y7):=⟨_,rfl⟩
    have hd:=HF7.out.done
    rw [← hW9] at hd ⊢
    have hl:=xload hd.1
    refine bodyPost_ret (v:=.tuple #[xV Y7,.int .i64 0]) (res_cell_tmp Tryz.results57 rfl rfl hl) rfl ⟨Y7,by rw [HM.out],Lib.hid (by rw [moveR_yes HM.out];exact hd.2)⟩
end
end Go.Proofs.YtefekboacghnjaaGreat
namespace Go.Proofs.YtefekboacghnjaaGreat
open Go.RowKit Go.Maps
section
variable {w:World} {S:HS} {X:XH}
set_option maxRecDepth 100000 in
set_option maxHeartbeats 32000000 in
theorem xpick_any (a:XAt w S X) (H:HGood S) :
  Calls Tryz.prog 26 #[xV X] w fun r w'=>∃ X',r=.returned (.tuple #[xV X',.int .i64 (pickHI 9 S)])∧Hid (XTo w w' X X' (pickH 9 S)):=by
 obtain ⟨W1,hW1,f,_⟩:=XFr.new a
 have hpk:=f.pack
 rw [hW1] at hpk
 have HR:=Lib.hid hpk
 have HF:=Lib.hid f
 have HW:=Lib.hid hW1
 obtain ⟨rt,hrt,_,hrd⟩:=H.inv.tree.root
 obtain ⟨P,hP⟩:∃ P,P=wayF pickN 9 S 0:=⟨_,rfl⟩
 have hP1:pickHI 9 S=endI P.2:=by rw [hP];rfl
 have hP2:pickH 9 S=P.1:=by rw [hP];rfl
 rw [hP1,hP2]
 have H0:Hid (∃ (n:Nat) (S1:HS) (Y:XH) (x:Gr),XFr 1 1 w W1 X Y S1∧HGood S1∧S1.G 0=some x∧x.deep+n=9∧S1.gran=S.gran∧(∀ j,(S1.G j).map (·.deep)=(S.G j).map (·.deep))∧P=wayF pickN n S1 0):=Lib.hid ⟨9,S,X,rt,f,H,hrt,by omega,rfl,fun _=>rfl,hP⟩
 clear hpk f hW1 a H hrt hrd hP hP1 hP2
 show Calls Tryz.prog _ #[.agg (xcells X).toArray] w _
 go_enter Tryz.func26,Tryz.ntmps26
 go_wp2_with fail
 rw [← HW.out]
 go_loopw [4] (fun s4 wr=>∃ g:Nat,s4=.int .i64 (g:Int)∧Hid (∃ (n:Nat) (S1:HS) (Y:XH) (x:Gr),XFr 1 1 w wr X Y S1∧HGood S1∧S1.G g=some x∧x.deep+n=9∧S1.gran=S.gran∧(∀ j,(S1.G j).map (·.deep)=(S.G j).map (·.deep))∧P=wayF pickN n S1 g)) (fun s4 _=>9 - (grOf S (intOf s4).toNat).deep)
 case atStart=>exact ⟨0,rfl,H0⟩
 case round =>
  obtain ⟨g,rfl,HY⟩:=hrel
  obtain ⟨n,S1,Y,x,f,H,hx,hdn,hgr,hdd,hP⟩:=HY.out
  have hg:=H.inv.tree.lt hx
  have hd8:=H.inv.tree.deep g x hx
  have hok:=H.inv.qok g x hx
  have hq:=(f.at_.is g x hx).2.1
  have hled:=led_pick (f.at_.led g x hx) S1.gran
  obtain ⟨n',hn'⟩:∃ n',n=n'+1:=⟨n - 1,by omega⟩
  subst hn'
  have hpe:=pickN_eq hx
  have MP:=fun (W:World) (hW:RQ W W.heap.size (Y.g g).A (Y.g g).c x.q.L)=>rf_pick (Y.g g).A (Y.g g).c x.q hok S1.gran W hW
  have hpi:=hok.pickI_ok S1.gran
  have HP1:=H.pick1 hx
  have hdg:(grOf S g).deep=x.deep:=by
   have:=hdd g
   rw [hx] at this
   cases hs:S.G g with
   | none=>rw [hs] at this;simp at this
   | some y =>
    rw [hs] at this
    rw [grOf_some hs]
    simpa using this.symm
  have hcg:=f.at_.gr
  obtain ⟨gr,hgr2⟩:∃ gr,gr=S1.gran:=⟨_,rfl⟩
  rw [← hgr2] at hpe MP hpi HP1 hled hcg
  obtain ⟨q2,hq2⟩:∃ q2,q2=pickQ x.q gr:=⟨_,rfl⟩
  obtain ⟨m,hm⟩:∃ m,m=x.q.pickI gr:=⟨_,rfl⟩
  rw [← hq2,← hm] at hpe
  rw [← hq2,← hm] at MP
  rw [← hq2] at HP1 hled
  rw [← hm] at hpi
  obtain ⟨m2,hm2⟩:∃ m2,m2=q2.L.length:=⟨_,rfl⟩
  rw [← hm2] at MP
  have HEND:Hid (m<0∨m % 2=0→P=(S1.put g (some { x with q:=q2 }),m)):=Lib.hid fun hc=>by rw [hP];exact wayF_ends hpe hc
  have hm3:m = -1∨(0≤m∧m≤1000∧m % 2=0∧endI m=m / 2)∨(0≤m∧m≤1000∧m % 2=1∧∃ kk:Nat,m / 2=(kk:Int)∧Hid (9 - (grOf S kk).deep<9 - (grOf S g).deep)∧Hid (∀ (W:World) (Y7:XH),XFr 1 1 w W X Y7 (S1.put g (some { x with q:=q2 }))→Hid (∃ (n:Nat) (S1:HS) (Y:XH) (x:Gr),XFr 1 1 w W X Y S1∧HGood S1∧S1.G kk=some x∧x.deep+n=9∧S1.gran=S.gran∧(∀ j,(S1.G j).map (·.deep)=(S.G j).map (·.deep))∧P=wayF pickN n S1 kk))):=by
   rcases hpi with e | hmm
   · exact .inl e
   ·
    rcases H.chosen hx hmm with ⟨t,ht,e⟩ | ⟨k,y,e,_,hk,hkg,hy,_,_,hdy⟩
    · exact .inr (.inl ⟨by omega,by omega,by omega,by unfold endI;rw [if_neg (by omega)]⟩)
    ·
     refine .inr (.inr ⟨by omega,by omega,by omega,k,by omega,Lib.hid ?_,Lib.hid fun W Y7 f7=>Lib.hid ⟨n',_,Y7,y,f7,HP1,(HS.put_other _ _ hkg).trans hy,by omega,hgr,fun j=>?_,?_⟩⟩)
     ·
      rw [hdg]
      have h9:=hdd k
      rw [hy] at h9
      cases hs:S.G k with
      | none=>rw [hs] at h9;simp at h9
      | some z =>
       rw [hs] at h9
       rw [grOf_some hs]
       have:y.deep=z.deep:=by simpa using h9
       omega
     ·
      by_cases hj:j=g
      ·
       subst hj
       rw [HS.put_same,← hdd j,hx]
       rfl
      · rw [HS.put_other _ _ hj];exact hdd j
     · rw [hP,wayF_goes hpe (by omega),e,half]
  have hr:=f.at_.row g hg
  rw [hq] at hr
  have HP:=Lib.hid (And.intro hx (And.intro hg (And.intro hq (And.intro hled hm2))))
  have SO:=Lib.hid fun W (hW:Below wr.heap.size wr W)=>(by
    obtain ⟨q0,q1,q2,q3⟩:=(f.box.below hW).q hg
    rw [hq] at q0 q1 q2 q3
    obtain ⟨-,c1⟩:=(f.box.below hW).cred
    rw [hcg] at c1
    exact ⟨hW,⟨q0,q1,q2,q3⟩,c1⟩:Below wr.heap.size wr W∧(W.cell? ⟨w.heap.size,2+g*4,none⟩=some (.slice (Y.g g).A x.q.L.length (Y.g g).c)∧W.cell? ⟨w.heap.size,2+g*4+1,none⟩=some (.int .i64 x.q.cur)∧W.cell? ⟨w.heap.size,2+g*4+2,none⟩=some (.int .i64 x.q.mn)∧W.cell? ⟨w.heap.size,2+g*4+3,none⟩=some (.bool x.q.over))∧W.cell? ⟨w.heap.size,1,none⟩=some (.int .i64 gr))
  have hz4:=Nat.le_refl wr.heap.size
  have HF4:=Lib.hid (And.intro f hr)
  have MP2:=Lib.hid fun W (k:Below wr.heap.size wr W)=>MP W ((hr.below k).mono k.size)
  have j0:(0:Int)≤(g:Int):=by omega
  have j2:(g:Int)<32:=by omega
  have j5:decide (g<32)=true:=decide_eq_true hg
  clear HY f H hx hdn hgr hdd hP hg hd8 hok hq hled hpe MP hpi HP1 hdg hcg hgr2 hq2 hm hm2 hr
  generalize x.q.L.length=ml at *
  go_upto_region 2 with (fail)
  go_region_held3 (fun W=>Below wr.heap.size wr W∧(W.cell? ⟨w.heap.size,2+g*4,none⟩=some (.slice (Y.g g).A ml (Y.g g).c)∧W.cell? ⟨w.heap.size,2+g*4+1,none⟩=some (.int .i64 x.q.cur)∧W.cell? ⟨w.heap.size,2+g*4+2,none⟩=some (.int .i64 x.q.mn)∧W.cell? ⟨w.heap.size,2+g*4+3,none⟩=some (.bool x.q.over))∧W.cell? ⟨w.heap.size,1,none⟩=some (.int .i64 gr))
   (first | exact SO.out _ (kp_drew (by assumption)) | exact SO.out _ (by assumption) | exact SO.out _ (kp_call (by assumption) (by assumption) hz4) | exact SO.out _ (kp_same (by assumption)) | exact SO.out _ (kp_alloc (by assumption) hz4 _) | exact SO.out _ (kp_start _ _) | exact SO.out _ (kb_alloc (Below.refl _ _) _).drew | exact SO.out _ (kb_alloc (by assumption) _) | exact SO.out _ (kb_four (by assumption) (Nat.le_refl _) _ _ _ _))
   (first
    | (go_at_call 72;refine (MP2.out _ (by first | exact kp_same (by assumption) | exact kp_drew (by assumption) | exact kp_start _ _ | exact kp_alloc (by assumption) hz4 _ | exact (kb_alloc (Below.refl _ _) _).drew)).mono ?_;rintro r w5 ⟨A5,c5,rfl,H5⟩;have hb5:=H5.out.res.bel;have k5:=kp_call hb5 (by assumption) hz4;first | (have k9:=blk_ahead hb5;have g0:=Blk.cell k9 0;have g1:=Blk.cell k9 1;have g2:=Blk.cell k9 2;have g3:=Blk.cell k9 3;have gf:=Blk.frozen k9) | skip))
  ·
   obtain ⟨W6,hW6⟩:∃ W6,W6=w5.alloc (.cells #[.slice A5 m2 c5,.int .i64 q2.cur,.int .i64 q2.mn,.bool q2.over] 29):=⟨_,rfl⟩
   have hx6:Blk W6 w5.heap.size #[.slice A5 m2 c5,.int .i64 q2.cur,.int .i64 q2.mn,.bool q2.over] 29:=by rw [hW6];exact Blk.new _ _ _
   have hr6:RfRes wr W6 (Y.g g).A A5 c5 x.q q2:=(H5.out.drew).later (by rw [hW6];exact (Below.refl _ _).alloc (Nat.le_refl _) _)
   change Exit.then _ _ _ _ (w5.alloc (.cells #[.slice A5 m2 c5,.int .i64 q2.cur,.int .i64 q2.mn,.bool q2.over] 29))
   rw [← hW6]
   rename_i hHeld
   have hr7:=hr6
   rw [← HP.out.2.2.1] at hr7
   have f7:=HF4.out.1.queue HP.out.1 HP.out.2.1 hr7 HP.out.2.2.2.1 (Below.refl _ _) HP.out.2.2.2.2
   have f6:=HF4.out.1.below hr6.res.bel
   obtain ⟨y0,y1,y2,y3⟩:=f6.box.q HP.out.2.1
   have yf:=f6.box.frozen
   have x0:W6.cell? ⟨_,0,none⟩=some (.slice A5 m2 c5):=Blk.cell hx6 0
   have x1:W6.cell? ⟨_,1,none⟩=some (.int .i64 q2.cur):=Blk.cell hx6 1
   have x2:W6.cell? ⟨_,2,none⟩=some (.int .i64 q2.mn):=Blk.cell hx6 2
   have x3:W6.cell? ⟨_,3,none⟩=some (.bool q2.over):=Blk.cell hx6 3
   have HF7:=Lib.hid f7
   clear hHeld f7 f6 hr7 hr6 hW6 hx6 H5 hb5 k5 SO HF4 MP2
   go_upto_region 4 with (fail)
   obtain ⟨W7,hW7,f7⟩:∃ W7,W7=_∧XFr 1 1 w W7 X _ _:=⟨_,rfl,HF7.out⟩
   rw [← hW7]
   clear hW7 y0 y1 y2 y3 yf x0 x1 x2 x3 HF7
   generalize XH.put _ g _=Y7 at f7
   have HR7:=Lib.hid f7.pack
   have HF7:=Lib.hid f7
   clear f7
   rcases hm3 with hm | ⟨m0,m1,hm2,he⟩ | ⟨m0,m1,hm2,kk,hkk,HMS,HK⟩
   ·
    obtain rfl:m = -1:=hm
    have HE:=Lib.hid (HEND.out (.inl (by decide)))
    go_wp2_with (first
     | (refine wpList_wload_mid rfl 38 (.tmp 1) rfl w.heap.size 0 rfl (xcells Y7) _ HR7.out.1 Tryz.underlying38 rfl HR7.out.2.1 ?_)
     | (refine wpList_store_mid rfl 38 (.tmp 2) (.tmp 23) rfl (w.heap.size+1) 0 (xcells Y7).toArray rfl rfl HR7.out.2.2.1 HR7.out.2.2.2.1 HR7.out.2.2.2.2 ?_))
    obtain ⟨W9,hW9⟩:∃ W9,W9=W7.setCells (w.heap.size+1) 0 (xcells Y7):=⟨_,rfl⟩
    have hd:=HF7.out.done
    rw [← hW9] at hd ⊢
    have hl:=xload hd.1
    refine bodyPost_ret (v:=.tuple #[xV Y7,.int .i64 (-1)]) (res_cell_tmp Tryz.results26 rfl rfl hl) rfl ⟨Y7,by rw [HE.out];rfl,Lib.hid (by rw [HE.out];exact hd.2)⟩
   ·
    have t0:decide (m<0)=false:=decide_eq_false (by omega)
    have t1:(m % 2 == 0)=true:=beq_iff_eq.2 hm2
    have t2:decide (m % 2=0)=true:=decide_eq_true hm2
    have HE:=Lib.hid (HEND.out (.inr hm2))
    have HHE:=Lib.hid he
    clear hm2 he
    go_wp2_with (first
     | (refine wpList_wload_mid rfl 38 (.tmp 1) rfl w.heap.size 0 rfl (xcells Y7) _ HR7.out.1 Tryz.underlying38 rfl HR7.out.2.1 ?_)
     | (refine wpList_store_mid rfl 38 (.tmp 2) (.tmp 27) rfl (w.heap.size+1) 0 (xcells Y7).toArray rfl rfl HR7.out.2.2.1 HR7.out.2.2.2.1 HR7.out.2.2.2.2 ?_))
    obtain ⟨W9,hW9⟩:∃ W9,W9=W7.setCells (w.heap.size+1) 0 (xcells Y7):=⟨_,rfl⟩
    have hd:=HF7.out.done
    rw [← hW9] at hd ⊢
    have hl:=xload hd.1
    refine bodyPost_ret (v:=.tuple #[xV Y7,.int .i64 (m / 2)]) (res_cell_tmp Tryz.results26 rfl rfl hl) rfl ⟨Y7,by rw [HE.out,← HHE.out],Lib.hid (by rw [HE.out];exact hd.2)⟩
   ·
    have t0:decide (m<0)=false:=decide_eq_false (by omega)
    have t1:(m % 2 == 0)=false:=beq_eq_false_iff_ne.2 (by omega)
    have t2:decide (m % 2=0)=false:=decide_eq_false (by omega)
    have HD2:=Lib.hid hm2
    clear hm2
    have HKK:=Lib.hid hkk
    clear hkk
    go_wp2_with fail
    go_roundw
    case rel=>exact ⟨kk,by rw [HKK.out],HK.out _ _ HF7.out⟩
    case measure=>show 9 - (grOf S ((m / 2)).toNat).deep<9 - (grOf S ((g:Int)).toNat).deep;rw [HKK.out,Int.toNat_natCast,Int.toNat_natCast];exact HMS.out
  ·
   obtain ⟨W6,hW6⟩:∃ W6,W6=(((w5.setCell ⟨wr.heap.size,0,none⟩ (.slice A5 m2 c5)).setCell ⟨wr.heap.size,1,none⟩ (.int .i64 q2.cur)).setCell ⟨wr.heap.size,2,none⟩ (.int .i64 q2.mn)).setCell ⟨wr.heap.size,3,none⟩ (.bool q2.over):=⟨_,rfl⟩
   have hx6:Blk W6 wr.heap.size #[.slice A5 m2 c5,.int .i64 q2.cur,.int .i64 q2.mn,.bool q2.over] 29:=by
    rw [hW6]
    exact Blk.set (Blk.set (Blk.set (Blk.set k9 0 (.slice A5 m2 c5)) 1 (.int .i64 q2.cur)) 2 (.int .i64 q2.mn)) 3 (.bool q2.over)
   have hr6:RfRes wr W6 (Y.g g).A A5 c5 x.q q2:=H5.out.ahead HF4.out.2 (fun b hb=>by rw [hW6];exact four_other _ _ _ _ _ _ hb) (by rw [hW6];simp) (by rw [hW6];exact kb_four k5 (Nat.le_refl _) _ _ _ _)
   change Exit.then _ _ _ _ ((((w5.setCell ⟨wr.heap.size,0,none⟩ (.slice A5 m2 c5)).setCell ⟨wr.heap.size,1,none⟩ (.int .i64 q2.cur)).setCell ⟨wr.heap.size,2,none⟩ (.int .i64 q2.mn)).setCell ⟨wr.heap.size,3,none⟩ (.bool q2.over))
   rw [← hW6]
   rename_i hHeld
   have hr7:=hr6
   rw [← HP.out.2.2.1] at hr7
   have f7:=HF4.out.1.queue HP.out.1 HP.out.2.1 hr7 HP.out.2.2.2.1 (Below.refl _ _) HP.out.2.2.2.2
   have f6:=HF4.out.1.below hr6.res.bel
   obtain ⟨y0,y1,y2,y3⟩:=f6.box.q HP.out.2.1
   have yf:=f6.box.frozen
   have x0:W6.cell? ⟨_,0,none⟩=some (.slice A5 m2 c5):=Blk.cell hx6 0
   have x1:W6.cell? ⟨_,1,none⟩=some (.int .i64 q2.cur):=Blk.cell hx6 1
   have x2:W6.cell? ⟨_,2,none⟩=some (.int .i64 q2.mn):=Blk.cell hx6 2
   have x3:W6.cell? ⟨_,3,none⟩=some (.bool q2.over):=Blk.cell hx6 3
   have HF7:=Lib.hid f7
   clear hHeld f7 f6 hr7 hr6 hW6 hx6 H5 hb5 k5 SO HF4 MP2
   go_upto_region 4 with (fail)
   obtain ⟨W7,hW7,f7⟩:∃ W7,W7=_∧XFr 1 1 w W7 X _ _:=⟨_,rfl,HF7.out⟩
   rw [← hW7]
   clear hW7 y0 y1 y2 y3 yf x0 x1 x2 x3 HF7
   generalize XH.put _ g _=Y7 at f7
   have HR7:=Lib.hid f7.pack
   have HF7:=Lib.hid f7
   clear f7
   rcases hm3 with hm | ⟨m0,m1,hm2,he⟩ | ⟨m0,m1,hm2,kk,hkk,HMS,HK⟩
   ·
    obtain rfl:m = -1:=hm
    have HE:=Lib.hid (HEND.out (.inl (by decide)))
    go_wp2_with (first
     | (refine wpList_wload_mid rfl 38 (.tmp 1) rfl w.heap.size 0 rfl (xcells Y7) _ HR7.out.1 Tryz.underlying38 rfl HR7.out.2.1 ?_)
     | (refine wpList_store_mid rfl 38 (.tmp 2) (.tmp 23) rfl (w.heap.size+1) 0 (xcells Y7).toArray rfl rfl HR7.out.2.2.1 HR7.out.2.2.2.1 HR7.out.2.2.2.2 ?_))
    obtain ⟨W9,hW9⟩:∃ W9,W9=W7.setCells (w.heap.size+1) 0 (xcells Y7):=⟨_,rfl⟩
    have hd:=HF7.out.done
    rw [← hW9] at hd ⊢
    have hl:=xload hd.1
    refine bodyPost_ret (v:=.tuple #[xV Y7,.int .i64 (-1)]) (res_cell_tmp Tryz.results26 rfl rfl hl) rfl ⟨Y7,by rw [HE.out];rfl,Lib.hid (by rw [HE.out];exact hd.2)⟩
   ·
    have t0:decide (m<0)=false:=decide_eq_false (by omega)
    have t1:(m % 2 == 0)=true:=beq_iff_eq.2 hm2
    have t2:decide (m % 2=0)=true:=decide_eq_true hm2
    have HE:=Lib.hid (HEND.out (.inr hm2))
    have HHE:=Lib.hid he
    clear hm2 he
    go_wp2_with (first
     | (refine wpList_wload_mid rfl 38 (.tmp 1) rfl w.heap.size 0 rfl (xcells Y7) _ HR7.out.1 Tryz.underlying38 rfl HR7.out.2.1 ?_)
     | (refine wpList_store_mid rfl 38 (.tmp 2) (.tmp 27) rfl (w.heap.size+1) 0 (xcells Y7).toArray rfl rfl HR7.out.2.2.1 HR7.out.2.2.2.1 HR7.out.2.2.2.2 ?_))
    obtain ⟨W9,hW9⟩:∃ W9,W9=W7.setCells (w.heap.size+1) 0 (xcells Y7):=⟨_,rfl⟩
    have hd:=HF7.out.done
    rw [← hW9] at hd ⊢
    have hl:=xload hd.1
    refine bodyPost_ret (v:=.tuple #[xV Y7,.int .i64 (m / 2)]) (res_cell_tmp Tryz.results26 rfl rfl hl) rfl ⟨Y7,by rw [HE.out,← HHE.out],Lib.hid (by rw [HE.out];exact hd.2)⟩
   ·
    have t0:decide (m<0)=false:=decide_eq_false (by omega)
    have t1:(m % 2 == 0)=false:=beq_eq_false_iff_ne.2 (by omega)
    have t2:decide (m % 2=0)=false:=decide_eq_false (by omega)
    have HD2:=Lib.hid hm2
    clear hm2
    have HKK:=Lib.hid hkk
    clear hkk
    go_wp2_with fail
    go_roundw
    case rel=>exact ⟨kk,by rw [HKK.out],HK.out _ _ HF7.out⟩
    case measure=>show 9 - (grOf S ((m / 2)).toNat).deep<9 - (grOf S ((g:Int)).toNat).deep;rw [HKK.out,Int.toNat_natCast,Int.toNat_natCast];exact HMS.out
end
end Go.Proofs.YtefekboacghnjaaGreat
namespace Go.Proofs.YtefekboacghnjaaGreat
open Go.RowKit Go.Maps
def wayG:Nat→HS→Nat→List Nat
 | 0,_,_=>[]
 | n+1,S,g=>match S.G g with
  | none=>[g]
  | some x=>if x.q.cur<0∨x.q.cur % 2=0 then [g] else g::wayG n S (x.q.cur / 2).toNat
theorem wayG_ends {n:Nat} {S:HS} {g:Nat} {x:Gr} (hx:S.G g=some x) (h:x.q.cur<0∨x.q.cur % 2=0):wayG (n+1) S g=[g]:=by
 unfold wayG
 rw [hx]
 exact if_pos h
theorem wayG_goes {n:Nat} {S:HS} {g:Nat} {x:Gr} (hx:S.G g=some x) (h:¬(x.q.cur<0∨x.q.cur % 2=0)):wayG (n+1) S g=g::wayG n S (x.q.cur / 2).toNat:=by
 show (match S.G g with | none=>[g] | some x=>if x.q.cur<0∨x.q.cur % 2=0 then [g] else g::wayG n S (x.q.cur / 2).toNat)=_
 rw [hx]
 exact if_neg h
structure RowG (w:World) (B:Nat) (v:Value) (L:List Nat):Prop where
 ex:∃ b c,v=.slice (some ⟨b,0,none⟩) L.length c∧B≤b∧b<w.heap.size∧∀ j,j<L.length→w.cell? ⟨b,j,none⟩=some (.int .i64 ((L.getD j 0:Nat):Int))
theorem infoInt:(Tryz.prog.info? 3).map (fun i=>(i.zero,i.size,i.bytes))=some (some (.int .i64 0),1,8):=by kernel_rfl
theorem own_slice {w:World} {base n:Nat} {v:Value} {xs:List Value} {e:TypeId} (h:w.ownsRow base e 1 v (n+1) xs):∃ b c,v=.slice (some ⟨b,0,none⟩) (n+1) c∧base≤b∧b<w.heap.size∧∀ j u,xs[j]?=some u→w.cell? ⟨b,j,none⟩=some u:=by
 rcases h.2 with ⟨_,h0⟩ | ⟨g,cap,cur,rfl,hb,hg,_,_,_,hc⟩
 · omega
 ·
  refine ⟨g,cap,rfl,hb,(Array.getElem?_eq_some_iff.1 hg).1,fun j u hu=>?_⟩
  have:=h.cells (g:=g) rfl j u hu
  rw [addr_add,Nat.zero_add] at this
  exact this
theorem own_first (w:World) (v:Value) (t:TypeId) (B:Nat) (hB:B≤w.heap.size):(w.alloc (.cells #[v] t)).ownsRow B t 1 (.slice (some ⟨w.heap.size,0,none⟩) 1 1) 1 [v] :=
 ⟨rfl,.inr ⟨w.heap.size,1,#[v],rfl,hB,Blk.new w #[v] t,by omega,by unfold maxLen;omega,rfl,rfl⟩⟩
def WayPost (W w':World) (m:Int) (L:List Nat) (r:Ending):Prop:=∃ v,r=.returned (.tuple #[v,.int .i64 (endI m)])∧Below W.heap.size W w'∧(¬m<0→RowG w' W.heap.size v L)
def lenV:Value→Nat
 | .slice _ n _=>n
 | _=>0
section
variable {w:World} {S:HS} {X:XH}
set_option maxRecDepth 100000 in
set_option maxHeartbeats 16000000 in
theorem xway_any (a:XAt w S X) (H:HGood S) {W:World} (kW:Below w.heap.size w W) :
  Calls Tryz.prog 27 #[xV X] W fun r w'=>WayPost W w' (wayF curN 9 S 0).2 (wayG 9 S 0) r:=by
 obtain ⟨i0,hi,iz0,iz1,iz2⟩:=info_parts infoInt
 obtain ⟨W1,hW1,hB1,hbx,hs1⟩:=xbox W X
 obtain ⟨rt,hrt,_,hrd⟩:=H.inv.tree.root
 obtain ⟨P,hP⟩:∃ P,P=(wayF curN 9 S 0).2:=⟨_,rfl⟩
 obtain ⟨LL,hLL⟩:∃ LL,LL=wayG 9 S 0:=⟨_,rfl⟩
 rw [← hP,← hLL]
 have HW:=Lib.hid hW1
 have HX:=Lib.hid (And.intro a H)
 have H0:Hid (∃ (n:Nat) (x:Gr),S.G 0=some x∧x.deep=0∧x.deep+n=9∧P=(wayF curN n S 0).2∧LL=[]++wayG n S 0):=Lib.hid ⟨9,rt,hrt,hrd,by omega,hP,hLL⟩
 have HB:=Lib.hid (And.intro hB1 (And.intro hbx hs1))
 clear hW1 hB1 hbx hs1 hrt hrd hP hLL a H kW
 show Calls Tryz.prog _ #[.agg (xcells X).toArray] W _
 go_enter Tryz.func27,Tryz.ntmps27
 go_wp2_with fail
 rw [← HW.out]
 go_loopw [4] (fun s4 wr=>∃ (k g bl cl:Nat),s4=.slice (some ⟨bl,0,none⟩) (k+1) cl∧Hid (∃ (ls:List Nat) (n:Nat) (x:Gr),ls.length=k∧S.G g=some x∧x.deep=k∧x.deep+n=9∧P=(wayF curN n S g).2∧LL=ls++wayG n S g ∧
   Below W1.heap.size W1 wr∧wr.ownsRow (W.heap.size+1) 3 1 (.slice (some ⟨bl,0,none⟩) (k+1) cl) (k+1) ((ls++[g]).map fun q=>.int .i64 ((q:Nat):Int)))) (fun s4 _=>10 - lenV s4)
 case atStart =>
  obtain ⟨n,x,h1,h2,h3,h4,h5⟩:=H0.out
  have ho:=own_first W1 (.int .i64 0) 3 (W.heap.size+1) (by have:=HB.out.2.2;omega)
  rw [HB.out.2.2] at ho
  exact ⟨0,0,W.heap.size+1,1,rfl,Lib.hid ⟨[],n,x,rfl,h1,h2,h3,h4,h5,(Below.refl _ _).alloc (Nat.le_refl _) _,ho⟩⟩
 case round =>
  obtain ⟨k,g,bl,cl,rfl,HR⟩:=hrel
  obtain ⟨ls,n,x,hk,hx,hdx,hdn,hP,hLL,hb,hown⟩:=HR.out
  have hg:=HX.out.2.inv.tree.lt hx
  have hd8:=HX.out.2.inv.tree.deep g x hx
  have hok:=HX.out.2.inv.qok g x hx
  have bx:=HB.out.2.1.below hb
  have q1:=(bx.q hg).2.1
  rw [(HX.out.1.is g x hx).2.1] at q1
  obtain ⟨b,c,he,hbase,hblt,hcells⟩:=own_slice hown
  injection he with he _ he2
  injection he with he
  injection he with he _ _
  subst he he2
  have cg:wr.cell? ⟨bl,k,none⟩=some (.int .i64 (g:Int)):=hcells k _ (by subst hk;simp)
  obtain ⟨n',hn'⟩:∃ n',n=n'+1:=⟨n - 1,by omega⟩
  subst hn'
  have hce:=curN_eq hx
  have hcur:=hok.cur
  have HRW:=Lib.hid (show x.q.cur<0∨x.q.cur % 2=0→P=x.q.cur∧LL=ls++[g] from fun h=>⟨by rw [hP,wayF_ends hce h],by rw [hLL,wayG_ends hx h]⟩)
  have HROW:Hid (LL=ls++[g]→RowG wr W.heap.size (.slice (some ⟨bl,0,none⟩) (k+1) cl) LL):=Lib.hid fun h=>by
   have hl:LL.length=k+1:=by rw [h,List.length_append,hk];rfl
   refine ⟨⟨bl,cl,by rw [hl],by omega,hblt,fun j hj=>hcells j _ ?_⟩⟩
   rw [← h,List.getElem?_map,List.getElem?_eq_getElem hj,List.getD_eq_getElem?_getD,List.getElem?_eq_getElem hj]
   rfl
  have HBL:=Lib.hid (show Below W.heap.size W wr from HB.out.1.trans (hb.mono HB.out.1.size))
  have hc3:x.q.cur = -1∨(0≤x.q.cur∧x.q.cur≤1000∧x.q.cur % 2=0)∨(0≤x.q.cur∧x.q.cur≤1000∧x.q.cur % 2=1∧∃ (kk:Nat) (y:Gr),x.q.cur / 2=(kk:Int)∧S.G kk=some y∧y.deep=k+1∧P=(wayF curN n' S kk).2∧LL=(ls++[g])++wayG n' S kk):=by
   rcases hcur with e | hmm
   · exact .inl e
   ·
    rcases HX.out.2.chosen hx hmm with ⟨t,ht,e⟩ | ⟨kk,y,e,_,hkk,hkg,hy,_,_,hdy⟩
    · exact .inr (.inl ⟨by omega,by omega,by omega⟩)
    ·
     refine .inr (.inr ⟨by omega,by omega,by omega,kk,y,by omega,hy,by omega,?_,?_⟩)
     · rw [hP,wayF_goes hce (by omega),e,half]
     ·
      rw [hLL,wayG_goes hx (by omega),e,half,List.append_assoc]
      rfl
  have HO:=Lib.hid (And.intro hown (And.intro hb (And.intro hk hdn)))
  have HDX:=Lib.hid hdx
  have k0:(0:Int)≤(k:Int):=by omega
  have k1:(k:Int)≤8:=by omega
  have kk8:k≤8:=by omega
  have g0:(0:Int)≤(g:Int):=by omega
  have g1:(g:Int)<32:=by omega
  have g2:decide (g<32)=true:=decide_eq_true hg
  obtain ⟨cu,hcu⟩:∃ cu,cu=x.q.cur:=⟨_,rfl⟩
  rw [← hcu] at q1 hc3
  have hrwa:=HRW.out
  rw [← hcu] at hrwa
  have HRV:=Lib.hid hrwa
  clear hrwa HRW
  clear HR hx hdx hP hLL hb hown hg hd8 hok bx hbase hblt hcells hce hcur hcu hk hdn
  rcases hc3 with hm | ⟨m0,m1,hm2⟩ | ⟨m0,m1,hm2,kk,y,hkk,hy,hdy,hP,hLL⟩
  ·
   obtain rfl:cu = -1:=hm
   have HE:=Lib.hid (HRV.out (.inl (by decide)))
   clear HRV
   go_wp2_with fail
   go_ret2
   have HP:WayPost W wr P LL (.returned (.tuple #[.slice none 0 0,.int .i64 (-1)])):=⟨_,by rw [HE.out.1];rfl,HBL.out,fun h=>absurd (by rw [HE.out.1];decide) h⟩
   exact HP
  ·
   have t0:decide (cu<0)=false:=decide_eq_false (by omega)
   have t1:(cu % 2 == 0)=true:=beq_iff_eq.2 hm2
   have t2:decide (cu % 2=0)=true:=decide_eq_true hm2
   have HE:=Lib.hid (HRV.out (.inr hm2))
   have HHE:=Lib.hid (show endI cu=cu / 2 by unfold endI;rw [if_neg (by omega)])
   clear hm2 HRV
   go_wp2_with fail
   go_ret2
   have HP:WayPost W wr P LL (.returned (.tuple #[.slice (some ⟨bl,0,none⟩) (k+1) cl,.int .i64 (cu / 2)])):=⟨_,by rw [HE.out.1,HHE.out],HBL.out,fun _=>HROW.out HE.out.2⟩
   exact HP
  ·
   have t0:decide (cu<0)=false:=decide_eq_false (by omega)
   have t1:(cu % 2 == 0)=false:=beq_eq_false_iff_ne.2 (by omega)
   have t2:decide (cu % 2=0)=false:=decide_eq_false (by omega)
   have HN:=Lib.hid (And.intro hkk (And.intro hy (And.intro hdy (And.intro hP hLL))))
   clear hm2 hkk hy hdy hP hLL HRV HROW
   go_wp2_with (at_builtin;refine wpList_append_own _ rfl (.tmp 25) (.tmp 28) 72 rfl (W.heap.size+1) 3 i0 _ 1 8 Tryz.underlying72 hi iz0 iz1 iz2 rfl (by decide) _ (k+1) _ rfl (HO.out.1.alloc _) ⟨wr.heap.size,0,none⟩ 1 1 [.int .i64 (cu / 2)] rfl rfl (cell_one_new _ _ _) (by simp [Value.oneCell']) (by unfold maxLen;omega) (by omega) (by have:=HBL.out.size;have:=HB.out.2.2;have:=HO.out.2.1.size;simp;omega) ?_;intro v' w3 hown3 hgrow3 _;obtain ⟨bl2,cl2,rfl,_,_,_⟩:=own_slice hown3;have HO3:=Lib.hid (And.intro hown3 hgrow3);clear hown3 hgrow3)
   go_roundw
   case rel=>exact ⟨k+1,kk,bl2,cl2,rfl,Lib.hid ⟨ls++[g],n',y,by rw [List.length_append,HO.out.2.2.1];rfl,HN.out.2.1,HN.out.2.2.1,by have:=HO.out.2.2.2;have:=HN.out.2.2.1;have:=HDX.out;omega,HN.out.2.2.2.1,HN.out.2.2.2.2,(HO.out.2.1.alloc HO.out.2.1.size _).grown HO3.out.2 (by simp;have:=HO.out.2.1.size;omega) (fun b hb=>by
    have:=(HO.out.1.lt b hb).1
    have:=HB.out.2.2
    omega),by
    have h:=HO3.out.1
    rw [HN.out.1] at h
    rw [List.map_append]
    exact h⟩⟩
   case measure=>show 10 - (k+1+1)<10 - (k+1);omega
end
end Go.Proofs.YtefekboacghnjaaGreat
namespace Go.Proofs.YtefekboacghnjaaGreat
open Go.RowKit Go.Maps
def chG (ns:Nat) (S:HS) (g:Nat):HS:=match S.G g with
 | none=>S
 | some x=>S.put g (some { x with q:=chargeQ x.q ns })
theorem chG_eq {ns:Nat} {S:HS} {g:Nat} {x:Gr} (hx:S.G g=some x):chG ns S g=S.put g (some { x with q:=chargeQ x.q ns }):=by unfold chG;rw [hx]
theorem wayG_congr:∀ (n:Nat) (S S':HS) (g:Nat),(∀ j,(S'.G j).map (·.q.cur)=(S.G j).map (·.q.cur))→wayG n S' g=wayG n S g
 | 0,_,_,_,_=>rfl
 | n+1,S,S',g,h=>by
  have hg:=h g
  cases hx:S.G g with
  | none =>
   rw [hx] at hg
   cases hx':S'.G g with
   | none=>unfold wayG;rw [hx,hx']
   | some x'=>rw [hx'] at hg;simp at hg
  | some x =>
   rw [hx] at hg
   cases hx':S'.G g with
   | none=>rw [hx'] at hg;simp at hg
   | some x' =>
    rw [hx'] at hg
    have e:x'.q.cur=x.q.cur:=by simpa using hg
    by_cases hc:x.q.cur<0∨x.q.cur % 2=0
    · rw [wayG_ends hx hc,wayG_ends hx' (by rw [e];exact hc)]
    · rw [wayG_goes hx hc,wayG_goes hx' (by rw [e];exact hc),e,wayG_congr n S S' _ h]
theorem chG_cur {ns:Nat} {S:HS} {g:Nat} (j:Nat):((chG ns S g).G j).map (·.q.cur)=(S.G j).map (·.q.cur):=by
 cases hx:S.G g with
 | none=>unfold chG;rw [hx]
 | some x =>
  rw [chG_eq hx]
  by_cases hj:j=g
  ·
   subst hj
   rw [HS.put_same,hx]
   show some (chargeQ x.q ns).cur=some x.q.cur
   rw [chargeQ_cur]
  · rw [HS.put_other _ _ hj]
theorem chargeF_way (ns:Nat):∀ (n:Nat) (S:HS) (g:Nat),wayOk curN n S g→chargeF ns n S g=(wayG n S g).foldl (chG ns) S
 | 0,_,_,h=>(h:False).elim
 | n+1,S,g,⟨⟨x,hx⟩,_,_,h4⟩=>by
  rw [curN_eq hx] at h4
  show (match S.G g with
   | none=>S
   | some x=>if x.q.cur<0∨x.q.cur % 2=0 then S.put g (some { x with q:=chargeQ x.q ns }) else chargeF ns n (S.put g (some { x with q:=chargeQ x.q ns })) (x.q.cur / 2).toNat)=_
  rw [hx]
  dsimp only
  by_cases hc:x.q.cur<0∨x.q.cur % 2=0
  ·
   rw [if_pos hc,wayG_ends hx hc]
   exact (chG_eq hx).symm
  ·
   rw [if_neg hc,wayG_goes hx hc,List.foldl_cons,chG_eq hx]
   have h5:wayOk curN n S (x.q.cur / 2).toNat:=h4.resolve_left hc
   have hcur:∀ j,((S.put g (some { x with q:=chargeQ x.q ns })).G j).map (·.q.cur)=(S.G j).map (·.q.cur):=fun j=>by
    have:=chG_cur (ns:=ns) (S:=S) (g:=g) j
    rw [chG_eq hx] at this
    exact this
   have h6:wayOk curN n (S.put g (some { x with q:=chargeQ x.q ns })) (x.q.cur / 2).toNat:=wayOk_congr n _ _ _ (fun j y hy=>by
    have:=hcur j
    rw [hy] at this
    cases hz:(S.put g (some { x with q:=chargeQ x.q ns })).G j with
    | none=>rw [hz] at this;simp at this
    | some z=>rw [hz] at this;exact ⟨z,rfl,by simpa using this⟩) h5
   rw [chargeF_way ns n _ _ h6,wayG_congr n _ _ _ hcur]
theorem wayG_some:∀ (n:Nat) (S:HS) (g:Nat),wayOk curN n S g→∀ k,k ∈ wayG n S g→∃ y,S.G k=some y
 | 0,_,_,h=>(h:False).elim
 | n+1,S,g,⟨⟨x,hx⟩,_,_,h4⟩=>fun k hk=>by
  rw [curN_eq hx] at h4
  by_cases hc:x.q.cur<0∨x.q.cur % 2=0
  ·
   rw [wayG_ends hx hc,List.mem_singleton] at hk
   rw [hk]
   exact ⟨x,hx⟩
  ·
   rw [wayG_goes hx hc] at hk
   rcases List.mem_cons.1 hk with rfl | hk
   · exact ⟨x,hx⟩
   · exact wayG_some n S _ (h4.resolve_left hc) k hk
theorem wayG_len:∀ (n:Nat) (S:HS) (g:Nat),(wayG n S g).length≤n
 | 0,_,_=>Nat.le_refl _
 | n+1,S,g=>by
  show (match S.G g with | none=>[g] | some x=>if x.q.cur<0∨x.q.cur % 2=0 then [g] else g::wayG n S (x.q.cur / 2).toNat).length≤n+1
  split
  · simp
  ·
   split
   · simp
   ·
    have:=wayG_len n S
    rename_i x _ _
    have:=this (x.q.cur / 2).toNat
    rw [List.length_cons]
    omega
theorem chG_good {ns:Nat} {S:HS} (H:HGood S) (g:Nat):HGood (chG ns S g):=by
 cases hx:S.G g with
 | none=>unfold chG;rw [hx];exact H
 | some x =>
  rw [chG_eq hx]
  exact H.same hx (chargeQ_ok (H.inv.qok g x hx) ns) (chargeQ_ids _ _)
theorem chG_isSome {ns:Nat} {S:HS} {g k:Nat} (h:∃ y,S.G k=some y):∃ y,(chG ns S g).G k=some y:=by
 obtain ⟨y,hy⟩:=h
 have:=chG_cur (ns:=ns) (S:=S) (g:=g) k
 rw [hy] at this
 cases hz:(chG ns S g).G k with
 | none=>rw [hz] at this;simp at this
 | some z=>exact ⟨z,rfl⟩
theorem cell_heap {w w':World} {b:Nat} (e:w'.heap[b]?=w.heap[b]?) (j:Nat):w'.cell? ⟨b,j,none⟩=w.cell? ⟨b,j,none⟩:=by simp [World.cell?,e]
def ChargePost (w w':World) (X:XH) (S:HS) (ns:Nat) (r:Ending):Prop :=
 (runI 9 S = -1∧r=.returned (.tuple #[xV X,.int .i64 7])∧XTo w w' X X S) ∨
 (runI 9 S ≠ -1∧1000000000<ns∧r=.returned (.tuple #[xV X,.int .i64 8])∧XTo w w' X X S) ∨
 (runI 9 S ≠ -1∧¬1000000000<ns∧∃ X',r=.returned (.tuple #[xV X',.int .i64 0])∧XTo w w' X X' (chargeF ns 9 S 0))
section
variable {w:World} {S:HS} {X:XH}
set_option maxRecDepth 100000 in
set_option maxHeartbeats 32000000 in
theorem xcharge_any (a:XAt w S X) (H:HGood S) {ns:Nat} (hns:ns<18446744073709551616) :
  Calls Tryz.prog 23 #[xV X,.int .u64 ns] w fun r w'=>ChargePost w w' X S ns r:=by
 obtain ⟨W1,hW1,f,_⟩:=XFr.new a
 have hpk:=f.pack
 rw [hW1] at hpk
 have HR:=Lib.hid hpk
 have MW:=Lib.hid (xway_any a H f.bel)
 have hway:=H.cur0
 have HF:=Lib.hid (And.intro f (And.intro a (And.intro H hway)))
 have HW:=Lib.hid hW1
 obtain ⟨P,hP⟩:∃ P,P=(wayF curN 9 S 0).2:=⟨_,rfl⟩
 have MW:=MW.out
 rw [← hP] at MW
 have MW:=Lib.hid MW
 have HPP:=Lib.hid hP
 have hPr:endI P=runI 9 S:=by rw [hP];rfl
 have HPR:=Lib.hid hPr
 clear hpk f hW1 a H hP hPr hway
 show Calls Tryz.prog _ #[.agg (xcells X).toArray,.int .u64 ns] w _
 go_enter Tryz.func23,Tryz.ntmps23
 go_wp2_with (refine wpList_wload_mid rfl 38 (.tmp 2) rfl w.heap.size 0 rfl (xcells X) _ HR.out.1 Tryz.underlying38 rfl HR.out.2.1 ?_)
 rw [← HW.out]
 refine MW.out.mono ?_
 rintro r w2 ⟨l,rfl,hb,hrow⟩
 have f2:=HF.out.1.below hb
 have HF2:=Lib.hid f2
 have HR2:=Lib.hid f2.pack
 have HROW:=Lib.hid hrow
 clear f2 hb hrow HW
 by_cases hneg:P<0
 ·
  have he:endI P = -1:=by unfold endI;rw [if_pos hneg]
  rw [he]
  have HE:=Lib.hid (show runI 9 S = -1 by rw [← HPR.out];exact he)
  clear he hneg
  go_wp2_with (first
   | (refine wpList_wload_mid rfl 38 (.tmp 2) rfl w.heap.size 0 rfl (xcells X) _ HR2.out.1 Tryz.underlying38 rfl HR2.out.2.1 ?_)
   | (refine wpList_store_mid rfl 38 (.tmp 4) (.tmp 18) rfl (w.heap.size+1) 0 (xcells X).toArray rfl rfl HR2.out.2.2.1 HR2.out.2.2.2.1 HR2.out.2.2.2.2 ?_))
  obtain ⟨W9,hW9⟩:∃ W9,W9=w2.setCells (w.heap.size+1) 0 (xcells X):=⟨_,rfl⟩
  have hd:=HF2.out.done
  rw [← hW9] at hd ⊢
  have hl:=xload hd.1
  refine bodyPost_ret (v:=.tuple #[xV X,.int .i64 7]) (res_cell_tmp Tryz.results23 rfl rfl hl) rfl (.inl ⟨HE.out,rfl,hd.2⟩)
 ·
  have hge:0≤endI P:=by unfold endI;rw [if_neg hneg];omega
  have hne:runI 9 S ≠ -1:=by rw [← HPR.out];omega
  obtain ⟨m,hm⟩:∃ m,m=endI P:=⟨_,rfl⟩
  rw [← hm] at hge ⊢
  have t0:decide (m<0)=false:=decide_eq_false (by omega)
  have HNE:=Lib.hid hne
  have hR:=HROW.out hneg
  clear hm hge hne hneg
  by_cases hbig:1000000000<ns
  ·
   have t1:decide ((1000000000:Int)<(ns:Int))=true:=decide_eq_true (by omega)
   have t2:decide (1000000000<ns)=true:=decide_eq_true hbig
   have HB:=Lib.hid hbig
   clear hbig hR
   go_wp2_with (first
    | (refine wpList_wload_mid rfl 38 (.tmp 2) rfl w.heap.size 0 rfl (xcells X) _ HR2.out.1 Tryz.underlying38 rfl HR2.out.2.1 ?_)
    | (refine wpList_store_mid rfl 38 (.tmp 4) (.tmp 21) rfl (w.heap.size+1) 0 (xcells X).toArray rfl rfl HR2.out.2.2.1 HR2.out.2.2.2.1 HR2.out.2.2.2.2 ?_))
   obtain ⟨W9,hW9⟩:∃ W9,W9=w2.setCells (w.heap.size+1) 0 (xcells X):=⟨_,rfl⟩
   have hd:=HF2.out.done
   rw [← hW9] at hd ⊢
   have hl:=xload hd.1
   refine bodyPost_ret (v:=.tuple #[xV X,.int .i64 8]) (res_cell_tmp Tryz.results23 rfl rfl hl) rfl (.inr (.inl ⟨HNE.out,HB.out,rfl,hd.2⟩))
  ·
   have t1:decide ((1000000000:Int)<(ns:Int))=false:=decide_eq_false (by omega)
   have t2:decide (1000000000<ns)=false:=decide_eq_false hbig
   have HB:=Lib.hid hbig
   clear hbig
   obtain ⟨L,hL⟩:∃ L,L=wayG 9 S 0:=⟨_,rfl⟩
   rw [← hL] at hR
   obtain ⟨bL,cL,rfl,hbL,hltL,hcL⟩:=hR.ex
   have HLL:=Lib.hid (And.intro hL (And.intro hbL (And.intro hltL hcL)))
   obtain ⟨ln,hln⟩:∃ ln,ln=L.length:=⟨_,rfl⟩
   have HLN:=Lib.hid hln
   rw [← hln]
   have hln9:ln≤9:=by rw [hln,hL];exact wayG_len 9 S 0
   clear hL hR hbL hltL hcL hln
   go_wp2_with fail
   go_loopw [8] (fun s8 wr=>∃ i:Nat,s8=.int .i64 (i:Int)∧i≤ln∧Hid (∃ (Y:XH) (S1:HS),XFr 1 1 w wr X Y S1∧HGood S1∧S1=(L.take i).foldl (chG ns) S∧(∀ k,k ∈ L→∃ y,S1.G k=some y)∧wr.heap[bL]?=w2.heap[bL]? ∧ w2.heap.size≤wr.heap.size)) (fun s8 _=>ln - (intOf s8).toNat)
   case atStart =>
    refine ⟨0,rfl,by omega,Lib.hid ⟨X,S,HF2.out,HF.out.2.2.1,rfl,fun k hk=>?_,rfl,Nat.le_refl _⟩⟩
    rw [HLL.out.1] at hk
    exact wayG_some 9 S 0 HF.out.2.2.2 k hk
   case round =>
    obtain ⟨i,rfl,hi,HR⟩:=hrel
    obtain ⟨Y,S1,f,H,hS1,hall,hbq,hsz⟩:=HR.out
    by_cases hlt:i<ln
    ·
     have hlt2:i<L.length:=by rw [← HLN.out];exact hlt
     obtain ⟨g,hg⟩:∃ g,g=L.getD i 0:=⟨_,rfl⟩
     have hcl:wr.cell? ⟨bL,i,none⟩=some (.int .i64 (g:Int)):=by
      rw [cell_heap hbq,HLL.out.2.2.2 i hlt2,hg]
     have hgm:g ∈ L:=by
      rw [hg,List.getD_eq_getElem?_getD,List.getElem?_eq_getElem hlt2]
      exact List.getElem_mem _
     obtain ⟨x,hx⟩:=hall g hgm
     have hg32:=H.inv.tree.lt hx
     have hok:=H.inv.qok g x hx
     have hq:=(f.at_.is g x hx).2.1
     have hled:=led_charge (f.at_.led g x hx) ns
     have MP:=fun (W:World) (hW:RQ W W.heap.size (Y.g g).A (Y.g g).c x.q.L)=>rf_charge (Y.g g).A (Y.g g).c x.q hok ns hns W hW
     have hnx:chG ns S1 g=S1.put g (some { x with q:=chargeQ x.q ns }):=chG_eq hx
     have htk:(L.take (i+1)).foldl (chG ns) S=chG ns S1 g:=by
      rw [hS1,hg,List.take_succ_eq_append_getElem hlt2,List.foldl_append,List.getD_eq_getElem?_getD,List.getElem?_eq_getElem hlt2]
      rfl
     have HNX:=Lib.hid (And.intro htk (And.intro (chG_good (ns:=ns) H g) (And.intro hnx (fun k (hk:k ∈ L)=>chG_isSome (ns:=ns) (g:=g) (hall k hk)))))
     have hr:=f.at_.row g hg32
     rw [hq] at hr
     obtain ⟨q0,q1,q2',q3⟩:=f.box.q hg32
     rw [hq] at q0 q1 q2' q3
     generalize chargeQ x.q ns=q2 at *
     generalize chargeC x.q ns=pc at *
     obtain ⟨m2,hm2⟩:∃ m2,m2=q2.L.length:=⟨_,rfl⟩
     rw [← hm2] at MP
     have MP2:=Lib.hid (MP wr hr)
     have HP:=Lib.hid (And.intro hx (And.intro hg32 (And.intro hq (And.intro hled (And.intro hm2 (And.intro hbq hsz))))))
     have HF4:=Lib.hid f
     have i0:(0:Int)≤(i:Int):=by omega
     have i1:(i:Int)<(ln:Int):=by omega
     have i2:decide (i<ln)=true:=decide_eq_true hlt
     have i3:decide ((i:Int)<(ln:Int))=true:=decide_eq_true i1
     have g0:(0:Int)≤(g:Int):=by omega
     have g1:(g:Int)<32:=by omega
     have g2:decide (g<32)=true:=decide_eq_true hg32
     have HLT:=Lib.hid hlt
     clear HR f H hS1 hall hbq hsz hi hg hgm hx hg32 hok hq hled MP hnx htk hr hm2 hlt2
     generalize x.q.L.length=ml at *
     go_wp2_with fail
     refine MP2.out.mono ?_
     rintro r w5 ⟨A5,c5,rfl,H5⟩
     go_upto_region 10 with (fail)
     obtain ⟨W6,hW6⟩:∃ W6,W6=w5.alloc (.cells #[.slice A5 m2 c5,.int .i64 q2.cur,.int .i64 q2.mn,.bool q2.over] 29):=⟨_,rfl⟩
     have hx6:Blk W6 w5.heap.size #[.slice A5 m2 c5,.int .i64 q2.cur,.int .i64 q2.mn,.bool q2.over] 29:=by rw [hW6];exact Blk.new _ _ _
     have hr6:RfRes wr W6 (Y.g g).A A5 c5 x.q q2:=(H5.out).later (by rw [hW6];exact (Below.refl _ _).alloc (Nat.le_refl _) _)
     rw [← hW6]
     have hr7:=hr6
     rw [← HP.out.2.2.1] at hr7
     have f7:=(HF4.out.queue HP.out.1 HP.out.2.1 hr7 HP.out.2.2.2.1 (Below.refl _ _) HP.out.2.2.2.2.1).below (Below.refl _ _).drew
     have f6:=HF4.out.below hr6.res.bel
     have hltw:bL<wr.heap.size:=Nat.lt_of_lt_of_le HLL.out.2.2.1 HP.out.2.2.2.2.2.2
     have hcl6:W6.cell? ⟨bL,i,none⟩=some (.int .i64 (g:Int)):=(hr6.res.bel.cell (p:=⟨bL,i,none⟩) hltw).trans hcl
     have hbq6:W6.heap[bL]?=w2.heap[bL]?:=(hr6.res.bel.block bL hltw).trans HP.out.2.2.2.2.2.1
     have hsz6:w2.heap.size≤W6.heap.size:=Nat.le_trans HP.out.2.2.2.2.2.2 hr6.res.bel.size
     obtain ⟨y0,y1,y2,y3⟩:=f6.box.q HP.out.2.1
     have yf:=f6.box.frozen
     have x0:W6.cell? ⟨w5.heap.size,0,none⟩=some (.slice A5 m2 c5):=Blk.cell hx6 0
     have x1:W6.cell? ⟨w5.heap.size,1,none⟩=some (.int .i64 q2.cur):=Blk.cell hx6 1
     have x2:W6.cell? ⟨w5.heap.size,2,none⟩=some (.int .i64 q2.mn):=Blk.cell hx6 2
     have x3:W6.cell? ⟨w5.heap.size,3,none⟩=some (.bool q2.over):=Blk.cell hx6 3
     have hbne:bL≠w.heap.size:=by
      have:=HLL.out.2.1
      have:=HF.out.1.lt
      omega
     have HF7:=Lib.hid (And.intro f7 (And.intro hbq6 (And.intro hsz6 hbne)))
     clear f6 hW6 hx6 hr6 hr7 f7 H5 q0 q1 q2' q3 MP2 hcl hltw hbq6 hsz6 hbne
     go_still_tail 7,(by kernel_rfl)
     change wpList _ _ _ _ _ W6.drew
     go_upto_region 8 with (fail)
     obtain ⟨W7,hW7,f7⟩:∃ W7,W7=_∧XFr 1 1 w W7 X _ _:=⟨_,rfl,HF7.out.1⟩
     rw [← hW7]
     have hb7:W7.heap[bL]?=w2.heap[bL]?:=by rw [hW7];exact (four_oth _ _ _ _ _ _ _ HF7.out.2.2.2).trans HF7.out.2.1
     have hs7:w2.heap.size≤W7.heap.size:=by rw [hW7];show _≤((((W6.setCell _ _).setCell _ _).setCell _ _).setCell _ _).heap.size;rw [four_siz];exact HF7.out.2.2.1
     have H7:=Lib.hid (And.intro f7 (And.intro hb7 hs7))
     clear hW7 y0 y1 y2 y3 yf x0 x1 x2 x3 HF7 hcl6 f7 hb7 hs7
     go_wp2_with fail
     go_roundw
     case rel =>
      have f9:=H7.out.1
      rw [← HNX.out.2.2.1] at f9
      exact ⟨i+1,by go_num,HLT.out,Lib.hid ⟨_,chG ns S1 g,f9,HNX.out.2.1,HNX.out.1.symm,HNX.out.2.2.2,H7.out.2.1,H7.out.2.2⟩⟩
     case measure=>have:=HLT.out;simp [intOf];omega
    ·
     obtain rfl:i=ln:=by omega
     have hfin:S1=chargeF ns 9 S 0:=by
      rw [chargeF_way ns 9 S 0 HF.out.2.2.2,← HLL.out.1,hS1,HLN.out,List.take_length]
     rw [hfin] at f
     have i3:decide ((i:Int)<(i:Int))=false:=decide_eq_false (by omega)
     have HF7:=Lib.hid f
     have HR7:=Lib.hid f.pack
     clear HR f H hS1 hall hbq hsz hi hlt hfin
     go_wp2_with (first
      | (refine wpList_wload_mid rfl 38 (.tmp 2) rfl w.heap.size 0 rfl (xcells Y) _ HR7.out.1 Tryz.underlying38 rfl HR7.out.2.1 ?_)
      | (refine wpList_store_mid rfl 38 (.tmp 4) (.tmp 47) rfl (w.heap.size+1) 0 (xcells Y).toArray rfl rfl HR7.out.2.2.1 HR7.out.2.2.2.1 HR7.out.2.2.2.2 ?_))
     obtain ⟨W9,hW9⟩:∃ W9,W9=wr.setCells (w.heap.size+1) 0 (xcells Y):=⟨_,rfl⟩
     have hd:=HF7.out.done
     rw [← hW9] at hd ⊢
     have hl:=xload hd.1
     refine bodyPost_ret (v:=.tuple #[xV Y,.int .i64 0]) (res_cell_tmp Tryz.results23 rfl rfl hl) rfl (.inr (.inr ⟨HNE.out,HB.out,Y,rfl,hd.2⟩))
end
end Go.Proofs.YtefekboacghnjaaGreat
namespace Go.Proofs.YtefekboacghnjaaGreat
open Go.RowKit Go.Maps
theorem wayG_last:∀ (n:Nat) (S:HS) (g:Nat),wayOk curN n S g→(wayG n S g).getD ((wayG n S g).length - 1) 0=lastG n S g∧0<(wayG n S g).length
 | 0,_,_,h=>(h:False).elim
 | n+1,S,g,⟨⟨x,hx⟩,_,_,h4⟩=>by
  rw [curN_eq hx] at h4
  dsimp only at h4
  have hl:lastG (n+1) S g=if x.q.cur<0∨x.q.cur % 2=0 then g else lastG n S (x.q.cur / 2).toNat:=by
   show (match S.G g with | none=>g | some x=>if x.q.cur<0∨x.q.cur % 2=0 then g else lastG n S (x.q.cur / 2).toNat)=_
   rw [hx]
  rw [hl]
  by_cases hc:x.q.cur<0∨x.q.cur % 2=0
  ·
   rw [wayG_ends hx hc,if_pos hc]
   exact ⟨rfl,by simp⟩
  ·
   rw [wayG_goes hx hc,if_neg hc]
   obtain ⟨h1,h2⟩:=wayG_last n S _ (h4.resolve_left hc)
   refine ⟨?_,by simp⟩
   rw [List.length_cons,Nat.add_sub_cancel,← h1]
   obtain ⟨k,hk⟩:∃ k,(wayG n S (x.q.cur / 2).toNat).length=k+1:=⟨(wayG n S (x.q.cur / 2).toNat).length - 1,by omega⟩
   rw [hk,Nat.add_sub_cancel]
   rfl
section
variable {w:World} {S:HS} {X:XH}
set_option maxRecDepth 100000 in
set_option maxHeartbeats 32000000 in
theorem xyield_any (a:XAt w S X) (H:HGood S) :
  Calls Tryz.prog 25 #[xV X] w fun r w'=>∃ X',r=.returned (.tuple #[xV X',.int .i64 (yieldHI 9 S)])∧Hid (XTo w w' X X' (yieldH 9 S)):=by
 obtain ⟨W1,hW1,f,_⟩:=XFr.new a
 have hpk:=f.pack
 rw [hW1] at hpk
 have HR:=Lib.hid hpk
 have mw:=xway_any a H f.bel
 have hway:=H.cur0
 have HF:=Lib.hid (And.intro f (And.intro a (And.intro H hway)))
 have HW:=Lib.hid hW1
 obtain ⟨P,hP⟩:∃ P,P=(wayF curN 9 S 0).2:=⟨_,rfl⟩
 rw [← hP] at mw
 have MW:=Lib.hid mw
 have hPr:endI P=runI 9 S:=by rw [hP];rfl
 have HPR:=Lib.hid hPr
 clear hpk f hW1 a H hP hPr hway mw
 show Calls Tryz.prog _ #[.agg (xcells X).toArray] w _
 go_enter Tryz.func25,Tryz.ntmps25
 go_wp2_with (refine wpList_wload_mid rfl 38 (.tmp 1) rfl w.heap.size 0 rfl (xcells X) _ HR.out.1 Tryz.underlying38 rfl HR.out.2.1 ?_)
 rw [← HW.out]
 refine MW.out.mono ?_
 rintro r w2 ⟨l,rfl,hb,hrow⟩
 have f2:=HF.out.1.below hb
 have HF2:=Lib.hid f2
 have HR2:=Lib.hid f2.pack
 have HROW:=Lib.hid hrow
 clear f2 hb hrow HW MW
 by_cases hneg:P<0
 ·
  have he:endI P = -1:=by unfold endI;rw [if_pos hneg]
  rw [he]
  have hE:runI 9 S = -1:=by rw [← HPR.out];exact he
  obtain ⟨pv,hpv⟩:∃ pv,pv=pickHI 9 S:=⟨_,rfl⟩
  have HPV:=Lib.hid (show yieldHI 9 S=pv by unfold yieldHI;rw [if_pos hE,hpv])
  have HPV2:=Lib.hid (show yieldH 9 S=pickH 9 S by unfold yieldH;rw [if_pos hE])
  have MPK:=Lib.hid fun W Y (hY:XAt W S Y)=>(by
   have:=xpick_any hY HF.out.2.2.1
   rw [← hpv] at this
   exact this:Calls Tryz.prog 26 #[xV Y] W fun r w'=>∃ X',r=.returned (.tuple #[xV X',.int .i64 pv])∧Hid (XTo W w' Y X' (pickH 9 S)))
  clear he hneg hE hpv
  go_wp2_with (refine wpList_wload_mid rfl 38 (.tmp 1) rfl w.heap.size 0 rfl (xcells X) _ HR2.out.1 Tryz.underlying38 rfl HR2.out.2.1 ?_)
  refine (MPK.out w2 X HF2.out.at_).mono ?_
  rintro r w8 ⟨Y8,rfl,H8⟩
  have HR8:=Lib.hid (HF2.out.pack2 H8.out.bel Y8)
  have hd:=HF2.out.done2 H8.out
  clear MPK H8
  go_wp2_with (refine wpList_store_mid rfl 38 (.tmp 2) (.tmp 38) rfl (w.heap.size+1) 0 (xcells Y8).toArray rfl rfl HR8.out.2.2.1 HR8.out.2.2.2.1 HR8.out.2.2.2.2 ?_)
  obtain ⟨W9,hW9⟩:∃ W9,W9=w8.setCells (w.heap.size+1) 0 (xcells Y8):=⟨_,rfl⟩
  rw [← hW9] at hd ⊢
  have hl:=xload hd.1
  refine bodyPost_ret (v:=.tuple #[xV Y8,.int .i64 pv]) (res_cell_tmp Tryz.results25 rfl rfl hl) rfl ⟨Y8,by rw [HPV.out],Lib.hid (by rw [HPV2.out];exact hd.2)⟩
 ·
  have hge:0≤endI P:=by unfold endI;rw [if_neg hneg];omega
  have hne:runI 9 S ≠ -1:=by rw [← HPR.out];omega
  obtain ⟨m,hm⟩:∃ m,m=endI P:=⟨_,rfl⟩
  rw [← hm] at hge ⊢
  have t0:decide (0≤m)=true:=decide_eq_true hge
  have hR:=HROW.out hneg
  obtain ⟨L,hL⟩:∃ L,L=wayG 9 S 0:=⟨_,rfl⟩
  rw [← hL] at hR
  obtain ⟨bL,cL,rfl,hbL,hltL,hcL⟩:=hR.ex
  obtain ⟨hlast,hlen⟩:=wayG_last 9 S 0 HF.out.2.2.2
  have hlen9:=wayG_len 9 S 0
  rw [← hL] at hlast hlen hlen9
  obtain ⟨k,hk⟩:∃ k,L.length=k+1:=⟨L.length - 1,by omega⟩
  obtain ⟨g,hg⟩:∃ g,g=lastG 9 S 0:=⟨_,rfl⟩
  rw [← hg,hk,Nat.add_sub_cancel] at hlast
  have hcl:=hcL k (by omega)
  rw [hlast] at hcl
  obtain ⟨x,hx⟩:=lastG_some 9 S 0 HF.out.2.2.2
  rw [← hg] at hx
  have H:=HF.out.2.2.1
  have hg32:=H.inv.tree.lt hx
  have hok:=H.inv.qok g x hx
  have hq:=(HF2.out.at_.is g x hx).2.1
  have hgood:HGood (S.put g (some { x with q:=yieldQ x.q S.gran })):=H.same hx (hok.at_ (hok.yieldI_ok S.gran)) rfl
  have hyv:yieldHI 9 S=pickHI 9 (S.put g (some { x with q:=yieldQ x.q S.gran })):=by
   unfold yieldHI
   rw [if_neg hne,← hg,hx]
  have hyh:yieldH 9 S=pickH 9 (S.put g (some { x with q:=yieldQ x.q S.gran })):=by
   unfold yieldH
   rw [if_neg hne,← hg,hx]
  have hled:=led_yield (HF2.out.at_.led g x hx) S.gran
  have MP:=fun (W:World) (hW:RQ W W.heap.size (X.g g).A (X.g g).c x.q.L)=>rf_yield (X.g g).A (X.g g).c x.q hok S.gran W hW
  have hcg:=HF2.out.at_.gr
  obtain ⟨gr,hgr2⟩:∃ gr,gr=S.gran:=⟨_,rfl⟩
  rw [← hgr2] at MP hled hcg hgood hyv hyh
  generalize yieldQ x.q gr=q2 at *
  generalize x.q.yieldI gr=yv at *
  obtain ⟨m2,hm2⟩:∃ m2,m2=q2.L.length:=⟨_,rfl⟩
  rw [← hm2] at MP
  obtain ⟨pv,hpv⟩:∃ pv,pv=pickHI 9 (S.put g (some { x with q:=q2 })):=⟨_,rfl⟩
  have HPV:=Lib.hid (hyv.trans hpv.symm)
  have HPV2:=Lib.hid hyh
  have MPK:=Lib.hid fun W Y (hY:XAt W (S.put g (some { x with q:=q2 })) Y)=>(by
   have:=xpick_any hY hgood
   rw [← hpv] at this
   exact this:Calls Tryz.prog 26 #[xV Y] W fun r w'=>∃ X',r=.returned (.tuple #[xV X',.int .i64 pv])∧Hid (XTo W w' Y X' (pickH 9 (S.put g (some { x with q:=q2 })))))
  have hr:=HF2.out.at_.row g hg32
  rw [hq] at hr
  have HP:=Lib.hid (And.intro hx (And.intro hg32 (And.intro hq (And.intro hled hm2))))
  have SO:=Lib.hid fun W (hW:Below w2.heap.size w2 W)=>(by
    obtain ⟨q0,q1,q2',q3⟩:=(HF2.out.box.below hW).q hg32
    rw [hq] at q0 q1 q2' q3
    obtain ⟨-,c1⟩:=(HF2.out.box.below hW).cred
    rw [hcg] at c1
    exact ⟨hW,⟨q0,q1,q2',q3⟩,c1⟩:Below w2.heap.size w2 W∧(W.cell? ⟨w.heap.size,2+g*4,none⟩=some (.slice (X.g g).A x.q.L.length (X.g g).c)∧W.cell? ⟨w.heap.size,2+g*4+1,none⟩=some (.int .i64 x.q.cur)∧W.cell? ⟨w.heap.size,2+g*4+2,none⟩=some (.int .i64 x.q.mn)∧W.cell? ⟨w.heap.size,2+g*4+3,none⟩=some (.bool x.q.over))∧W.cell? ⟨w.heap.size,1,none⟩=some (.int .i64 gr))
  have hz4:=Nat.le_refl w2.heap.size
  have HF4:=Lib.hid (And.intro HF2.out hr)
  have MP2:=Lib.hid fun W (k:Below w2.heap.size w2 W)=>MP W ((hr.below k).mono k.size)
  have j0:(0:Int)≤(g:Int):=by omega
  have j2:(g:Int)<32:=by omega
  have j5:decide (g<32)=true:=decide_eq_true hg32
  have k0:(0:Int)≤(k:Int):=by omega
  have k9:(k:Int)≤9:=by omega
  have k99:k≤9:=by omega
  rw [hk]
  clear hm hge hne hneg hR hL hbL hltL hcL hlast hlen hlen9 hk hg hx H hg32 hok hq hgood hyv hyh hled MP hcg hgr2 hm2 hpv hr HR2 HF2 HROW HPR
  generalize x.q.L.length=ml at *
  go_upto_region 4 with (fail)
  go_region_held3 (fun W=>Below w2.heap.size w2 W∧(W.cell? ⟨w.heap.size,2+g*4,none⟩=some (.slice (X.g g).A ml (X.g g).c)∧W.cell? ⟨w.heap.size,2+g*4+1,none⟩=some (.int .i64 x.q.cur)∧W.cell? ⟨w.heap.size,2+g*4+2,none⟩=some (.int .i64 x.q.mn)∧W.cell? ⟨w.heap.size,2+g*4+3,none⟩=some (.bool x.q.over))∧W.cell? ⟨w.heap.size,1,none⟩=some (.int .i64 gr))
   (first | exact SO.out _ (kp_drew (by assumption)) | exact SO.out _ (by assumption) | exact SO.out _ (kp_call (by assumption) (by assumption) hz4) | exact SO.out _ (kp_same (by assumption)) | exact SO.out _ (kp_alloc (by assumption) hz4 _) | exact SO.out _ (kp_start _ _) | exact SO.out _ (kb_alloc (Below.refl _ _) _).drew | exact SO.out _ (kb_alloc (by assumption) _) | exact SO.out _ (kb_four (by assumption) (Nat.le_refl _) _ _ _ _))
   (first
    | (go_at_call 71;refine (MP2.out _ (by first | exact kp_same (by assumption) | exact kp_drew (by assumption) | exact kp_start _ _ | exact kp_alloc (by assumption) hz4 _ | exact (kb_alloc (Below.refl _ _) _).drew)).mono ?_;rintro r w5 ⟨A5,c5,rfl,H5⟩;have hb5:=H5.out.res.bel;have k5:=kp_call hb5 (by assumption) hz4;first | (have k9:=blk_ahead hb5;have g0:=Blk.cell k9 0;have g1:=Blk.cell k9 1;have g2:=Blk.cell k9 2;have g3:=Blk.cell k9 3;have gf:=Blk.frozen k9) | skip))
  ·
   obtain ⟨W6,hW6⟩:∃ W6,W6=w5.alloc (.cells #[.slice A5 m2 c5,.int .i64 q2.cur,.int .i64 q2.mn,.bool q2.over] 29):=⟨_,rfl⟩
   have hx6:Blk W6 w5.heap.size #[.slice A5 m2 c5,.int .i64 q2.cur,.int .i64 q2.mn,.bool q2.over] 29:=by rw [hW6];exact Blk.new _ _ _
   have hr6:RfRes w2 W6 (X.g g).A A5 c5 x.q q2:=(H5.out.drew).later (by rw [hW6];exact (Below.refl _ _).alloc (Nat.le_refl _) _)
   change Exit.then _ _ _ _ (w5.alloc (.cells #[.slice A5 m2 c5,.int .i64 q2.cur,.int .i64 q2.mn,.bool q2.over] 29))
   rw [← hW6]
   rename_i hHeld
   have hr7:=hr6
   rw [← HP.out.2.2.1] at hr7
   have f7:=HF4.out.1.queue HP.out.1 HP.out.2.1 hr7 HP.out.2.2.2.1 (Below.refl _ _) HP.out.2.2.2.2
   have f6:=HF4.out.1.below hr6.res.bel
   obtain ⟨y0,y1,y2,y3⟩:=f6.box.q HP.out.2.1
   have yf:=f6.box.frozen
   have x0:W6.cell? ⟨_,0,none⟩=some (.slice A5 m2 c5):=Blk.cell hx6 0
   have x1:W6.cell? ⟨_,1,none⟩=some (.int .i64 q2.cur):=Blk.cell hx6 1
   have x2:W6.cell? ⟨_,2,none⟩=some (.int .i64 q2.mn):=Blk.cell hx6 2
   have x3:W6.cell? ⟨_,3,none⟩=some (.bool q2.over):=Blk.cell hx6 3
   have HF7:=Lib.hid f7
   clear hHeld f7 f6 hr7 hr6 hW6 hx6 H5 hb5 k5 SO HF4 MP2
   go_upto_region 6 with (fail)
   obtain ⟨W7,hW7,f7⟩:∃ W7,W7=_∧XFr 1 1 w W7 X _ _:=⟨_,rfl,HF7.out⟩
   rw [← hW7]
   clear hW7 y0 y1 y2 y3 yf x0 x1 x2 x3 HF7
   generalize XH.put _ g _=Y7 at f7
   have HR7:=Lib.hid f7.pack
   have HF7:=Lib.hid f7
   clear f7
   go_wp2_with (refine wpList_wload_mid rfl 38 (.tmp 1) rfl w.heap.size 0 rfl (xcells Y7) _ HR7.out.1 Tryz.underlying38 rfl HR7.out.2.1 ?_)
   refine (MPK.out W7 Y7 HF7.out.at_).mono ?_
   rintro r w8 ⟨Y8,rfl,H8⟩
   have HR8:=Lib.hid (HF7.out.pack2 H8.out.bel Y8)
   have hd:=HF7.out.done2 H8.out
   clear MPK H8
   go_wp2_with (refine wpList_store_mid rfl 38 (.tmp 2) (.tmp 38) rfl (w.heap.size+1) 0 (xcells Y8).toArray rfl rfl HR8.out.2.2.1 HR8.out.2.2.2.1 HR8.out.2.2.2.2 ?_)
   obtain ⟨W9,hW9⟩:∃ W9,W9=w8.setCells (w.heap.size+1) 0 (xcells Y8):=⟨_,rfl⟩
   rw [← hW9] at hd ⊢
   have hl:=xload hd.1
   refine bodyPost_ret (v:=.tuple #[xV Y8,.int .i64 pv]) (res_cell_tmp Tryz.results25 rfl rfl hl) rfl ⟨Y8,by rw [HPV.out],Lib.hid (by rw [HPV2.out];exact hd.2)⟩
  ·
   obtain ⟨W6,hW6⟩:∃ W6,W6=(((w5.setCell ⟨w2.heap.size,0,none⟩ (.slice A5 m2 c5)).setCell ⟨w2.heap.size,1,none⟩ (.int .i64 q2.cur)).setCell ⟨w2.heap.size,2,none⟩ (.int .i64 q2.mn)).setCell ⟨w2.heap.size,3,none⟩ (.bool q2.over):=⟨_,rfl⟩
   have hx6:Blk W6 w2.heap.size #[.slice A5 m2 c5,.int .i64 q2.cur,.int .i64 q2.mn,.bool q2.over] 29:=by
    rw [hW6]
    exact Blk.set (Blk.set (Blk.set (Blk.set k9 0 (.slice A5 m2 c5)) 1 (.int .i64 q2.cur)) 2 (.int .i64 q2.mn)) 3 (.bool q2.over)
   have hr6:RfRes w2 W6 (X.g g).A A5 c5 x.q q2:=H5.out.ahead HF4.out.2 (fun b hb=>by rw [hW6];exact four_other _ _ _ _ _ _ hb) (by rw [hW6];simp) (by rw [hW6];exact kb_four k5 (Nat.le_refl _) _ _ _ _)
   change Exit.then _ _ _ _ ((((w5.setCell ⟨w2.heap.size,0,none⟩ (.slice A5 m2 c5)).setCell ⟨w2.heap.size,1,none⟩ (.int .i64 q2.cur)).setCell ⟨w2.heap.size,2,none⟩ (.int .i64 q2.mn)).setCell ⟨w2.heap.size,3,none⟩ (.bool q2.over))
   rw [← hW6]
   rename_i hHeld
   have hr7:=hr6
   rw [← HP.out.2.2.1] at hr7
   have f7:=HF4.out.1.queue HP.out.1 HP.out.2.1 hr7 HP.out.2.2.2.1 (Below.refl _ _) HP.out.2.2.2.2
   have f6:=HF4.out.1.below hr6.res.bel
   obtain ⟨y0,y1,y2,y3⟩:=f6.box.q HP.out.2.1
   have yf:=f6.box.frozen
   have x0:W6.cell? ⟨_,0,none⟩=some (.slice A5 m2 c5):=Blk.cell hx6 0
   have x1:W6.cell? ⟨_,1,none⟩=some (.int .i64 q2.cur):=Blk.cell hx6 1
   have x2:W6.cell? ⟨_,2,none⟩=some (.int .i64 q2.mn):=Blk.cell hx6 2
   have x3:W6.cell? ⟨_,3,none⟩=some (.bool q2.over):=Blk.cell hx6 3
   have HF7:=Lib.hid f7
   clear hHeld f7 f6 hr7 hr6 hW6 hx6 H5 hb5 k5 SO HF4 MP2
   go_upto_region 6 with (fail)
   obtain ⟨W7,hW7,f7⟩:∃ W7,W7=_∧XFr 1 1 w W7 X _ _:=⟨_,rfl,HF7.out⟩
   rw [← hW7]
   clear hW7 y0 y1 y2 y3 yf x0 x1 x2 x3 HF7
   generalize XH.put _ g _=Y7 at f7
   have HR7:=Lib.hid f7.pack
   have HF7:=Lib.hid f7
   clear f7
   go_wp2_with (refine wpList_wload_mid rfl 38 (.tmp 1) rfl w.heap.size 0 rfl (xcells Y7) _ HR7.out.1 Tryz.underlying38 rfl HR7.out.2.1 ?_)
   refine (MPK.out W7 Y7 HF7.out.at_).mono ?_
   rintro r w8 ⟨Y8,rfl,H8⟩
   have HR8:=Lib.hid (HF7.out.pack2 H8.out.bel Y8)
   have hd:=HF7.out.done2 H8.out
   clear MPK H8
   go_wp2_with (refine wpList_store_mid rfl 38 (.tmp 2) (.tmp 38) rfl (w.heap.size+1) 0 (xcells Y8).toArray rfl rfl HR8.out.2.2.1 HR8.out.2.2.2.1 HR8.out.2.2.2.2 ?_)
   obtain ⟨W9,hW9⟩:∃ W9,W9=w8.setCells (w.heap.size+1) 0 (xcells Y8):=⟨_,rfl⟩
   rw [← hW9] at hd ⊢
   have hl:=xload hd.1
   refine bodyPost_ret (v:=.tuple #[xV Y8,.int .i64 pv]) (res_cell_tmp Tryz.results25 rfl rfl hl) rfl ⟨Y8,by rw [HPV.out],Lib.hid (by rw [HPV2.out];exact hd.2)⟩
end
end Go.Proofs.YtefekboacghnjaaGreat
