/-
  hier.Hier as data: what every deed keeps.
  hier.Hier as data: the way of Pick, and of who runs.
  Queues that are new since some time; dolelaw20.awake.
  dolelaw20.awake.
  hier.Hier that is nil.
-/
import Derived.Test.YtefekboacghnjaaGreatMj
import Derived.Test.YtefekboacghnjaaGreatMd
import Derived.Test.YtefekboacghnjaaGreatMm
import Derived.Test.YtefekboacghnjaaGreatMl
namespace Go.Proofs.YtefekboacghnjaaGreat
open Go.RowKit Go.Maps
structure HGood (S:HS):Prop where
 inv:HInv S
 set:HSet S
section
variable {S:HS} {i g:Nat} {x:Gr}
theorem HInv.num (I:HInv S):∀ i g,i≠0→S.G i=some g→g.own.num:=fun i g h0 hg=>by
 have O:=I.own i g h0 hg
 have hi:i<32:=by
  refine Decidable.byContradiction fun hlt=>?_
  rw [I.tree.top i (by omega)] at hg
  simp at hg
 have:=O.id
 have:=O.w2
 have:=O.r
 exact ⟨by omega,by omega,O.v1,O.v2,by omega,by omega⟩
theorem HInv.chain (I:HInv S) (hg:S.G i=some x):Chain S 9 i:=I.tree.chain I.num 9 i x hg (by have:=I.tree.deep i x hg;omega)
theorem HInv.queue (I:HInv S) (hg:S.G g=some x) {X:QS} (hok:X.ok) (h1:∀ e,e ∈ X.L→(∃ e0,e0 ∈ x.q.L∧e0.id=e.id)∨∃ t:Nat,t<64∧e.id=2*(t:Int)) (h2:∀ e,e ∈ x.q.L→e.id % 2=1→∃ e',e' ∈ X.L∧e'.id=e.id) :
  HInv (S.put g (some { x with q:=X })):=by
 have may:∀ u k,S.may u k→(S.put g (some { x with q:=X })).may u k:=fun u k hm=>by
  rcases hm with hm | ⟨j,y,e1,e2,e3,e4,e5⟩
  · exact .inl hm
  ·
   by_cases hj:j=g
   ·
    subst hj
    rw [hg] at e3
    injection e3 with e3
    subst e3
    exact .inr ⟨j,_,e1,e2,HS.put_same _ _ _,e4,e5⟩
   · exact .inr ⟨j,y,e1,e2,(HS.put_other _ _ hj).trans e3,e4,e5⟩
 refine ⟨I.tree.put hg rfl rfl,fun j y h0 hj=>?_,fun u p hu e he=>?_,fun j y u p h0 hj hup hu hon=>?_,fun u p hu=>?_⟩
 ·
  by_cases hjg:j=g
  ·
   subst hjg
   rw [HS.put_same] at hj
   injection hj with hj
   subst hj
   exact I.own j x h0 hg
  ·
   rw [HS.put_other _ _ hjg] at hj
   exact I.own j y h0 hj
 ·
  by_cases hug:u=g
  ·
   subst hug
   rw [HS.put_same] at hu
   injection hu with hu
   subst hu
   rcases h1 e he with ⟨e0,h0,hid⟩ | ⟨t,ht,hid⟩
   ·
    rw [← hid]
    exact may u _ (I.ids u x hg e0 h0)
   · exact .inl ⟨t,ht,hid⟩
  ·
   rw [HS.put_other _ _ hug] at hu
   exact may u _ (I.ids u p hu e he)
 ·
  have hj0:∃ y0,S.G j=some y0∧y0.up=y.up∧y0.on=y.on:=by
   by_cases hjg:j=g
   ·
    subst hjg
    rw [HS.put_same] at hj
    injection hj with hj
    subst hj
    exact ⟨x,hg,rfl,rfl⟩
   ·
    rw [HS.put_other _ _ hjg] at hj
    exact ⟨y,hj,rfl,rfl⟩
  obtain ⟨y0,k1,k2,k3⟩:=hj0
  by_cases hug:u=g
  ·
   subst hug
   rw [HS.put_same] at hu
   injection hu with hu
   subst hu
   obtain ⟨e,he,hid⟩:=I.on j y0 u x h0 k1 (k2.trans hup) hg (k3.trans hon)
   obtain ⟨e',he',hid'⟩:=h2 e he (by omega)
   exact ⟨e',he',hid'.trans hid⟩
  ·
   rw [HS.put_other _ _ hug] at hu
   exact I.on j y0 u p h0 k1 (k2.trans hup) hu (k3.trans hon)
 ·
  by_cases hug:u=g
  ·
   subst hug
   rw [HS.put_same] at hu
   injection hu with hu
   subst hu
   exact hok
  ·
   rw [HS.put_other _ _ hug] at hu
   exact I.qok u p hu
theorem HInv.group (I:HInv S) (hg:S.G g=some x) {y:Gr} (h1:y.up=x.up) (h2:y.deep=x.deep) (h3:y.q=x.q) (h4:y.on=x.on) (h5:g≠0→HOwn g y.own):HInv (S.put g (some y)):=by
 have may:∀ u k,S.may u k→(S.put g (some y)).may u k:=fun u k hm=>by
  rcases hm with hm | ⟨j,z,e1,e2,e3,e4,e5⟩
  · exact .inl hm
  ·
   by_cases hj:j=g
   ·
    subst hj
    rw [hg] at e3
    injection e3 with e3
    subst e3
    exact .inr ⟨j,_,e1,e2,HS.put_same _ _ _,h1.trans e4,h4.trans e5⟩
   · exact .inr ⟨j,z,e1,e2,(HS.put_other _ _ hj).trans e3,e4,e5⟩
 have old:∀ j z,(S.put g (some y)).G j=some z→∃ z0,S.G j=some z0∧z0.up=z.up∧z0.on=z.on∧z0.q=z.q:=fun j z hj=>by
  by_cases hjg:j=g
  ·
   subst hjg
   rw [HS.put_same] at hj
   injection hj with hj
   subst hj
   exact ⟨x,hg,h1.symm,h4.symm,h3.symm⟩
  ·
   rw [HS.put_other _ _ hjg] at hj
   exact ⟨z,hj,rfl,rfl,rfl⟩
 refine ⟨I.tree.put hg h1 h2,fun j z h0 hj=>?_,fun u p hu e he=>?_,fun j z u p h0 hj hup hu hon=>?_,fun u p hu=>?_⟩
 ·
  by_cases hjg:j=g
  ·
   subst hjg
   rw [HS.put_same] at hj
   injection hj with hj
   subst hj
   exact h5 h0
  ·
   rw [HS.put_other _ _ hjg] at hj
   exact I.own j z h0 hj
 ·
  obtain ⟨p0,k1,_,_,k4⟩:=old u p hu
  exact may u _ (I.ids u p0 k1 e (k4 ▸ he))
 ·
  obtain ⟨z0,k1,k2,k3,_⟩:=old j z hj
  obtain ⟨p0,l1,_,_,l4⟩:=old u p hu
  rw [← l4]
  exact I.on j z0 u p0 h0 k1 (k2.trans hup) l1 (k3.trans hon)
 ·
  obtain ⟨p0,l1,_,_,l4⟩:=old u p hu
  rw [← l4]
  exact I.qok u p0 l1
theorem HSet.queue (h:HSet S) (_hg:S.G g=some x) {X:QS}:HSetX (S.put g (some { x with q:=X })) g:=fun j y h0 hjg hj=>by
 rw [HS.put_other _ _ hjg] at hj
 exact h j y h0 hj
theorem HSet.group (h:HSet S) (y:Gr):HSetX (S.put g (some y)) g:=fun j z h0 hjg hj=>by
 rw [HS.put_other _ _ hjg] at hj
 exact h j z h0 hj
theorem HSet.same (h:HSet S) (hg:S.G g=some x) {X:QS} (he:X.L.isEmpty=x.q.L.isEmpty):HSet (S.put g (some { x with q:=X })):=fun j y h0 hj=>by
 by_cases hjg:j=g
 ·
  subst hjg
  rw [HS.put_same] at hj
  injection hj with hj
  subst hj
  have:=h j x h0 hg
  rw [show (({ x with q:=X }:Gr).on)=x.on from rfl,this]
  show (!x.stopped && !x.q.L.isEmpty)=(!x.stopped && !X.L.isEmpty)
  rw [he]
 ·
  rw [HS.put_other _ _ hjg] at hj
  exact h j y h0 hj
theorem HGood.same (H:HGood S) (hg:S.G g=some x) {X:QS} (hok:X.ok) (hid:X.L.map (·.id)=x.q.L.map (·.id)):HGood (S.put g (some { x with q:=X })):=by
 refine ⟨H.inv.queue hg hok (fun e he=>.inl ?_) (fun e he _=>?_),H.set.same hg ?_⟩
 ·
  have:=List.mem_map_of_mem (f:=fun x:En=>x.id) he
  rw [hid] at this
  obtain ⟨e0,h0,h1⟩:=List.mem_map.1 this
  exact ⟨e0,h0,h1⟩
 ·
  have:=List.mem_map_of_mem (f:=fun x:En=>x.id) he
  rw [← hid] at this
  obtain ⟨e0,h0,h1⟩:=List.mem_map.1 this
  exact ⟨e0,h0,h1⟩
 ·
  have:=congrArg List.isEmpty hid
  simpa using this
theorem settle_good {n:Nat} {x:Gr} (hi:S.G i=some x) (hd:x.deep<n) (I:HInv S) (hS:HSetX S i):HGood (settleH n S i) :=
 ⟨(settle_inv n S i x hi hd I hS).1,(settle_inv n S i x hi hd I hS).2⟩
theorem put_good (H:HGood S) (hg:S.G g=some x) {e:En} {t:Nat} (ht:t<64) (hid:e.id=2*(t:Int)) (hv:-9223372036854775808≤e.v∧e.v≤9223372036854775807):HGood (putHS S g x e):=by
 unfold putHS
 split
 ·
  rename_i hc
  have hL:=putQ_L hc
  have hd:=H.inv.tree.deep g x hg
  refine settle_good (x:={ x with q:=putQ x.q e }) (HS.put_same _ _ _) (by show x.deep<9;omega) (H.inv.queue hg ((H.inv.qok g x hg).put (by omega) hv) (fun e' he'=>?_) (fun e' he' _=>?_)) (H.set.queue hg)
  ·
   rw [hL,List.mem_append] at he'
   rcases he' with he' | he'
   · exact .inl ⟨e',he',rfl⟩
   ·
    rw [List.mem_singleton] at he'
    subst he'
    exact .inr ⟨t,ht,hid⟩
  ·
   rw [hL]
   exact ⟨e',List.mem_append_left _ he',rfl⟩
 · exact H
theorem drop_good (H:HGood S) (hg:S.G g=some x) (t:Int):HGood (dropHS S g x (2*t)):=by
 unfold dropHS
 split
 · exact H
 ·
  have hd:=H.inv.tree.deep g x hg
  refine settle_good (x:={ x with q:=dropQ x.q (2*t) }) (HS.put_same _ _ _) (by show x.deep<9;omega) (H.inv.queue hg ((H.inv.qok g x hg).dropQ _) (fun e' he'=>?_) (fun e' he' ho=>?_)) (H.set.queue hg)
  ·
   rw [dropQ_L] at he'
   exact .inl ⟨e',(lessL_mem.1 he').1,rfl⟩
  ·
   rw [dropQ_L]
   exact ⟨e',lessL_mem.2 ⟨he',by omega⟩,rfl⟩
theorem stop_good (H:HGood S) (h0:g≠0) (hg:S.G g=some x) (is:Bool):HGood (stopHS S g x is):=by
 have hd:=H.inv.tree.deep g x hg
 exact settle_good (x:={ x with stopped:=is }) (HS.put_same _ _ _) (by show x.deep<9;omega) (H.inv.group hg rfl rfl rfl rfl fun _=>H.inv.own g x h0 hg) (H.set.group _)
theorem weighQ_ids (X:QS) (k:Int) (w:Nat):(weighQ X k w).L.map (·.id)=X.L.map (·.id):=by
 unfold weighQ
 split
 · rfl
 ·
  split
  · rfl
  · exact setL_ids _ _
theorem weighQ_ok {X:QS} (h:X.ok) (k:Int) (w:Nat):(weighQ X k w).ok:=by
 unfold weighQ
 split
 · exact h
 ·
  rename_i e he
  split
  · exact h
  · exact h.set (weighed_ok (h.ents e (QS.get_some he).1) (by omega) (by omega))
theorem weighed_own {e:En} (O:HOwn g e) {w:Nat} (h1:2≤w) (h2:w≤262144):HOwn g (weighed e w):=by
 have hid:=O.id
 have heok:e.id≤9223372036854775807→e.ok:=fun h=>⟨by omega,h,O.w1,O.w2,O.v1,O.v2,O.r⟩
 have hr:(weighed e w).rem<w:=by
  have:=(weighed_ok (e:={ e with id:=0 }) ⟨by simp,by simp,O.w1,O.w2,O.v1,O.v2,O.r⟩ h1 h2).r
  exact this
 exact ⟨O.id,h1,h2,O.v1,O.v2,hr⟩
theorem weigh_good (H:HGood S) (h0:g≠0) (hg:S.G g=some x) {w:Nat} (h1:2≤w) (h2:w≤262144):HGood (weighHS S g x w):=by
 unfold weighHS
 split
 ·
  split
  · exact H
  ·
   rename_i p hp
   exact H.same hp (weighQ_ok (H.inv.qok _ p hp) _ _) (weighQ_ids _ _ _)
 ·
  refine ⟨H.inv.group hg rfl rfl rfl rfl fun _=>weighed_own (H.inv.own g x h0 hg) h1 h2,fun j y hj0 hj=>?_⟩
  by_cases hjg:j=g
  ·
   subst hjg
   rw [HS.put_same] at hj
   injection hj with hj
   subst hj
   exact H.set j x hj0 hg
  ·
   rw [HS.put_other _ _ hjg] at hj
   exact H.set j y hj0 hj
theorem link_good (H:HGood S) {pa:Nat} {p:Gr} (h0:i≠0) (hi:i<32) (hn:S.G i=none) (hp:S.G pa=some p) (hd:p.deep<8):HGood (S.put i (some (linkG i pa p.deep))):=by
 have hpi:pa≠i:=by rintro rfl;rw [hn] at hp;simp at hp
 have may:∀ u k,S.may u k→(S.put i (some (linkG i pa p.deep))).may u k:=fun u k hm=>by
  rcases hm with hm | ⟨j,z,e1,e2,e3,e4,e5⟩
  · exact .inl hm
  ·
   by_cases hj:j=i
   · subst hj;rw [hn] at e3;simp at e3
   · exact .inr ⟨j,z,e1,e2,(HS.put_other _ _ hj).trans e3,e4,e5⟩
 have old:∀ {j z},j≠i→(S.put i (some (linkG i pa p.deep))).G j=some z→S.G j=some z:=fun {j z} hji hj=>by
  rw [HS.put_other _ _ hji] at hj;exact hj
 have new:∀ {z},(S.put i (some (linkG i pa p.deep))).G i=some z→z=linkG i pa p.deep:=fun {z} hz=>by
  rw [HS.put_same] at hz;injection hz with hz;exact hz.symm
 refine ⟨⟨⟨fun j hj=>?_,?_,fun j z hj0 hj=>?_,fun j z hj=>?_⟩,fun j z hj0 hj=>?_,fun u q hu e he=>?_,fun j z u q hj0 hj hup hu hon=>?_,fun u q hu=>?_⟩,fun j z hj0 hj=>?_⟩
 · rw [HS.put_other _ _ (by omega)];exact H.inv.tree.top j hj
 ·
  obtain ⟨r,e1,e2,e3⟩:=H.inv.tree.root
  exact ⟨r,(HS.put_other _ _ (Ne.symm h0)).trans e1,e2,e3⟩
 ·
  by_cases hji:j=i
  ·
   subst hji
   rw [new hj]
   exact ⟨pa,p,rfl,(HS.put_other _ _ hpi).trans hp,rfl⟩
  ·
   obtain ⟨u,q,e1,e2,e3⟩:=H.inv.tree.up j z hj0 (old hji hj)
   have hui:u≠i:=by rintro rfl;rw [hn] at e2;simp at e2
   exact ⟨u,q,e1,(HS.put_other _ _ hui).trans e2,e3⟩
 ·
  by_cases hji:j=i
  ·
   subst hji
   rw [new hj]
   show p.deep+1≤8
   omega
  · exact H.inv.tree.deep j z (old hji hj)
 ·
  by_cases hji:j=i
  ·
   subst hji
   rw [new hj]
   exact ⟨rfl,by show 2≤1024;omega,by show 1024≤262144;omega,by show (-9223372036854775808:Int)≤0;omega,by show (0:Int)≤9223372036854775807;omega,by show 0<1024;omega⟩
  · exact H.inv.own j z hj0 (old hji hj)
 ·
  by_cases hui:u=i
  ·
   subst hui
   rw [new hu] at he
   simp [linkG,emptyQ] at he
  · exact may u _ (H.inv.ids u q (old hui hu) e he)
 ·
  by_cases hji:j=i
  ·
   subst hji
   rw [new hj] at hon
   simp [linkG] at hon
  ·
   by_cases hui:u=i
   ·
    subst hui
    obtain ⟨u2,q2,e1,e2,_⟩:=H.inv.tree.up j z hj0 (old hji hj)
    have:u2=u:=by omega
    subst this
    rw [hn] at e2
    simp at e2
   · exact H.inv.on j z u q hj0 (old hji hj) hup (old hui hu) hon
 ·
  by_cases hui:u=i
  ·
   subst hui
   rw [new hu]
   exact ⟨by simp [linkG,emptyQ],by simp [linkG,emptyQ],by simp [linkG,emptyQ],.inl rfl,by simp [linkG,emptyQ],by simp [linkG,emptyQ]⟩
  · exact H.inv.qok u q (old hui hu)
 ·
  by_cases hji:j=i
  ·
   subst hji
   rw [new hj]
   rfl
  · exact H.set j z hj0 (old hji hj)
theorem new_good (credit gran:Int):HGood (newH credit gran):=by
 have key:∀ {j z},(newH credit gran).G j=some z→j=0∧z=⟨-1,0,emptyQ,⟨0,0,0,0⟩,false,false⟩:=fun {j z} hj=>by
  unfold newH at hj
  dsimp only at hj
  split at hj
  · rename_i h;injection hj with hj;exact ⟨h,hj.symm⟩
  · simp at hj
 refine ⟨⟨⟨fun j hj=>if_neg (by omega),⟨_,rfl,rfl,rfl⟩,fun j z h0 hj=>absurd (key hj).1 h0,fun j z hj=>?_⟩,fun j z h0 hj=>absurd (key hj).1 h0,fun u q hu e he=>?_,fun j z u q h0 hj=>absurd (key hj).1 h0,fun u q hu=>?_⟩,fun j z h0 hj=>absurd (key hj).1 h0⟩
 · rw [(key hj).2];exact Nat.zero_le _
 · rw [(key hu).2] at he;simp [emptyQ] at he
 ·
  rw [(key hu).2]
  exact ⟨by simp [emptyQ],by simp [emptyQ],by simp [emptyQ],.inl rfl,by simp [emptyQ],by simp [emptyQ]⟩
end
end Go.Proofs.YtefekboacghnjaaGreat
namespace Go.Proofs.YtefekboacghnjaaGreat
open Go.RowKit Go.Maps
theorem pickI_ge {X:QS} (h:X.ok) (gran:Int):-1≤X.pickI gran:=by
 rcases h.pickI_ok gran with e | ⟨x,hx,hid⟩
 · omega
 ·
  have:=(h.ents x hx).i1
  omega
section
variable {S:HS} {g:Nat} {x:Gr}
theorem HGood.chosen (H:HGood S) (hg:S.G g=some x) {m:Int} (hm:∃ e,e ∈ x.q.L∧e.id=m):(∃ t:Nat,t<64∧m=2*(t:Int))∨∃ (k:Nat) (y:Gr),m=2*(k:Int)+1∧k≠0∧k<32∧k≠g∧S.G k=some y∧y.up=(g:Int)∧y.on=true∧y.deep=x.deep+1:=by
 obtain ⟨e,he,rfl⟩:=hm
 rcases H.inv.ids g x hg e he with h | ⟨k,y,h1,h2,h3,h4,h5⟩
 · exact .inl h
 ·
  obtain ⟨n1,n2⟩:=H.inv.tree.ne h2 h3 h4 hg
  refine .inr ⟨k,y,h1,h2,?_,Ne.symm n1,h3,h4,h5,n2⟩
  refine Decidable.byContradiction fun hlt=>?_
  rw [H.inv.tree.top k (by omega)] at h3
  simp at h3
theorem HGood.deep8 (H:HGood S) (hg:S.G g=some x):x.deep≤8:=H.inv.tree.deep g x hg
theorem HGood.pick1 (H:HGood S) (hg:S.G g=some x):HGood (S.put g (some { x with q:=pickQ x.q S.gran })) :=
 H.same hg ((H.inv.qok g x hg).at_ ((H.inv.qok g x hg).pickI_ok S.gran)) rfl
theorem pickN_eq (hg:S.G g=some x):pickN S g=(S.put g (some { x with q:=pickQ x.q S.gran }),x.q.pickI S.gran):=by unfold pickN;rw [hg]
theorem curN_eq (hg:S.G g=some x):curN S g=(S,x.q.cur):=by unfold curN;rw [hg]
theorem wayF_succ (nx:HS→Nat→HS × Int) (n:Nat) (S:HS) (g:Nat):wayF nx (n+1) S g=if (nx S g).2<0∨(nx S g).2 % 2=0 then nx S g else wayF nx n (nx S g).1 ((nx S g).2 / 2).toNat:=rfl
theorem wayF_ends {nx:HS→Nat→HS × Int} {n:Nat} {S S':HS} {g:Nat} {m:Int} (h:nx S g=(S',m)) (hc:m<0∨m % 2=0):wayF nx (n+1) S g=(S',m):=by
 rw [wayF_succ,h]
 exact if_pos hc
theorem wayF_goes {nx:HS→Nat→HS × Int} {n:Nat} {S S':HS} {g:Nat} {m:Int} (h:nx S g=(S',m)) (hc:¬(m<0∨m % 2=0)):wayF nx (n+1) S g=wayF nx n S' (m / 2).toNat:=by
 rw [wayF_succ,h]
 exact if_neg hc
theorem half (k:Nat):((2*(k:Int)+1) / 2).toNat=k:=by omega
end
theorem way_pick_ok:∀ (n:Nat) (S:HS) (g:Nat) (x:Gr),HGood S→S.G g=some x→x.deep+n=9→wayOk pickN n S g
 | 0,S,g,x,H,hg,hd=>by have:=H.deep8 hg;omega
 | n+1,S,g,x,H,hg,hd=>by
  have hok:=H.inv.qok g x hg
  have h1:=pickI_ge hok S.gran
  refine ⟨⟨x,hg⟩,?_,?_,?_⟩ <;> rw [pickN_eq hg]
  · exact h1
  ·
   show x.q.pickI S.gran≤1000
   rcases hok.pickI_ok S.gran with e | hm
   · omega
   · rcases H.chosen hg hm with ⟨t,ht,e⟩ | ⟨k,y,e,_,hk,_⟩ <;> omega
  ·
   show (x.q.pickI S.gran<0∨x.q.pickI S.gran % 2=0)∨wayOk pickN n _ (x.q.pickI S.gran / 2).toNat
   rcases hok.pickI_ok S.gran with e | hm
   · exact .inl (.inl (by omega))
   ·
    rcases H.chosen hg hm with ⟨t,ht,e⟩ | ⟨k,y,e,_,hk,hkg,hy,_,_,hdy⟩
    · exact .inl (.inr (by omega))
    ·
     rw [e,half]
     exact .inr (way_pick_ok n _ k y (H.pick1 hg) ((HS.put_other _ _ hkg).trans hy) (by omega))
theorem way_cur_ok:∀ (n:Nat) (S:HS) (g:Nat) (x:Gr),HGood S→S.G g=some x→x.deep+n=9→wayOk curN n S g
 | 0,S,g,x,H,hg,hd=>by have:=H.deep8 hg;omega
 | n+1,S,g,x,H,hg,hd=>by
  have hok:=H.inv.qok g x hg
  have hc:-1≤x.q.cur:=by
   rcases hok.cur with e | ⟨y,hy,hid⟩
   · omega
   ·
    have:=(hok.ents y hy).i1
    omega
  refine ⟨⟨x,hg⟩,?_,?_,?_⟩ <;> rw [curN_eq hg]
  · exact hc
  ·
   show x.q.cur≤1000
   rcases hok.cur with e | hm
   · omega
   · rcases H.chosen hg hm with ⟨t,ht,e⟩ | ⟨k,y,e,_,hk,_⟩ <;> omega
  ·
   show (x.q.cur<0∨x.q.cur % 2=0)∨wayOk curN n _ (x.q.cur / 2).toNat
   rcases hok.cur with e | hm
   · exact .inl (.inl (by omega))
   ·
    rcases H.chosen hg hm with ⟨t,ht,e⟩ | ⟨k,y,e,_,hk,hkg,hy,_,_,hdy⟩
    · exact .inl (.inr (by omega))
    ·
     rw [e,half]
     exact .inr (way_cur_ok n _ k y H hy (by omega))
theorem HGood.cur0 {S:HS} (H:HGood S):wayOk curN 9 S 0:=by
 obtain ⟨r,e1,_,e3⟩:=H.inv.tree.root
 exact way_cur_ok 9 S 0 r H e1 (by omega)
theorem HGood.pick0 {S:HS} (H:HGood S):wayOk pickN 9 S 0:=by
 obtain ⟨r,e1,_,e3⟩:=H.inv.tree.root
 exact way_pick_ok 9 S 0 r H e1 (by omega)
def SameL (S S':HS):Prop:=S'.gran=S.gran∧S'.credit=S.credit∧∀ j,(S.G j=none→S'.G j=none)∧∀ y,S.G j=some y→∃ c,S'.G j=some { y with q:=y.q.at_ c }
theorem SameL.trans {S S' S'':HS} (h:SameL S S') (k:SameL S' S''):SameL S S'' :=
 ⟨k.1.trans h.1,k.2.1.trans h.2.1,fun j=>⟨fun hn=>(k.2.2 j).1 ((h.2.2 j).1 hn),fun y hy=>by
  obtain ⟨c,hc⟩:=(h.2.2 j).2 y hy
  obtain ⟨d,hd⟩:=(k.2.2 j).2 _ hc
  exact ⟨d,hd⟩⟩⟩
theorem SameL.pick {S:HS} {g:Nat} {x:Gr} (hg:S.G g=some x) (c:Int):SameL S (S.put g (some { x with q:=x.q.at_ c })) :=
 ⟨rfl,rfl,fun j=>⟨fun hn=>by
  by_cases hj:j=g
  · subst hj;rw [hg] at hn;simp at hn
  · rw [HS.put_other _ _ hj];exact hn,fun y hy=>by
  by_cases hj:j=g
  ·
   subst hj
   rw [hg] at hy
   injection hy with hy
   subst hy
   exact ⟨c,HS.put_same _ _ _⟩
  · exact ⟨y.q.cur,(HS.put_other _ _ hj).trans hy⟩⟩⟩
theorem pick_way:∀ (n:Nat) (S:HS) (g:Nat) (x:Gr),HGood S→S.G g=some x→x.deep+n=9 →
  HGood (wayF pickN n S g).1∧SameL S (wayF pickN n S g).1∧(wayF curN n (wayF pickN n S g).1 g).2=(wayF pickN n S g).2∧∀ j y,S.G j=some y→j≠g→y.deep≤x.deep→(wayF pickN n S g).1.G j=some y
 | 0,S,g,x,H,hg,hd=>by have:=H.deep8 hg;omega
 | n+1,S,g,x,H,hg,hd=>by
  have hok:=H.inv.qok g x hg
  have H1:=H.pick1 hg
  have hs1:(S.put g (some { x with q:=pickQ x.q S.gran })).G g=some { x with q:=pickQ x.q S.gran }:=HS.put_same _ _ _
  rw [wayF_succ,pickN_eq hg]
  by_cases hc:x.q.pickI S.gran<0∨x.q.pickI S.gran % 2=0
  ·
   rw [if_pos hc]
   refine ⟨H1,SameL.pick hg _,?_,fun j y hj hjg _=>(HS.put_other _ _ hjg).trans hj⟩
   show (wayF curN (n+1) (S.put g (some { x with q:=pickQ x.q S.gran })) g).2=x.q.pickI S.gran
   rw [wayF_ends (S':=S.put g (some { x with q:=pickQ x.q S.gran })) (m:=x.q.pickI S.gran) (curN_eq hs1) hc]
  ·
   rw [if_neg hc]
   have hm:∃ e,e ∈ x.q.L∧e.id=x.q.pickI S.gran:=by
    rcases hok.pickI_ok S.gran with e | hm
    · exact absurd (Or.inl (by omega)) hc
    · exact hm
   rcases H.chosen hg hm with ⟨t,ht,e⟩ | ⟨k,y,e,hk0,hk,hkg,hy,hup,hon,hdy⟩
   · exact absurd (Or.inr (by omega)) hc
   ·
    show HGood (wayF pickN n (S.put g (some { x with q:=pickQ x.q S.gran })) (x.q.pickI S.gran / 2).toNat).1∧_
    have hk2:(x.q.pickI S.gran / 2).toNat=k:=by rw [e];exact half k
    rw [hk2]
    have hy1:(S.put g (some { x with q:=pickQ x.q S.gran })).G k=some y:=(HS.put_other _ _ hkg).trans hy
    obtain ⟨h1,h2,h3,h4⟩:=pick_way n _ k y H1 hy1 (by omega)
    refine ⟨h1,(SameL.pick hg _).trans h2,?_,fun j z hj hjg hdz=>h4 j z ((HS.put_other _ _ hjg).trans hj) (fun hjk=>?_) (by omega)⟩
    ·
     have hgP:=h4 g _ hs1 (Ne.symm hkg) (show x.deep≤y.deep by omega)
     rw [wayF_goes (m:=x.q.pickI S.gran) (curN_eq hgP) hc,hk2]
     exact h3
    ·
     subst hjk
     rw [hy] at hj
     injection hj with hj
     subst hj
     omega
end Go.Proofs.YtefekboacghnjaaGreat
namespace Go.Proofs.YtefekboacghnjaaGreat
open Go.RowKit Go.Maps
structure HNew (w0 w:World) (h:Nat) (S:HS) (K:Int):Prop where
 ex:∃ F,HAt w h F S K∧Below w0.heap.size w0 w∧∀ b,b ∈ F→w0.heap.size≤b
section
variable {w0 w w':World} {h:Nat} {S S':HS} {K K':Int}
theorem HNew.base (a:HNew w0 w h S K):Below w0.heap.size w0 w:=by
 obtain ⟨F,_,h2,_⟩:=a.ex
 exact h2
theorem HNew.of {F F':List Nat} (h2:Below w0.heap.size w0 w) (h3:∀ b,b ∈ F→w0.heap.size≤b) (hT:HTurned w F h S' K' w' F'):HNew w0 w' h S' K' :=
 ⟨F',hT.at_,Below.turns h2 hT.turns h3 h2.size,fun b hb=>by
  rcases hT.sub b hb with e | e
  · exact h3 b e
  · exact Nat.le_trans h2.size e⟩
theorem HNew.mono (a:HNew w0 w h S K) (hK:K≤K') (h2:K'≤1000000000000000):HNew w0 w h S K':=by
 obtain ⟨F,h1,h3⟩:=a.ex
 exact ⟨F,h1.mono hK h2,h3⟩
theorem hn_new (credit gran:Int) (w:World):Calls Tryz.prog 5 #[.int .i64 credit,.int .i64 gran] w fun e w'=>∃ h,e=.returned (.pointer (some ⟨h,0,none⟩))∧Hid (HNew w w' h (newH credit gran) 1∧w.heap.size≤h) :=
 (hnew_any credit gran w).mono fun e w' hp=>by
  obtain ⟨h,F,he,hA,hb,hh,hF⟩:=hp
  exact ⟨h,he,⟨F,hA,hb,hF⟩,hh⟩
theorem hn_link (a:HNew w0 w h S K) {i pa:Nat} {p:Gr} (h0:1≤i) (hi:i<32) (hn:S.G i=none) (hp:S.G pa=some p) (hd:p.deep<8) :
  Calls Tryz.prog 9 #[.pointer (some ⟨h,0,none⟩),.int .i64 (i:Int),.int .i64 (pa:Int)] w fun r w'=>r=.returned (.int .i64 0)∧Hid (HNew w0 w' h (S.put i (some (linkG i pa p.deep))) K):=by
 obtain ⟨F,h1,h2,h3⟩:=a.ex
 refine (hlink_ok h1 h0 hi hn hp hd).mono fun r w' hpp=>?_
 obtain ⟨hr,F',hT⟩:=hpp
 exact ⟨hr,HNew.of h2 h3 hT.out⟩
theorem hn_put (a:HNew w0 w h S K) (H:HGood S) (hK:K+10000≤1000000000000000) {i:Nat} {x:Gr} (hg:S.G i=some x) (e:En) (he:e.num) (t0:0≤e.id) (t1:e.id<64) :
  Calls Tryz.prog 10 #[.pointer (some ⟨h,0,none⟩),.int .i64 (i:Int),enV e] w fun r w'=>r=.returned (.int .i64 (putC x.q (dblE e)))∧Hid (HNew w0 w' h (putHS S i x (dblE e)) (K+10000)):=by
 obtain ⟨F,h1,h2,h3⟩:=a.ex
 refine (hput_some h1 hK hg (H.inv.chain hg) e he t0 t1).mono fun r w' hpp=>?_
 obtain ⟨hr,F',hT⟩:=hpp
 exact ⟨hr,HNew.of h2 h3 hT.out⟩
theorem hn_pick (a:HNew w0 w h S K) (H:HGood S) (g1:-9223372036854775808≤S.gran) (g2:S.gran≤9223372036854775807) :
  Calls Tryz.prog 11 #[.pointer (some ⟨h,0,none⟩)] w fun r w'=>r=.returned (.int .i64 (pickHI 9 S))∧Hid (HNew w0 w' h (pickH 9 S) K):=by
 obtain ⟨F,h1,h2,h3⟩:=a.ex
 refine (hpick_any h1 9 H.pick0 g1 g2).mono fun r w' hpp=>?_
 obtain ⟨hr,F',hT⟩:=hpp
 exact ⟨hr,HNew.of h2 h3 hT.out⟩
theorem hn_run (a:HNew w0 w h S K) (H:HGood S) :
  Calls Tryz.prog 14 #[.pointer (some ⟨h,0,none⟩)] w fun r w'=>r=.returned (.int .i64 (runI 9 S))∧Hid (HNew w0 w' h S K):=by
 obtain ⟨F,h1,h2,h3⟩:=a.ex
 refine (hrun_any h1 9 H.cur0).mono fun r w' hpp=>?_
 obtain ⟨hr,F',hT⟩:=hpp
 exact ⟨hr,HNew.of h2 h3 hT.out⟩
theorem hn_charge (a:HNew w0 w h S K) (H:HGood S) (hK:K+10000≤1000000000000000) (ns:Nat) (hns:ns≤1000000000) (hr:runI 9 S ≠ -1) :
  Calls Tryz.prog 12 #[.pointer (some ⟨h,0,none⟩),.int .u64 ns] w fun r w'=>r=.returned (.int .i64 0)∧Hid (HNew w0 w' h (chargeF ns 9 S 0) (K+10000)):=by
 obtain ⟨F,h1,h2,h3⟩:=a.ex
 refine (hcharge_yes h1 9 (by omega) H.cur0 ns hns hr).mono fun r w' hpp=>?_
 obtain ⟨hr,F',hT⟩:=hpp
 exact ⟨hr,(HNew.of h2 h3 hT.out).mono (by omega) (by omega)⟩
theorem hn_on (a:HNew w0 w h S K) {i:Nat} {g:Gr} (h0:i≠0) (hg:S.G i=some g) :
  Calls Tryz.prog 13 #[.pointer (some ⟨h,0,none⟩),.int .i64 (i:Int)] w fun e w'=>e=.returned (.bool g.on)∧w=w':=by
 obtain ⟨F,h1,h2,h3⟩:=a.ex
 obtain ⟨gb,qb,Fq,m,rfl⟩:=h1.ex
 exact hon_some m h0 hg
end
/-! awake's states -/
def grOf (S:HS) (i:Nat):Gr:=(S.G i).getD ⟨-1,0,emptyQ,⟨0,0,0,0⟩,false,false⟩
def hw0:HS:=newH 0 0
def hw1:HS:=hw0.put 1 (some (linkG 1 0 0))
def hw2:HS:=putHS hw1 0 (grOf hw1 0) (dblE ⟨0,1024,0,0⟩)
def hw3:HS:=putHS hw2 1 (grOf hw2 1) (dblE ⟨1,1024,0,0⟩)
def hw4:HS:=pickH 9 hw3
def hw5:HS:=chargeF 9 9 hw4 0
def hw6:HS:=pickH 9 hw5
theorem hw1_0:hw1.G 0=some (grOf hw1 0):=by kernel_rfl
theorem hw2_1:hw2.G 1=some (grOf hw2 1):=by kernel_rfl
theorem hw2_c:putC (grOf hw1 0).q (dblE ⟨0,1024,0,0⟩)=0:=by kernel_rfl
theorem hw3_c:putC (grOf hw2 1).q (dblE ⟨1,1024,0,0⟩)=0:=by kernel_rfl
theorem hw3_p:pickHI 9 hw3=0:=by kernel_rfl
theorem hw4_r:runI 9 hw4=0:=by kernel_rfl
theorem hw5_p:pickHI 9 hw5=1:=by kernel_rfl
theorem hw6_r:runI 9 hw6=1:=by kernel_rfl
theorem hw6_1:hw6.G 1=some (grOf hw6 1):=by kernel_rfl
theorem hw6_o:(grOf hw6 1).on=true:=by kernel_rfl
end Go.Proofs.YtefekboacghnjaaGreat
namespace Go.Proofs.YtefekboacghnjaaGreat
open Go.RowKit Go.Maps
theorem charged_ok {e:En} (he:e.ok) (ns:Nat):(charged e ns).ok:=by
 have hw:=he.w1
 have h1:=satZ_lo e.v (((e.rem+ns*1024) / e.wt:Nat):Int)
 have h2:=satZ_hi e.v (((e.rem+ns*1024) / e.wt:Nat):Int)
 exact ⟨he.i1,he.i2,he.w1,he.w2,h1,h2,Nat.mod_lt _ (by omega)⟩
theorem chargeQ_ids (X:QS) (ns:Nat):(chargeQ X ns).L.map (·.id)=X.L.map (·.id):=by
 unfold chargeQ
 split
 · rfl
 ·
  split
  · rfl
  · exact setL_ids _ _
theorem chargeQ_ok {X:QS} (h:X.ok) (ns:Nat):(chargeQ X ns).ok:=by
 unfold chargeQ
 split
 · exact h
 ·
  rename_i e he
  split
  · exact h
  ·
   have:=h.set (charged_ok (h.ents e (QS.get_some he).1) ns)
   exact QS.ok.raise ⟨this.ents,this.ids,this.len,this.cur,this.m1,this.m2⟩
theorem charge_good (ns:Nat):∀ (n:Nat) (S:HS) (g:Nat),HGood S→HGood (chargeF ns n S g)
 | 0,_,_,H=>H
 | n+1,S,g,H=>by
  unfold chargeF
  split
  · exact H
  ·
   rename_i x hx
   have H1:=H.same hx (chargeQ_ok (H.inv.qok g x hx) ns) (chargeQ_ids x.q ns)
   split
   · exact H1
   · exact charge_good ns n _ _ H1
theorem pick_good {S:HS} (H:HGood S):HGood (pickH 9 S):=by
 obtain ⟨r,e1,_,e3⟩:=H.inv.tree.root
 exact (pick_way 9 S 0 r H e1 (by omega)).1
theorem pickN_grans:∀ (n:Nat) (S:HS) (g:Nat),(wayF pickN n S g).1.gran=S.gran∧(wayF pickN n S g).1.credit=S.credit
 | 0,_,_=>⟨rfl,rfl⟩
 | n+1,S,g=>by
  have h1:(pickN S g).1.gran=S.gran∧(pickN S g).1.credit=S.credit:=by unfold pickN;split <;> exact ⟨rfl,rfl⟩
  rw [wayF_succ]
  split
  · exact h1
  ·
   have:=pickN_grans n (pickN S g).1 ((pickN S g).2 / 2).toNat
   exact ⟨this.1.trans h1.1,this.2.trans h1.2⟩
theorem chargeF_grans (ns:Nat):∀ (n:Nat) (S:HS) (g:Nat),(chargeF ns n S g).gran=S.gran∧(chargeF ns n S g).credit=S.credit
 | 0,_,_=>⟨rfl,rfl⟩
 | n+1,S,g=>by
  unfold chargeF
  split
  · exact ⟨rfl,rfl⟩
  ·
   split
   · exact ⟨rfl,rfl⟩
   · exact chargeF_grans ns n _ _
theorem settleH_grans:∀ (n:Nat) (S:HS) (g:Nat),(settleH n S g).gran=S.gran∧(settleH n S g).credit=S.credit
 | 0,_,_=>⟨rfl,rfl⟩
 | n+1,S,g=>by
  unfold settleH
  split
  · exact ⟨rfl,rfl⟩
  ·
   split
   · exact ⟨rfl,rfl⟩
   ·
    split
    · exact ⟨rfl,rfl⟩
    ·
     split
     · exact ⟨rfl,rfl⟩
     ·
      have h1:∀ (i u:Nat) (x p:Gr),(stepH S i u x p).gran=S.gran∧(stepH S i u x p).credit=S.credit:=fun i u x p=>by unfold stepH;split <;> exact ⟨rfl,rfl⟩
      exact ⟨(settleH_grans n _ _).1.trans (h1 _ _ _ _).1,(settleH_grans n _ _).2.trans (h1 _ _ _ _).2⟩
theorem putHS_grans (S:HS) (i:Nat) (x:Gr) (e:En):(putHS S i x e).gran=S.gran∧(putHS S i x e).credit=S.credit:=by
 unfold putHS
 split
 · exact settleH_grans _ _ _
 · exact ⟨rfl,rfl⟩
theorem good1:HGood hw1:=link_good (p:=⟨-1,0,emptyQ,⟨0,0,0,0⟩,false,false⟩) (new_good 0 0) (by decide) (by decide) rfl rfl (by decide)
theorem good2:HGood hw2:=put_good good1 hw1_0 (t:=0) (by decide) rfl ⟨by decide,by decide⟩
theorem good3:HGood hw3:=put_good good2 hw2_1 (t:=1) (by decide) rfl ⟨by decide,by decide⟩
theorem good4:HGood hw4:=pick_good good3
theorem good5:HGood hw5:=charge_good 9 9 hw4 0 good4
theorem good6:HGood hw6:=pick_good good5
theorem gran3:hw3.gran=0:=(putHS_grans _ _ _ _).1.trans ((putHS_grans _ _ _ _).1.trans rfl)
theorem gran5:hw5.gran=0:=(chargeF_grans _ _ _ _).1.trans ((pickN_grans _ _ _).1.trans gran3)
set_option maxRecDepth 100000 in
set_option maxHeartbeats 8000000 in
theorem awake20 (w:World):Calls Tryz.prog 4 #[] w fun e w'=>e=.returned (.bool true)∧Below w.heap.size w w':=by
 go_enter Tryz.func4,Tryz.ntmps4
 go_wp2_with fail
 refine (hn_new 0 0 w).mono ?_
 rintro e w1 ⟨h,rfl,H1⟩
 go_wp2_with fail
 have M:=Lib.hid (show Calls Tryz.prog 9 #[.pointer (some ⟨h,0,none⟩),.int .i64 1,.int .i64 0] w1 fun r w'=>r=.returned (.int .i64 0)∧Hid (HNew w w' h hw1 1) from hn_link (i:=1) (pa:=0) (p:=⟨-1,0,emptyQ,⟨0,0,0,0⟩,false,false⟩) H1.out.1 (by decide) (by decide) rfl rfl (by decide))
 refine M.out.mono ?_
 rintro e w2 ⟨rfl,H2⟩
 clear M
 go_wp2_with fail
 have M:=hn_put H2.out good1 (by decide) (i:=0) hw1_0 ⟨0,1024,0,0⟩ ⟨by decide,by decide,by decide,by decide,by decide,by decide⟩ (by decide) (by decide)
 rw [hw2_c] at M
 have M:=Lib.hid (show Calls Tryz.prog 10 #[.pointer (some ⟨h,0,none⟩),.int .i64 0,.agg #[.int .i64 0,.int .u64 1024,.int .i64 0,.int .u64 0]] w2 fun r w'=>r=.returned (.int .i64 0)∧Hid (HNew w w' h hw2 10001) from M)
 refine M.out.mono ?_
 rintro e w3 ⟨rfl,H3⟩
 clear M
 go_wp2_with fail
 have M:=hn_put H3.out good2 (by decide) (i:=1) hw2_1 ⟨1,1024,0,0⟩ ⟨by decide,by decide,by decide,by decide,by decide,by decide⟩ (by decide) (by decide)
 rw [hw3_c] at M
 have M:=Lib.hid (show Calls Tryz.prog 10 #[.pointer (some ⟨h,0,none⟩),.int .i64 1,.agg #[.int .i64 1,.int .u64 1024,.int .i64 0,.int .u64 0]] w3 fun r w'=>r=.returned (.int .i64 0)∧Hid (HNew w w' h hw3 20001) from M)
 refine M.out.mono ?_
 rintro e w4 ⟨rfl,H4⟩
 clear M
 go_wp2_with fail
 have M:=hn_pick H4.out good3 (by rw [gran3];decide) (by rw [gran3];decide)
 rw [hw3_p] at M
 have M:=Lib.hid M
 refine M.out.mono ?_
 rintro e w5 ⟨rfl,H5⟩
 clear M
 go_wp2_with fail
 have M:=Lib.hid (hn_charge (show HNew w w5 h hw4 20001 from H5.out) good4 (by decide) 9 (by decide) (by rw [hw4_r];decide))
 refine M.out.mono ?_
 rintro e w6 ⟨rfl,H6⟩
 clear M
 go_wp2_with fail
 have M:=hn_pick (show HNew w w6 h hw5 30001 from H6.out) good5 (by rw [gran5];decide) (by rw [gran5];decide)
 rw [hw5_p] at M
 have M:=Lib.hid M
 refine M.out.mono ?_
 rintro e w7 ⟨rfl,H7⟩
 clear M
 have MO:=hn_on (show HNew w w7 h hw6 30001 from H7.out) (by decide) hw6_1
 rw [hw6_o] at MO
 have MO:=Lib.hid (show Calls Tryz.prog 13 #[.pointer (some ⟨h,0,none⟩),.int .i64 1] w7 fun e w'=>e=.returned (.bool true)∧w7=w' from MO)
 have MR:=hn_run (show HNew w w7 h hw6 30001 from H7.out) good6
 rw [hw6_r] at MR
 have MR:=Lib.hid MR
 go_wp2_with (first
  | (go_at_call 13;refine MO.out.mono ?_;rintro e w' ⟨rfl,rfl⟩)
  | (go_at_call 14;refine MR.out.mono ?_;rintro e w9 ⟨rfl,H9⟩))
 go_ret
 exact ⟨rfl,H9.out.base⟩
end Go.Proofs.YtefekboacghnjaaGreat
namespace Go.Proofs.YtefekboacghnjaaGreat
open Go.RowKit Go.Maps
end Go.Proofs.YtefekboacghnjaaGreat
