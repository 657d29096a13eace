/-
  doleref08, the plain part: what Weigh and Charge make of a row is what the queue's own functions make of it.
  A region that draws its order, by an invariant: each operation is run once, whatever came up before it.
  doleref08: Put, where the entity is taken.
-/
import Derived.Test.YtefekboacghnjaaGreatPb
import Derived.Test.YtefekboacghnjaaGreatMi
import Derived.StillTail
import Derived.Test.YtefekboacghnjaaGreatPc
import Derived.Laws.OwnMore
namespace Go.Proofs.YtefekboacghnjaaGreat
open Go.RowKit Go.Maps
theorem set_is {L:List En} (hn:(L.map (·.id)).Nodup) {k:Nat} (hk:k<L.length) {e:En} (he:e.id=(L.getD k En.nil).id):L.set k e=setL L e:=by
 have key:L.set k e=L.map fun x=>if x.id=e.id then e else x:=by
  refine List.ext_getElem (by rw [List.length_set,List.length_map]) fun j h1 h2=>?_
  have hj:j<L.length:=by rwa [List.length_set] at h1
  rw [List.getElem_set,List.getElem_map]
  rw [getD_at L hk] at he
  by_cases hjk:k=j
  ·
   subst hjk
   rw [if_pos rfl,if_pos he.symm]
  ·
   rw [if_neg hjk,if_neg]
   intro hid
   have h3:(L.map (·.id))[j]'(by simpa using hj)=(L.map (·.id))[k]'(by simpa using hk):=by
    rw [List.getElem_map,List.getElem_map,hid,he]
   exact hjk ((List.getElem_inj hn).1 h3).symm
 exact key
theorem drop_is {i:Int}:∀ {L:List En} {k:Nat},(L.map (·.id)).Nodup→fnd L i=some k→L.take k++L.drop (k+1)=lessL L i
 | [],k,_,h=>by simp [fnd] at h
 | e::L,k,hn,h=>by
  rw [List.map_cons,List.nodup_cons] at hn
  unfold fnd at h
  by_cases he:e.id=i
  ·
   rw [if_pos he] at h
   obtain rfl:0=k:=by injection h
   have hall:∀ x ∈ L,decide (x.id≠i)=true:=fun x hx=>decide_eq_true fun hc=>hn.1 (List.mem_map.2 ⟨x,hx,hc.trans he.symm⟩)
   show L=(e::L).filter fun x=>decide (x.id≠i)
   rw [List.filter_cons_of_neg (by simp [he]),List.filter_eq_self.2 hall]
  ·
   rw [if_neg he] at h
   obtain ⟨j,hj,rfl⟩:=Option.map_eq_some_iff.1 h
   have ih:=drop_is hn.2 hj
   show e::(L.take j++L.drop (j+1))=(e::L).filter fun x=>decide (x.id≠i)
   rw [ih,List.filter_cons_of_pos (by simp [he])]
   rfl
section
variable {X:QS}
theorem fnd_none_iff {i:Int} (h:fnd X.L i=none):i ∉ X.L.map (·.id):=(fnd_not h).2
theorem fnd_mem {i:Int} {k:Nat} (h:fnd X.L i=some k):i ∈ X.L.map (·.id):=by
 obtain ⟨h1,h2,_⟩:=fnd_at h
 exact List.mem_map.2 ⟨X.L.getD k En.nil,by rw [getD_at _ h1];exact List.getElem_mem _,h2⟩
theorem find_is {i:Int} {k:Nat} (h:fnd X.L i=some k):X.get i=some (X.L.getD k En.nil):=(fnd_at h).2.2
theorem find_no {i:Int} (h:fnd X.L i=none):X.get i=none:=(fnd_not h).1
theorem raise_led (hl:X.led) {L':List En} (hk:ksOf L'=ksOf X.L):raiseZ X.mn L'=X.mn:=by
 unfold raiseZ
 rw [hk]
 split
 · rfl
 ·
  rename_i k h
  exact Int.max_eq_left (hl k h)
theorem weigh_is (h:X.ok) (hl:X.led) (i:Int) (wn:Nat) :
  weighL X.L i wn=(weighQ X i wn).L∧weighM X.L X.mn i wn=(weighQ X i wn).mn∧weighE X.L i wn=weighC X i wn∧(weighQ X i wn).cur=X.cur∧(weighQ X i wn).over=X.over:=by
 unfold weighL weighM weighE weighC weighQ
 cases hf:fnd X.L i with
 | none =>
  rw [find_no hf,if_neg (fnd_none_iff hf)]
  exact ⟨rfl,rfl,rfl,rfl,rfl⟩
 | some k =>
  obtain ⟨h1,h2,_⟩:=fnd_at hf
  rw [find_is hf,if_pos (fnd_mem hf)]
  simp only
  by_cases hw:2≤wn∧wn≤262144
  ·
   have hw2:¬ (wn<2∨262144<wn):=by omega
   rw [if_pos hw,if_pos hw,if_pos hw,if_neg hw2,if_neg hw2]
   have hs:X.L.set k (weighed (X.L.getD k En.nil) wn)=setL X.L (weighed (X.L.getD k En.nil) wn):=set_is h.ids h1 rfl
   have hm:X.L.getD k En.nil ∈ X.L:=by rw [getD_at _ h1];exact List.getElem_mem _
   refine ⟨hs,?_,rfl,rfl,rfl⟩
   rw [hs]
   exact raise_led hl (ksOf_set_same h.ids hm rfl)
  ·
   have hw2:wn<2∨262144<wn:=by omega
   rw [if_neg hw,if_neg hw,if_neg hw,if_pos hw2,if_pos hw2]
   exact ⟨rfl,rfl,rfl,rfl,rfl⟩
theorem charge_is (h:X.ok) (ns:Nat) :
  chargeL X.L X.cur ns=(chargeQ X ns).L∧chargeM X.L X.mn X.cur ns=(chargeQ X ns).mn∧chargeFl X.L X.cur X.over ns=(chargeQ X ns).over∧chargeE X.L X.cur ns=chargeC X ns∧(chargeQ X ns).cur=X.cur:=by
 unfold chargeL chargeM chargeFl chargeE chargeC chargeQ
 cases hf:fnd X.L X.cur with
 | none =>
  have hc:X.cur = -1:=by
   rcases h.cur with hc | ⟨x,hx,hxc⟩
   · exact hc
   · exact absurd (List.mem_map.2 ⟨x,hx,hxc⟩) (fnd_none_iff hf)
  rw [find_no hf,if_pos hc]
  exact ⟨rfl,rfl,rfl,rfl,rfl⟩
 | some k =>
  obtain ⟨h1,h2,_⟩:=fnd_at hf
  have hm:X.L.getD k En.nil ∈ X.L:=by rw [getD_at _ h1];exact List.getElem_mem _
  have hc:X.cur ≠ -1:=by have:=(h.ents _ hm).i1;omega
  rw [find_is hf,if_neg hc]
  simp only
  by_cases hb:1000000000<ns
  ·
   rw [if_pos hb,if_pos hb,if_pos hb,if_pos hb]
   exact ⟨rfl,rfl,rfl,by first | rfl | trivial,rfl⟩
  ·
   rw [if_neg hb,if_neg hb,if_neg hb,if_neg hb]
   have hs:X.L.set k (charged (X.L.getD k En.nil) ns)=setL X.L (charged (X.L.getD k En.nil) ns):=set_is h.ids h1 rfl
   rw [hs]
   exact ⟨rfl,rfl,rfl,by first | rfl | trivial,rfl⟩
end
end Go.Proofs.YtefekboacghnjaaGreat
namespace Go.Proofs.YtefekboacghnjaaGreat
open Go.RowKit Go.Maps
theorem count_set_true (l:List Bool) (i:Nat) (h:l[i]?=some false):(l.set i true).count false+1=l.count false:=by
 induction l generalizing i with
 | nil=>simp at h
 | cons a l ih =>
  cases i with
  | zero =>
   simp at h
   subst h
   simp
  | succ i =>
   rw [List.set_cons_succ,List.count_cons,List.count_cons]
   have:=ih i (by simpa using h)
   omega
def lsd (l:Array Bool) (j:Nat):Bool:=l.getD j false
theorem lsd_start (n j:Nat):lsd (Array.replicate n false) j=false:=by
 unfold lsd
 rw [Array.getD_eq_getD_getElem?]
 by_cases h:j<n
 ·
  rw [Array.getElem?_eq_getElem (by simpa using h)]
  simp
 ·
  rw [Array.getElem?_eq_none (by simp;omega)]
  rfl
theorem lsd_self {listed:Array Bool} {i:Nat} (h:i<listed.size):lsd (listed.setIfInBounds i true) i=true:=by
 unfold lsd
 rw [Array.getD_eq_getD_getElem?,Array.getElem?_setIfInBounds,if_pos rfl,if_pos h]
 rfl
theorem lsd_other {listed:Array Bool} {i j:Nat} (h:i≠j):lsd (listed.setIfInBounds i true) j=lsd listed j:=by
 unfold lsd
 rw [Array.getD_eq_getD_getElem?,Array.getD_eq_getD_getElem?,Array.getElem?_setIfInBounds_ne h]
def Clo (md:Region.Mode) (ops:Array Oper) (l:Array Bool):Prop:=∀ j o,ops[j]?=some o→lsd l j=true→∀ e ∈ o.after,Region.binds md e=true→lsd l e.on=true
theorem Clo.start (md:Region.Mode) (ops:Array Oper) (n:Nat):Clo md ops (Array.replicate n false):=fun j o _ h=>by
 rw [lsd_start] at h
 exact absurd h (by decide)
theorem Clo.step {md:Region.Mode} {ops:Array Oper} {l:Array Bool} (c:Clo md ops l) (hs:l.size=ops.size) {i:Nat} (h:i ∈ Region.ready md ops l):Clo md ops (l.setIfInBounds i true):=fun j o ho hj e he hb=>by
 obtain ⟨_,oi,hoi,hd⟩:=mem_ready.1 h
 have hlt:=(Array.getElem?_eq_some_iff.1 hoi).1
 have hon:lsd l e.on=true:=by
  by_cases hji:i=j
  ·
   subst hji
   have:oi=o:=Option.some.inj (hoi.symm.trans ho)
   subst this
   exact hd e he hb
  ·
   rw [lsd_other hji] at hj
   exact c j o ho hj e he hb
 by_cases hei:i=e.on
 ·
  rw [← hei]
  exact lsd_self (by omega)
 ·
  rw [lsd_other hei]
  exact hon
theorem lsd_not {l:Array Bool} {a b:Nat} (h:lsd l a=true→lsd l b=true) (hb:lsd l b=false):lsd l a=false:=by
 cases ha:lsd l a with
 | false=>rfl
 | true =>
  rw [h ha] at hb
  exact absurd hb (by decide)
theorem lsd_no {l:Array Bool} {a:Nat} {p:Prop} (h1:lsd l a=true) (h2:lsd l a=false):p:=by
 rw [h1] at h2
 exact absurd h2 (by decide)
theorem lq {p q:Bool} {R:Prop} (i:p=true→R) (e:q=p):q=true→R:=fun h=>i (e.symm.trans h)
theorem lnq {p q:Bool} {R:Prop} (e:q=p) (n:p=false):q=true→R:=fun h=>absurd (n.symm.trans (e.symm.trans h)) (by decide)
theorem wpAny_inv {P:Program} {md:Region.Mode} {ops:Array Oper} {Q:Exit→Act→World→Prop} (Inv:Array Bool→Act→World→Prop)
  (hstep:∀ listed a w,listed.size=ops.size→Clo md ops listed→Inv listed a w→∀ i,i ∈ Region.ready md ops listed→wpOp P ops Q i (fun a' w'=>Inv (listed.setIfInBounds i true) a' w') a w)
  (hend:∀ listed a w,listed.size=ops.size→Inv listed a w→Region.ready md ops listed=[]→Q .normal a w) :
  ∀ (fuel:Nat) (listed:Array Bool) (a:Act) (w:World),listed.size=ops.size→Clo md ops listed→Inv listed a w→listed.toList.count false=fuel→wpAny P md ops Q fuel listed a w
 | 0,listed,a,w,hs,_,hi,hc=>by
  have hr:Region.ready md ops listed=[]:=by
   refine List.eq_nil_iff_forall_not_mem.2 fun j hj=>?_
   obtain ⟨h1,_⟩:=mem_ready.1 hj
   have hlt:j<listed.size:=by
    refine Decidable.byContradiction fun h=>?_
    rw [Array.getD_eq_getD_getElem?,Array.getElem?_eq_none (by omega)] at h1
    simp at h1
   have hm:false ∈ listed.toList:=by
    rw [Array.getD_eq_getD_getElem?,Array.getElem?_eq_getElem hlt] at h1
    have h2:listed[j]=false:=h1
    rw [← h2]
    exact Array.getElem_mem_toList hlt
   have:=List.count_pos_iff.2 hm
   omega
  exact ⟨hr,hend listed a w hs hi hr⟩
 | fuel+1,listed,a,w,hs,hcl,hi,hc=>by
  refine ⟨fun hr=>hend listed a w hs hi hr,fun i hir=>?_⟩
  obtain ⟨h1,_⟩:=mem_ready.1 hir
  have hlt:i<listed.size:=by
   refine Decidable.byContradiction fun h=>?_
   rw [Array.getD_eq_getD_getElem?,Array.getElem?_eq_none (by omega)] at h1
   simp at h1
  have h2:listed.toList[i]?=some false:=by
   rw [Array.getD_eq_getD_getElem?,Array.getElem?_eq_getElem hlt] at h1
   rw [Array.getElem?_toList,Array.getElem?_eq_getElem hlt]
   exact congrArg some h1
  have h3:=count_set_true listed.toList i h2
  refine wpOp_mono (fun a' w' h'=>wpAny_inv Inv hstep hend fuel _ a' w' (by simpa using hs) (hcl.step hs hir) h' ?_) (hstep listed a w hs hcl hi i hir)
  rw [Array.toList_setIfInBounds]
  omega
theorem count_start (n:Nat):(Array.replicate n false).toList.count false=n:=by simp
def putR (a0:Act) (k n:Nat) (x:Nat→Value):Act:={ a0 with tmps:=a0.tmps.mapIdx fun j v=>if k≤j∧j<k+n then x j else v }
def updX (x:Nat→Value) (d:Nat) (v:Value):Nat→Value:=fun j=>if j=d then v else x j
theorem putR_put (a0:Act) (k n:Nat) (x:Nat→Value) (d:Nat) (h1:k≤d) (h2:d<k+n) (v:Value):(putR a0 k n x).put (some d) v=putR a0 k n (updX x d v):=by
 suffices key:(a0.tmps.mapIdx fun j v=>if k≤j∧j<k+n then x j else v).setIfInBounds d v=a0.tmps.mapIdx fun j u=>if k≤j∧j<k+n then updX x d v j else u by
  unfold putR Act.put
  dsimp only
  rw [key]
 refine Array.ext_getElem? fun j=>?_
 by_cases hj:j<a0.tmps.size
 ·
  rw [Array.getElem?_mapIdx,Array.getElem?_setIfInBounds,Array.getElem?_mapIdx,Array.size_mapIdx]
  by_cases hjd:d=j
  ·
   subst hjd
   rw [if_pos rfl,if_pos hj,Array.getElem?_eq_getElem hj]
   simp [updX,h1,h2]
  ·
   rw [if_neg hjd]
   have e:updX x d v j=x j:=if_neg (fun h=>hjd h.symm)
   rw [e]
 · rw [Array.getElem?_eq_none (by simp;omega),Array.getElem?_eq_none (by simp;omega)]
theorem putR_in (a0:Act) (k n:Nat) (x:Nat→Value) (d:Nat) (h1:k≤d) (h2:d<k+n) (h3:d<a0.tmps.size):(putR a0 k n x).tmps[d]?.getD undef=x d:=by
 unfold putR
 simp [h1,h2,h3]
theorem putR_out (a0:Act) (k n:Nat) (x:Nat→Value) (d:Nat) (h:d<k∨k+n≤d):(putR a0 k n x).tmps[d]?.getD undef=a0.tmps[d]?.getD undef:=by
 unfold putR
 by_cases hd:d<a0.tmps.size
 ·
  have:¬(k≤d∧d<k+n):=by omega
  simp [hd,this]
 · simp [hd]
theorem putR_eval (a0:Act) (k n:Nat) (x:Nat→Value) (d:Nat) (h1:k≤d) (h2:d<k+n) (h3:d<a0.tmps.size):(putR a0 k n x).eval (.tmp d)=x d:=by
 unfold putR Act.eval
 simp [h1,h2,h3]
theorem wpAny_inv0 {P:Program} {md:Region.Mode} {ops:Array Oper} {Q:Exit→Act→World→Prop} {a0:Act} {w0:World} (F:Act→Prop) (hF:F a0) (Inv:Act→Array Bool→Act→World→Prop)
  (h0:∀ a0,F a0→Inv a0 (Array.replicate ops.size false) a0 w0)
  (hstep:∀ a0,F a0→∀ listed a w,listed.size=ops.size→Clo md ops listed→Inv a0 listed a w→∀ i,i ∈ Region.ready md ops listed→wpOp P ops Q i (fun a' w'=>Inv a0 (listed.setIfInBounds i true) a' w') a w)
  (hend:∀ listed a w,listed.size=ops.size→Inv a0 listed a w→Region.ready md ops listed=[]→Q .normal a w) :
  wpAny P md ops Q ops.size (Array.replicate ops.size false) a0 w0 :=
 wpAny_inv (Inv a0) (hstep a0 hF) hend ops.size _ a0 w0 (by simp) (Clo.start _ _ _) (h0 a0 hF) (count_start _)
theorem ready_nil {md:Region.Mode} {ops:Array Oper} {listed:Array Bool} (hr:Region.ready md ops listed=[]) (hs:listed.size=ops.size) {j:Nat} {o:Oper} (ho:ops[j]?=some o) (hd:∀ e ∈ o.after,Region.binds md e=true→lsd listed e.on=true):lsd listed j=true:=by
 have hlt:j<listed.size:=by rw [hs];exact (Array.getElem?_eq_some_iff.1 ho).1
 cases h:lsd listed j with
 | true=>rfl
 | false =>
  have h2:listed.getD j true=false:=by
   unfold lsd at h
   rw [Array.getD_eq_getD_getElem?,Array.getElem?_eq_getElem hlt] at h ⊢
   exact h
  have:=(mem_ready (md:=md) (ops:=ops)).2 ⟨h2,o,ho,hd⟩
  rw [hr] at this
  simp at this
theorem ready_of {md:Region.Mode} {ops:Array Oper} {listed:Array Bool} (hs:listed.size=ops.size) {i:Nat} (h:i ∈ Region.ready md ops listed):i<ops.size∧lsd listed i=false∧∃ o,ops[i]?=some o∧∀ e ∈ o.after,Region.binds md e=true→lsd listed e.on=true:=by
 obtain ⟨hu,o,ho,hd⟩:=mem_ready.1 h
 have hlt:=(Array.getElem?_eq_some_iff.1 ho).1
 refine ⟨hlt,?_,o,ho,hd⟩
 unfold lsd
 rw [Array.getD_eq_getD_getElem?,Array.getElem?_eq_getElem (by omega)] at hu ⊢
 exact hu
theorem putR_start (a0:Act) (k n:Nat):∃ x,a0=putR a0 k n x:=by
 refine ⟨fun j=>a0.tmps.getD j undef,?_⟩
 have key:a0.tmps=a0.tmps.mapIdx fun j v=>if k≤j∧j<k+n then a0.tmps.getD j undef else v:=by
  refine Array.ext_getElem? fun j=>?_
  by_cases hj:j<a0.tmps.size
  ·
   rw [Array.getElem?_mapIdx,Array.getElem?_eq_getElem hj]
   simp [hj]
  · rw [Array.getElem?_eq_none (by omega),Array.getElem?_eq_none (by simp;omega)]
 unfold putR
 rw [← key]
end Go.Proofs.YtefekboacghnjaaGreat
namespace Go.Proofs.YtefekboacghnjaaGreat
open Go.RowKit Go.Maps
theorem mixed8:Tryz.prog.follows .mixedOrders=true:=by kernel_rfl
theorem step_append_rows {P:Program} {ops:Array Oper} {o:Oper} {a:Act} {w:World} {K:Act→World→Prop} {Q:Exit→Act→World→Prop} {E:Prop}
  (hg:o.guard=none) (s x:Operand) (t:TypeId) (hop:o.op=Op.call { callee:=Callee.builtin Builtin.append,args:=#[s,x],argTypes:=#[t,t] })
  (base:Nat) (e:TypeId) (i:TypeInfo) (z:Value) (size bytes:Nat) (h1:P.underlying t=some (.slice e)) (h2:P.info? e=some i) (h3:i.zero=some z) (h4:i.size=size) (h5:i.bytes=bytes) (h6:z.cells.size=size) (h7:0<size)
  (v:Value) (n:Nat) (xs:List Value) (hs:a.eval s=v) (hown:w.ownsRow base e size v n xs)
  (A:Option Addr) (m c:Nat) (news:List Value) (hx:a.eval x=.slice A m c) (hn:news.length=m*size)
  (hA:(A=none∧m=0∧c=0)∨∃ ad,A=some ad∧∀ j u,news[j]?=some u→w.cell? (ad.add j)=some u) (h1c:∀ u ∈ news,u.oneCell'=true)
  (b1:n+m≤maxLen) (b2:(n+m)*bytes≤140737488355328) (hbase:base≤w.heap.size)
  (hK:∀ v' w',w'.ownsRow base e size v' (n+m) (xs++news)→w.grownBy w' v.ownBlock→K (a.put o.dst v') w') :
  if Region.wanted o (yielded ops a.tmps)=true then Oper.wp P o a w K Q else E:=by
 have hw:Region.wanted o (yielded ops a.tmps)=true:=by simp [Region.wanted,hg]
 rw [if_pos hw]
 rcases hA with ⟨rfl,rfl,rfl⟩ | ⟨ad,rfl,hc⟩
 ·
  have hn0:news=[]:=List.eq_nil_of_length_eq_zero (by simpa using hn)
  subst hn0
  have hrun:=run_append_owned_none (P:=P) (w:=w) base t o.type e i size h1 h2 v n xs hown
  unfold Oper.wp
  simp [execOp,hop,resolve,invoke,builtin,hs,hx,hrun,Result.andThen]
  exact hK _ _ (by simpa using hown) (World.grownBy.refl _ _)
 ·
  obtain ⟨v',w',hrun,r1,r2,r3⟩:=run_append_where (P:=P) w base t o.type e i z size bytes h1 h2 h3 h4 h5 h6 h7 v n xs hown ad m c news hn hc h1c b1 b2 hbase
  unfold Oper.wp
  simp [execOp,hop,resolve,invoke,builtin,hs,hx,hrun,Result.andThen]
  exact hK v' w' r1 r2
theorem own_empty1 (D:World) (base:Nat) (t:TypeId) (hb:base≤D.heap.size):(D.alloc (.cells #[] t)).ownsRow base t 4 (.slice (some ⟨D.heap.size,0,none⟩) 0 0) 0 [] :=
 ⟨rfl,.inr ⟨D.heap.size,0,#[],rfl,hb,Blk.new D #[] t,by omega,by unfold maxLen;omega,rfl,rfl⟩⟩
theorem news_blk {w:World} {b:Nat} {e:En} {t:TypeId} (h:Blk w b #[.int .i64 e.id,.int .u64 e.wt,.int .i64 e.v,.int .u64 e.rem] t):∀ j u,(ecl e)[j]?=some u→w.cell? ((⟨b,0,none⟩:Addr).add j)=some u:=by
 intro j u hj
 rw [addr_add,Nat.zero_add,Blk.cell h j,← hj]
 match j with
 | 0=>rfl
 | 1=>rfl
 | 2=>rfl
 | 3=>rfl
 | _+4=>rfl
theorem four_far (w:World) (b:Nat) (u0 u1 u2 u3:Value) {c:Nat} (h:c≠b):((((w.setCell ⟨b,0,none⟩ u0).setCell ⟨b,1,none⟩ u1).setCell ⟨b,2,none⟩ u2).setCell ⟨b,3,none⟩ u3).heap[c]?=w.heap[c]?:=by
 have h0:=Below.heap_setCell w ⟨b,0,none⟩ u0 c h
 have h1:=Below.heap_setCell (w.setCell ⟨b,0,none⟩ u0) ⟨b,1,none⟩ u1 c h
 have h2:=Below.heap_setCell ((w.setCell ⟨b,0,none⟩ u0).setCell ⟨b,1,none⟩ u1) ⟨b,2,none⟩ u2 c h
 have h3:=Below.heap_setCell (((w.setCell ⟨b,0,none⟩ u0).setCell ⟨b,1,none⟩ u1).setCell ⟨b,2,none⟩ u2) ⟨b,3,none⟩ u3 c h
 exact h3.trans (h2.trans (h1.trans h0))
theorem four_sz (w:World) (b:Nat) (u0 u1 u2 u3:Value):((((w.setCell ⟨b,0,none⟩ u0).setCell ⟨b,1,none⟩ u1).setCell ⟨b,2,none⟩ u2).setCell ⟨b,3,none⟩ u3).heap.size=w.heap.size:=by simp [World.setCell]
theorem RqRes.four {w w9:World} {A:Option Addr} {g c2 b:Nat} {L:List En} (hB:Below w.heap.size w w9) (hc:L.length≤c2) (hr:RowE w9 w9.heap.size (some ⟨g,0,none⟩) L) (hg:w.heap.size≤g) (hne:g≠b) (hb:w.heap.size≤b) (u0 u1 u2 u3:Value) :
  RqRes w ((((w9.setCell ⟨b,0,none⟩ u0).setCell ⟨b,1,none⟩ u1).setCell ⟨b,2,none⟩ u2).setCell ⟨b,3,none⟩ u3) A (some ⟨g,0,none⟩) c2 L:=by
 have hs:=four_sz w9 b u0 u1 u2 u3
 have ho:∀ c,c≠b→_:=fun c h=>four_far w9 b u0 u1 u2 u3 (c:=c) h
 have hf:=four_below hB b hb u0 u1 u2 u3
 generalize (((w9.setCell ⟨b,0,none⟩ u0).setCell ⟨b,1,none⟩ u1).setCell ⟨b,2,none⟩ u2).setCell ⟨b,3,none⟩ u3=W at *
 refine ⟨⟨?_,fun h=>by simp at h,hc⟩,.inr fun a ha=>?_,hf⟩
 ·
  rcases hr with h | ⟨b2,off,q1,q2,q3⟩
  · exact .inl h
  ·
   refine .inr ⟨b2,off,q1,by omega,fun j hj=>(q3 j hj).of (ho b2 ?_)⟩
   injection q1 with q1
   injection q1 with q1 _ _
   omega
 ·
  injection ha with ha
  rw [← ha]
  exact hg
set_option maxRecDepth 100000 in
set_option maxHeartbeats 16000000 in
theorem rput_good (A:Option Addr) (c:Nat) (X:QS) (e:En) (he:e.num) (w:World) (hA:RQ w w.heap.size A c X.L) (hl:X.L.length<128) (c1:¬(e.id<0)) (c2:2≤e.wt∧e.wt≤262144) (c3:¬(e.wt≤e.rem)) (hf:fnd X.L e.id=none) :
  Calls Tryz.prog 63 #[rqV A X.L.length c X.cur X.mn X.over,enV e] w fun r w'=>∃ A' c',r=.returned (.tuple #[rqV A' (putQ X e).L.length c' X.cur (putQ X e).mn X.over,.int .i64 (putC X e)])∧Hid (RqRes w w' A A' c' (putQ X e).L∧∀ a,A'=some a→w.heap.size≤a.block):=by
 obtain ⟨L,cur,mn,fl⟩:=X
 dsimp only at hA hl hf ⊢
 obtain ⟨i0,hi,iz0,iz1,iz2⟩:=info_parts infoEn
 have HA:=Lib.hid hA
 obtain ⟨n,hn⟩:∃ n,n=L.length:=⟨_,rfl⟩
 have HN:=Lib.hid hn
 obtain ⟨W3,hW3,hb3,hs3,m1,m2,m3⟩:=rboxes3 w #[.slice A n c,.int .i64 cur,.int .i64 mn,.bool fl] #[.int .i64 e.id,.int .u64 e.wt,.int .i64 e.v,.int .u64 e.rem] #[.slice none 0 0,.int .i64 0,.int .i64 0,.bool false] 29 34 29
 have MF:=rfind_any A c L cur mn fl e.id W3 ((hA.1.below hb3).mono (by omega)) (by omega)
 rw [← hn] at MF
 have MF:=Lib.hid MF
 have MM:=Lib.hid fun W=>rmay_any e.wt he.w2 W
 have HW3:=Lib.hid hW3
 have HM:=Lib.hid (And.intro m1 (And.intro m2 m3))
 have HB3:=Lib.hid (And.intro hb3 hs3)
 have x0:W3.cell? ⟨w.heap.size,0,none⟩=some (.slice A n c):=Blk.cell m1 0
 have x1:W3.cell? ⟨w.heap.size,1,none⟩=some (.int .i64 cur):=Blk.cell m1 1
 have x2:W3.cell? ⟨w.heap.size,2,none⟩=some (.int .i64 mn):=Blk.cell m1 2
 have x3:W3.cell? ⟨w.heap.size,3,none⟩=some (.bool fl):=Blk.cell m1 3
 have y0:W3.cell? ⟨w.heap.size+1,0,none⟩=some (.int .i64 e.id):=Blk.cell m2 0
 have y1:W3.cell? ⟨w.heap.size+1,1,none⟩=some (.int .u64 e.wt):=Blk.cell m2 1
 have y3:W3.cell? ⟨w.heap.size+1,3,none⟩=some (.int .u64 e.rem):=Blk.cell m2 3
 have r0:W3.cell? ⟨w.heap.size+2,0,none⟩=some (.slice none 0 0):=Blk.cell m3 0
 have r1:W3.cell? ⟨w.heap.size+2,1,none⟩=some (.int .i64 0):=Blk.cell m3 1
 have r2:W3.cell? ⟨w.heap.size+2,2,none⟩=some (.int .i64 0):=Blk.cell m3 2
 have r3:W3.cell? ⟨w.heap.size+2,3,none⟩=some (.bool false):=Blk.cell m3 3
 have fr:=Blk.frozen m3
 have HSAME:Hid (∀ z,putC ⟨L,cur,mn,fl⟩ e=z→z≠0→putQ ⟨L,cur,mn,fl⟩ e=⟨L,cur,mn,fl⟩):=Lib.hid fun z hz h0=>if_neg (by rw [hz];exact h0)
 have hlp:n≤127:=by omega
 clear hW3 m1 m2 m3 hb3 hs3 hA hl hn
 have hiv:=he.i1
 have hwb:=he.w2
 have hnin:=(fnd_not hf).2
 rw [hf,show idxZ none = -1 from rfl] at MF
 rw [decide_eq_true c2] at MM
 have d1:decide (e.id<0)=false:=decide_eq_false c1
 have c2':¬ (e.wt<2∨262144<e.wt):=by omega
 have d3:decide ((e.wt:Int)≤(e.rem:Int))=false:=decide_eq_false (by omega)
 have d3':decide (e.wt≤e.rem)=false:=decide_eq_false c3
 have c5:¬(n=128):=by omega
 have hc:putC ⟨L,cur,mn,fl⟩ e=0:=by
  unfold putC
  rw [if_neg c1,if_neg c2',if_neg c3,if_neg hnin,if_neg (by show ¬ L.length=128;rw [← HN.out];exact c5)]
 have hq:putQ ⟨L,cur,mn,fl⟩ e=(QS.add ⟨L,cur,mn,fl⟩ e).raise:=if_pos hc
 have HQ:Hid ((putQ ⟨L,cur,mn,fl⟩ e).L=L++[e]∧(putQ ⟨L,cur,mn,fl⟩ e).mn=raiseZ mn (L++[e])):=Lib.hid (by rw [hq];exact ⟨rfl,rfl⟩)
 rw [HQ.out.1,HQ.out.2,hc]
 have hlen:(L++[e]).length=n+1:=by rw [List.length_append,← HN.out];rfl
 rw [hlen,← HN.out]
 have d5:decide ((128:Int)≤(n:Int))=false:=decide_eq_false (by omega)
 have d5':decide (128≤n)=false:=decide_eq_false (by omega)
 have HLL:=Lib.hid (And.intro (ecl_len L) (ecl_one L))
 have HL0:Hid ((L.flatMap ecl).length=n*4):=Lib.hid (by rw [ecl_len,← HN.out])
 have HSRC:Hid (∀ W,Below w.heap.size w W→(A=none∧n=0∧c=0)∨∃ ad,A=some ad∧∀ j u,(L.flatMap ecl)[j]?=some u→W.cell? (ad.add j)=some u):=Lib.hid fun W hW=>by
  have:=(HA.out.below hW).src
  rw [← HN.out] at this
  exact this
 clear hc hq c2 c2' c3 hnin hf hlen
 go_enter Tryz.func63,Tryz.ntmps63
 go_wp2_with fail
 rw [← HW3.out]
 refine (MM.out _).mono ?_
 rintro r w' ⟨rfl,rfl⟩
 go_wp2_with fail
 refine MF.out.mono ?_
 rintro r w5 ⟨rfl,hb5⟩
 have j5:=HM.out.2.1.below hb5 HM.out.2.1.lt
 have l5:=HM.out.1.below hb5 HM.out.1.lt
 clear r0 r1 r2 r3 x0 x1 x2 x3 y0 y1 y3 fr
 have x0:w5.cell? ⟨w.heap.size,0,none⟩=some (.slice A n c):=Blk.cell l5 0
 have y0:w5.cell? ⟨w.heap.size+1,0,none⟩=some (.int .i64 e.id):=Blk.cell j5 0
 have y1:w5.cell? ⟨w.heap.size+1,1,none⟩=some (.int .u64 e.wt):=Blk.cell j5 1
 have y2:w5.cell? ⟨w.heap.size+1,2,none⟩=some (.int .i64 e.v):=Blk.cell j5 2
 have y3:w5.cell? ⟨w.heap.size+1,3,none⟩=some (.int .u64 e.rem):=Blk.cell j5 3
 have fx:=Blk.frozen l5
 have H5:=Lib.hid (And.intro (HB3.out.1.trans (hb5.mono HB3.out.1.size)) hb5)
 have hs5:w.heap.size+3≤w5.heap.size:=by have:=hb5.size;have:=HB3.out.2;omega
 clear j5 l5 hb5
 go_wp2_with fail
 have HS5:Hid (∀ W,Below (w.heap.size+3) w5 W→(W.cell? ⟨w.heap.size,0,none⟩=some (.slice A n c)∧W.cell? ⟨w.heap.size+1,0,none⟩=some (.int .i64 e.id)∧W.cell? ⟨w.heap.size+1,1,none⟩=some (.int .u64 e.wt)∧W.cell? ⟨w.heap.size+1,2,none⟩=some (.int .i64 e.v)∧W.cell? ⟨w.heap.size+1,3,none⟩=some (.int .u64 e.rem))):=Lib.hid fun W hW =>
  ⟨(hW.cell (p:=⟨w.heap.size,0,none⟩) (by show w.heap.size<_;omega)).trans x0,(hW.cell (p:=⟨w.heap.size+1,0,none⟩) (by show w.heap.size+1<_;omega)).trans y0,(hW.cell (p:=⟨w.heap.size+1,1,none⟩) (by show w.heap.size+1<_;omega)).trans y1,(hW.cell (p:=⟨w.heap.size+1,2,none⟩) (by show w.heap.size+1<_;omega)).trans y2,(hW.cell (p:=⟨w.heap.size+1,3,none⟩) (by show w.heap.size+1<_;omega)).trans y3⟩
 have HBL:Hid (∀ W,Below (w.heap.size+3) w5 W→Below w.heap.size w W):=Lib.hid fun W hW=>H5.out.1.trans (hW.mono (by omega))
 have HOW:Hid (∀ w7 v2,w7.ownsRow (w.heap.size+3) 34 4 v2 (0+n+1) ([]++L.flatMap ecl++ecl e)→∃ g c2,v2=.slice (some ⟨g,0,none⟩) (n+1) c2∧w.heap.size+3≤g∧g<w7.heap.size∧RowE w7 w7.heap.size (some ⟨g,0,none⟩) (L++[e])):=Lib.hid fun w7 v2 h=>by
  have h2:w7.ownsRow (w.heap.size+3) 34 4 v2 (0+(n+1)) ([]++(L++[e]).flatMap ecl):=by
   have e1:[]++(L++[e]).flatMap ecl=[]++L.flatMap ecl++ecl e:=by simp
   rw [e1,← Nat.add_assoc]
   exact h
  obtain ⟨g,c2,hv,hb,hg,hr,_⟩:=own_full (by rw [List.length_append,← HN.out];rfl) (by omega) h2
  exact ⟨g,c2,hv,hb,hg,hr⟩
 have HFX:Hid (∀ W,Below (w.heap.size+3) w5 W→∀ j,W.frozen? ⟨w.heap.size,j,none⟩=false):=Lib.hid fun W hW=>Blk.frozen ((HM.out.1.below H5.out.2 HM.out.1.lt).below hW (by omega))
 refine wp_region_any mixed8 ?_
 change wpAny _ _ _ _ _ _ _ w5.drew
 refine wpAny_inv0 (fun a=>a.tmps[2]?.getD undef=.pointer (some ⟨w.heap.size,0,none⟩)∧a.tmps[3]?.getD undef=.pointer (some ⟨w.heap.size+1,0,none⟩)∧a.tmps.size=42) ⟨rfl,rfl,rfl⟩
  (fun a0 l a W=>∃ x:Nat→Value,a=putR a0 32 8 x∧(lsd l 8=false→Below (w.heap.size+3) w5 W) ∧
   (lsd l 1=true→x 33=.pointer (some ⟨w.heap.size,0,none⟩))∧(lsd l 2=true→x 34=.slice A n c)∧(lsd l 4=true→x 36=.agg #[.int .i64 e.id,.int .u64 e.wt,.int .i64 e.v,.int .u64 e.rem])∧(lsd l 7=true→x 39=.pointer (some ⟨w.heap.size,0,none⟩)) ∧
   (lsd l 0=true→lsd l 3=false→W.ownsRow (w.heap.size+3) 34 4 (x 32) 0 []) ∧
   (lsd l 3=true→lsd l 6=false→W.ownsRow (w.heap.size+3) 34 4 (x 35) (0+n) ([]++L.flatMap ecl)) ∧
   (lsd l 5=true→lsd l 6=false→∃ b,x 37=.slice (some ⟨b,0,none⟩) 1 1∧Blk W b #[.int .i64 e.id,.int .u64 e.wt,.int .i64 e.v,.int .u64 e.rem] 34∧(lsd l 0=true→lsd l 3=false→(x 32).ownBlock≠some b)) ∧
   (lsd l 6=true→lsd l 8=false→W.ownsRow (w.heap.size+3) 34 4 (x 38) (0+n+1) ([]++L.flatMap ecl++ecl e)) ∧
   (lsd l 8=true→∃ W0,Below (w.heap.size+3) w5 W0∧W0.ownsRow (w.heap.size+3) 34 4 (x 38) (0+n+1) ([]++L.flatMap ecl++ecl e)∧W=W0.setCell ⟨w.heap.size,0,none⟩ (x 38))) ?_ ?_ ?_
 ·
  intro a0 _
  obtain ⟨x,hx⟩:=putR_start a0 32 8
  have hn:∀ {p:Prop} {j:Nat},lsd (Array.replicate 9 false) j=true→p:=fun h=>by
   rw [lsd_start] at h
   exact absurd h (by decide)
  exact ⟨x,hx,fun _=>(Below.refl _ _).drew,hn,hn,hn,hn,hn,hn,hn,hn,hn⟩
 ·
  rintro a0 ⟨f2,f3,fs⟩ l a W hsz hcl ⟨x,rfl,iB,i33,i34,i36,i39,i32,i35,i37,i38,iE⟩ i hir
  obtain ⟨hi9,hui,o,ho,hd⟩:=ready_of hsz hir
  have hi99:i<9:=hi9
  have hsz9:l.size=9:=hsz
  have E2:(putR a0 32 8 x).tmps[2]?.getD undef=.pointer (some ⟨w.heap.size,0,none⟩):=(putR_out a0 32 8 x 2 (by decide)).trans f2
  have E3:(putR a0 32 8 x).tmps[3]?.getD undef=.pointer (some ⟨w.heap.size+1,0,none⟩):=(putR_out a0 32 8 x 3 (by decide)).trans f3
  have EX:∀ j,32≤j→j<40→(putR a0 32 8 x).tmps[j]?.getD undef=x j:=fun j h1 h2=>putR_in a0 32 8 x j h1 (by omega) (by omega)
  have ls:lsd (l.setIfInBounds i true) i=true:=lsd_self (by rw [hsz];exact hi9)
  have lo:∀ j,i≠j→lsd (l.setIfInBounds i true) j=lsd l j:=fun j h=>lsd_other h
  clear hir hsz
  generalize l.setIfInBounds i true=l' at *
  have EV:∀ j,32≤j→j<40→(putR a0 32 8 x).eval (.tmp j)=x j:=fun j h1 h2=>putR_eval a0 32 8 x j h1 h2 (by rw [fs];exact Nat.lt_trans h2 (by decide))
  have h86:lsd l 8=true→lsd l 6=true:=fun h=>hcl 8 _ rfl h _ (List.mem_toArray.2 (.tail _ (.head _))) rfl
  have h87:lsd l 8=true→lsd l 7=true:=fun h=>hcl 8 _ rfl h _ (List.mem_toArray.2 (.head _)) rfl
  have h63:lsd l 6=true→lsd l 3=true:=fun h=>hcl 6 _ rfl h _ (List.mem_toArray.2 (.head _)) rfl
  have h65:lsd l 6=true→lsd l 5=true:=fun h=>hcl 6 _ rfl h _ (List.mem_toArray.2 (.tail _ (.head _))) rfl
  have h30:lsd l 3=true→lsd l 0=true:=fun h=>hcl 3 _ rfl h _ (List.mem_toArray.2 (.head _)) rfl
  have h32:lsd l 3=true→lsd l 2=true:=fun h=>hcl 3 _ rfl h _ (List.mem_toArray.2 (.tail _ (.head _))) rfl
  have h21:lsd l 2=true→lsd l 1=true:=fun h=>hcl 2 _ rfl h _ (List.mem_toArray.2 (.head _)) rfl
  have h54:lsd l 5=true→lsd l 4=true:=fun h=>hcl 5 _ rfl h _ (List.mem_toArray.2 (.head _)) rfl
  clear hcl
  match i,ho,hd,hui,ls,lo with
  | 0,ho,hd,hui,ls,lo =>
   obtain rfl:=Option.some.inj ho
   have n3:=lsd_not h30 hui
   have n6:=lsd_not h63 n3
   have n8:=lsd_not h86 n6
   have hB:=iB n8
   have hsz:=hB.size
   refine wpOp_step rfl (fun K' hK=>?_)
   rw [if_pos (by rfl)]
   go_simp
   refine hK _ _ ⟨_,putR_put a0 32 8 x 32 (by decide) (by decide) _,fun _=>hB.alloc (by omega) _,lq i33 (lo 1 (by decide)),lq i34 (lo 2 (by decide)),lq i36 (lo 4 (by decide)),lq i39 (lo 7 (by decide)),
    fun _ _=>own_empty1 W _ _ (by omega),lnq (lo 3 (by decide)) n3,fun h _=>?_,lnq (lo 6 (by decide)) n6,lnq (lo 8 (by decide)) n8⟩
   obtain ⟨b,k1,k2,k3⟩:=i37 ((lo 5 (by decide)).symm.trans h) n6
   exact ⟨b,k1,k2.alloc _,fun _ _ hh=>by
    have hh2:some W.heap.size=some b:=hh
    injection hh2 with hh2
    have:=k2.lt
    omega⟩
  | 1,ho,hd,hui,ls,lo =>
   obtain rfl:=Option.some.inj ho
   have n2:=lsd_not h21 hui
   have n3:=lsd_not h32 n2
   have n6:=lsd_not h63 n3
   have n8:=lsd_not h86 n6
   refine wpOp_step rfl (fun K' hK=>?_)
   rw [if_pos (by rfl)]
   go_simp
   exact hK _ _ ⟨_,putR_put a0 32 8 x 33 (by decide) (by decide) _,fun _=>iB n8,fun _=>rfl,lq i34 (lo 2 (by decide)),lq i36 (lo 4 (by decide)),lq i39 (lo 7 (by decide)),
    fun h h3=>i32 ((lo 0 (by decide)).symm.trans h) n3,lnq (lo 3 (by decide)) n3,fun h _=>by
     obtain ⟨b,k1,k2,k3⟩:=i37 ((lo 5 (by decide)).symm.trans h) n6
     exact ⟨b,k1,k2,fun h0 _=>k3 ((lo 0 (by decide)).symm.trans h0) n3⟩,lnq (lo 6 (by decide)) n6,lnq (lo 8 (by decide)) n8⟩
  | 2,ho,hd,hui,ls,lo =>
   obtain rfl:=Option.some.inj ho
   have n3:=lsd_not h32 hui
   have n6:=lsd_not h63 n3
   have n8:=lsd_not h86 n6
   have E33:=(EX 33 (by decide) (by decide)).trans (i33 (hd _ (List.mem_toArray.2 (.head _)) rfl))
   obtain ⟨z0,z1,z2,z3,z4⟩:=HS5.out W (iB n8)
   clear EX
   refine wpOp_step rfl (fun K' hK=>?_)
   rw [if_pos (by rfl)]
   go_simp
   exact hK _ _ ⟨_,putR_put a0 32 8 x 34 (by decide) (by decide) _,fun _=>iB n8,lq i33 (lo 1 (by decide)),fun _=>rfl,lq i36 (lo 4 (by decide)),lq i39 (lo 7 (by decide)),
    fun h h3=>i32 ((lo 0 (by decide)).symm.trans h) n3,lnq (lo 3 (by decide)) n3,fun h _=>by
     obtain ⟨b,k1,k2,k3⟩:=i37 ((lo 5 (by decide)).symm.trans h) n6
     exact ⟨b,k1,k2,fun h0 _=>k3 ((lo 0 (by decide)).symm.trans h0) n3⟩,lnq (lo 6 (by decide)) n6,lnq (lo 8 (by decide)) n8⟩
  | 3,ho,hd,hui,ls,lo =>
   obtain rfl:=Option.some.inj ho
   have n6:=lsd_not h63 hui
   have n8:=lsd_not h86 n6
   have l0:lsd l 0=true:=hd _ (List.mem_toArray.2 (.head _)) rfl
   have l2:lsd l 2=true:=hd _ (List.mem_toArray.2 (.tail _ (.head _))) rfl
   have hB:=iB n8
   have hsz:=hB.size
   have hown:=i32 l0 hui
   refine wpOp_step rfl (fun K' hK=>?_)
   refine step_append_rows rfl (.tmp 32) (.tmp 34) 27 rfl (w.heap.size+3) 34 i0 _ 4 32 Tryz.underlying27 hi iz0 iz1 iz2 rfl (by decide) (x 32) 0 [] (EV 32 (by decide) (by decide)) hown A n c _ ((EV 34 (by decide) (by decide)).trans (i34 l2)) HL0.out (HSRC.out _ (HBL.out _ hB)) HLL.out.2 (by unfold maxLen;omega) (by omega) (by omega) ?_
   intro v1 w6 hown1 hg1
   have hB6:Below (w.heap.size+3) w5 w6:=hB.grown hg1 (by omega) (fun b hb=>(hown.lt b hb).1)
   exact hK _ _ ⟨_,putR_put a0 32 8 x 35 (by decide) (by decide) _,fun _=>hB6,lq i33 (lo 1 (by decide)),lq i34 (lo 2 (by decide)),lq i36 (lo 4 (by decide)),lq i39 (lo 7 (by decide)),
    fun _ h3=>lsd_no ls h3,fun _ _=>hown1,fun h _=>by
     obtain ⟨b,k1,k2,k3⟩:=i37 ((lo 5 (by decide)).symm.trans h) n6
     exact ⟨b,k1,k2.kept hg1 (fun hh=>k3 l0 hui hh.symm),fun _ h3=>lsd_no ls h3⟩,lnq (lo 6 (by decide)) n6,lnq (lo 8 (by decide)) n8⟩
  | 4,ho,hd,hui,ls,lo =>
   obtain rfl:=Option.some.inj ho
   have n5:=lsd_not h54 hui
   have n6:=lsd_not h65 n5
   have n8:=lsd_not h86 n6
   obtain ⟨z0,z1,z2,z3,z4⟩:=HS5.out W (iB n8)
   refine wpOp_step rfl (fun K' hK=>?_)
   rw [if_pos (by rfl)]
   go_simp
   exact hK _ _ ⟨_,putR_put a0 32 8 x 36 (by decide) (by decide) _,fun _=>iB n8,lq i33 (lo 1 (by decide)),lq i34 (lo 2 (by decide)),fun _=>rfl,lq i39 (lo 7 (by decide)),
    fun h h3=>i32 ((lo 0 (by decide)).symm.trans h) ((lo 3 (by decide)).symm.trans h3),fun h _=>i35 ((lo 3 (by decide)).symm.trans h) n6,lnq (lo 5 (by decide)) n5,lnq (lo 6 (by decide)) n6,lnq (lo 8 (by decide)) n8⟩
  | 5,ho,hd,hui,ls,lo =>
   obtain rfl:=Option.some.inj ho
   have n6:=lsd_not h65 hui
   have n8:=lsd_not h86 n6
   have E36:=(EX 36 (by decide) (by decide)).trans (i36 (hd _ (List.mem_toArray.2 (.head _)) rfl))
   have hB:=iB n8
   have hsz:=hB.size
   clear EX
   refine wpOp_step rfl (fun K' hK=>?_)
   rw [if_pos (by rfl)]
   go_simp
   exact hK _ _ ⟨_,putR_put a0 32 8 x 37 (by decide) (by decide) _,fun _=>hB.alloc (by omega) _,lq i33 (lo 1 (by decide)),lq i34 (lo 2 (by decide)),lq i36 (lo 4 (by decide)),lq i39 (lo 7 (by decide)),
    fun h h3=>(i32 ((lo 0 (by decide)).symm.trans h) ((lo 3 (by decide)).symm.trans h3)).alloc _,fun h _=>(i35 ((lo 3 (by decide)).symm.trans h) n6).alloc _,fun _ _=>⟨W.heap.size,rfl,Blk.new _ _ _,fun h0 h3 hh=>by
     have:=((i32 ((lo 0 (by decide)).symm.trans h0) ((lo 3 (by decide)).symm.trans h3)).lt W.heap.size hh).2
     omega⟩,lnq (lo 6 (by decide)) n6,lnq (lo 8 (by decide)) n8⟩
  | 6,ho,hd,hui,ls,lo =>
   obtain rfl:=Option.some.inj ho
   have n8:=lsd_not h86 hui
   have l3:lsd l 3=true:=hd _ (List.mem_toArray.2 (.head _)) rfl
   have l5:lsd l 5=true:=hd _ (List.mem_toArray.2 (.tail _ (.head _))) rfl
   have hB:=iB n8
   have hsz:=hB.size
   have hown:=i35 l3 hui
   obtain ⟨b,k1,k2,-⟩:=i37 l5 hui
   refine wpOp_step rfl (fun K' hK=>?_)
   refine step_append_rows rfl (.tmp 35) (.tmp 37) 27 rfl (w.heap.size+3) 34 i0 _ 4 32 Tryz.underlying27 hi iz0 iz1 iz2 rfl (by decide) (x 35) _ _ (EV 35 (by decide) (by decide)) hown (some ⟨b,0,none⟩) 1 1 (ecl e) ((EV 37 (by decide) (by decide)).trans k1) rfl (.inr ⟨_,rfl,news_blk k2⟩) (by simp [ecl,Value.oneCell']) (by unfold maxLen;omega) (by omega) (by omega) ?_
   intro v2 w7 hown2 hg2
   have hB7:Below (w.heap.size+3) w5 w7:=hB.grown hg2 (by omega) (fun b hb=>(hown.lt b hb).1)
   exact hK _ _ ⟨_,putR_put a0 32 8 x 38 (by decide) (by decide) _,fun _=>hB7,lq i33 (lo 1 (by decide)),lq i34 (lo 2 (by decide)),lq i36 (lo 4 (by decide)),lq i39 (lo 7 (by decide)),
    fun _ h3=>lsd_no l3 ((lo 3 (by decide)).symm.trans h3),fun _ h6=>lsd_no ls h6,fun _ h6=>lsd_no ls h6,fun _ _=>hown2,lnq (lo 8 (by decide)) n8⟩
  | 7,ho,hd,hui,ls,lo =>
   obtain rfl:=Option.some.inj ho
   have n8:=lsd_not h87 hui
   refine wpOp_step rfl (fun K' hK=>?_)
   rw [if_pos (by rfl)]
   go_simp
   exact hK _ _ ⟨_,putR_put a0 32 8 x 39 (by decide) (by decide) _,fun _=>iB n8,lq i33 (lo 1 (by decide)),lq i34 (lo 2 (by decide)),lq i36 (lo 4 (by decide)),fun _=>rfl,
    fun h h3=>i32 ((lo 0 (by decide)).symm.trans h) ((lo 3 (by decide)).symm.trans h3),fun h h6=>i35 ((lo 3 (by decide)).symm.trans h) ((lo 6 (by decide)).symm.trans h6),fun h h6=>by
     obtain ⟨b,k1,k2,k3⟩:=i37 ((lo 5 (by decide)).symm.trans h) ((lo 6 (by decide)).symm.trans h6)
     exact ⟨b,k1,k2,fun h0 h3=>k3 ((lo 0 (by decide)).symm.trans h0) ((lo 3 (by decide)).symm.trans h3)⟩,fun h h8=>i38 ((lo 6 (by decide)).symm.trans h) n8,lnq (lo 8 (by decide)) n8⟩
  | 8,ho,hd,hui,ls,lo =>
   obtain rfl:=Option.some.inj ho
   have l7:lsd l 7=true:=hd _ (List.mem_toArray.2 (.head _)) rfl
   have l6:lsd l 6=true:=hd _ (List.mem_toArray.2 (.tail _ (.head _))) rfl
   have l3:=h63 l6
   have E39:=(EX 39 (by decide) (by decide)).trans (i39 l7)
   have E38:=EX 38 (by decide) (by decide)
   have hB:=iB hui
   obtain ⟨z0,z1,z2,z3,z4⟩:=HS5.out W hB
   have zf:=HFX.out W hB
   have hown:=i38 l6 hui
   obtain ⟨g,c2,hx38,-⟩:=HOW.out W (x 38) hown
   rw [hx38] at E38
   clear EX
   refine wpOp_step rfl (fun K' hK=>?_)
   rw [if_pos (by rfl)]
   go_simp
   exact hK _ _ ⟨x,rfl,fun h=>lsd_no ls h,lq i33 (lo 1 (by decide)),lq i34 (lo 2 (by decide)),lq i36 (lo 4 (by decide)),lq i39 (lo 7 (by decide)),
    fun _ h3=>lsd_no l3 ((lo 3 (by decide)).symm.trans h3),fun _ h6=>lsd_no l6 ((lo 6 (by decide)).symm.trans h6),fun _ h6=>lsd_no l6 ((lo 6 (by decide)).symm.trans h6),fun _ h8=>lsd_no ls h8,fun _=>⟨W,hB,hown,by rw [hx38]⟩⟩
  | k+9,_,_,_,_,_=>omega
 ·
  intro l a W hsz hI hr
  have l0:=ready_nil hr hsz (j:=0) rfl (by simp)
  have l1:=ready_nil hr hsz (j:=1) rfl (by simp)
  have l2:=ready_nil hr hsz (j:=2) rfl (by simp [l1])
  have l3:=ready_nil hr hsz (j:=3) rfl (by simp [l0,l2])
  have l4:=ready_nil hr hsz (j:=4) rfl (by simp)
  have l5:=ready_nil hr hsz (j:=5) rfl (by simp [l4])
  have l6:=ready_nil hr hsz (j:=6) rfl (by simp [l3,l5])
  have l7:=ready_nil hr hsz (j:=7) rfl (by simp [l0,l1,l2,l3,l4,l5,l6])
  have l8:=ready_nil hr hsz (j:=8) rfl (by simp [l0,l1,l2,l3,l4,l5,l6,l7])
  obtain ⟨x,ha,-,-,-,-,-,-,-,-,-,iE⟩:=hI
  obtain ⟨W0,hB0,hO,hW⟩:=iE l8
  obtain ⟨g,c2,hx38,hge,hgl,hrow⟩:=HOW.out W0 (x 38) hO
  have HCAP:Hid (n+1≤c2):=Lib.hid (by
   have h:=hO
   rw [hx38] at h
   have:=own_cap h
   omega)
  rw [hx38] at hW
  have l0':=HM.out.1.below H5.out.2 HM.out.1.lt
  have l1':=(l0'.below hB0 (by omega)).set 0 (.slice (some ⟨g,0,none⟩) (n+1) c2)
  rw [← hW] at l1'
  have k0:W.cell? ⟨w.heap.size,0,none⟩=some (.slice (some ⟨g,0,none⟩) (n+1) c2):=Blk.cell l1' 0
  have k1:W.cell? ⟨w.heap.size,1,none⟩=some (.int .i64 cur):=Blk.cell l1' 1
  have k2:W.cell? ⟨w.heap.size,2,none⟩=some (.int .i64 mn):=Blk.cell l1' 2
  have k3:W.cell? ⟨w.heap.size,3,none⟩=some (.bool fl):=Blk.cell l1' 3
  have hb8:Below w.heap.size w W:=by
   rw [hW]
   exact (HBL.out W0 hB0).setCell (Nat.le_refl _) _
  have hr8:RowE W W.heap.size (some ⟨g,0,none⟩) (L++[e]):=by
   have hsz:W.heap.size=W0.heap.size:=by rw [hW];simp [World.setCell]
   rw [hsz]
   rcases hrow with h | ⟨b,off,q1,q2,q3⟩
   · exact .inl h
   ·
    refine .inr ⟨b,off,q1,q2,fun j hj=>(q3 j hj).of ?_⟩
    rw [hW]
    refine Below.heap_setCell W0 _ _ b ?_
    injection q1 with q1
    injection q1 with q1 _ _
    show b≠w.heap.size
    omega
  have hlen:(L++[e]).length=n+1:=by rw [List.length_append,← HN.out];rfl
  have MR:=rraised_any (some ⟨g,0,none⟩) c2 (L++[e]) cur mn fl W hr8 (by rw [hlen];omega)
  rw [hlen] at MR
  have HMR:=Lib.hid MR
  obtain ⟨rm,hrm⟩:∃ rm,rm=raiseZ mn (L++[e]):=⟨_,rfl⟩
  have H8:=Lib.hid (And.intro hb8 (And.intro hr8 hge))
  have l2':Blk W (w.heap.size+2) #[.slice none 0 0,.int .i64 0,.int .i64 0,.bool false] 29:=by
   rw [hW]
   exact ((HM.out.2.2.below H5.out.2 HM.out.2.2.lt).below hB0 (by omega)).other _ (by omega)
  simp [putR,List.mapIdx_cons] at ha
  subst ha
  have r0:W.cell? ⟨w.heap.size+2,0,none⟩=some (.slice none 0 0):=Blk.cell l2' 0
  have r1:W.cell? ⟨w.heap.size+2,1,none⟩=some (.int .i64 0):=Blk.cell l2' 1
  have r2:W.cell? ⟨w.heap.size+2,2,none⟩=some (.int .i64 0):=Blk.cell l2' 2
  have r3:W.cell? ⟨w.heap.size+2,3,none⟩=some (.bool false):=Blk.cell l2' 3
  have HL2:=Lib.hid l2'
  rw [← hrm] at HMR
  have HRM:=Lib.hid hrm
  clear hW hx38 l0' l1' l2' hO hB0 hrow hgl hb8 hr8 hlen MR hrm hge
  go_wp2_with fail
  refine HMR.out.mono ?_
  rintro r w9 ⟨rfl,hb9⟩
  have l9:=HL2.out.below hb9 HL2.out.lt
  have t0:w9.cell? ⟨w.heap.size+2,0,none⟩=some (.slice none 0 0):=Blk.cell l9 0
  have t1:w9.cell? ⟨w.heap.size+2,1,none⟩=some (.int .i64 0):=Blk.cell l9 1
  have t2:w9.cell? ⟨w.heap.size+2,2,none⟩=some (.int .i64 0):=Blk.cell l9 2
  have t3:w9.cell? ⟨w.heap.size+2,3,none⟩=some (.bool false):=Blk.cell l9 3
  have tf:=Blk.frozen l9
  have H9:=Lib.hid (And.intro hb9 l9)
  clear r0 r1 r2 r3 k0 k1 k2 k3 l9 hb9
  go_wp2_with fail
  refine bodyPost_ret (v:=.tuple #[rqV (some ⟨g,0,none⟩) (n+1) c2 cur rm fl,.int .i64 0]) (by simp [results,Tryz.results63,go_sem,t0,t1,t2,t3]) rfl ⟨some ⟨g,0,none⟩,c2,by rw [HRM.out],Lib.hid ?_⟩
  have hz:w.heap.size≤W.heap.size:=H8.out.1.size
  have hB9:Below w.heap.size w w9:=H8.out.1.trans (H9.out.1.mono hz)
  have hr9:RowE w9 w9.heap.size (some ⟨g,0,none⟩) (L++[e]):=(H8.out.2.1.below H9.out.1).mono H9.out.1.size
  have hg2:=H8.out.2.2
  refine ⟨RqRes.four hB9 (by rw [List.length_append,← HN.out];exact HCAP.out) hr9 (by omega) (by omega) (by omega) _ _ _ _,fun a ha=>?_⟩
  injection ha with ha
  rw [← ha]
  show w.heap.size≤g
  omega
end Go.Proofs.YtefekboacghnjaaGreat
