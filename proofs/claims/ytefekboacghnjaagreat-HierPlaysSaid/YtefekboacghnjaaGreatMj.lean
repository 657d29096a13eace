/-
  hier.Hier: the queues of one P, within one another, as data; what may be done with them.
  hier.Hier as data: what stands behind settling.
  fix.Less and renorm.Wake at whatever numbers; renorm.Move of small numbers.
  hier.Hier in memory.
  hier.Hier: at, linked, idOf, isTask, what is told of a group.
-/
import Derived.Test.YtefekboacghnjaaGreatMd
import Derived.Test.YtefekboacghnjaaGreatMa
import Derived.Test.YtefekboacghnjaaGreatMf
import Derived.Test.YtefekboacghnjaaGreatMg
namespace Go.Proofs.YtefekboacghnjaaGreat
open Go.RowKit Go.Maps
structure Gr where
  up:Int
  deep:Nat
  q:QS
  own:En
  on:Bool
  stopped:Bool
structure HS where
  credit:Int
  gran:Int
  G:Nat→Option Gr
def HS.put (S:HS) (i:Nat) (g:Option Gr):HS:={ S with G:=fun j=>if j=i then g else S.G j }
theorem HS.put_same (S:HS) (i:Nat) (g:Option Gr):(S.put i g).G i=g:=if_pos rfl
theorem HS.put_other (S:HS) {i j:Nat} (g:Option Gr) (h:j≠i):(S.put i g).G j=S.G j:=if_neg h
theorem HS.put_put (S:HS) (i:Nat) (g g':Option Gr):(S.put i g).put i g'=S.put i g':=by
  unfold HS.put
  congr 1
  funext j
  by_cases h:j=i
  · simp [h]
  · simp [h]
theorem HS.put_self (S:HS) {i:Nat} {g:Gr} (h:S.G i=some g):S.put i (some g)=S:=by
  unfold HS.put
  have:(fun j=>if j=i then some g else S.G j)=S.G:=by
    funext j
    by_cases hj:j=i
    · rw [if_pos hj,hj,h]
    · rw [if_neg hj]
  rw [this]
def HS.at_ (S:HS) (g:Int):Option Gr:=if g<0∨32≤g then none else S.G g.toNat
def HS.linked (S:HS) (g:Int):Option Gr:=if g=0 then none else S.at_ g
def emptyQ:QS:=⟨[],-1,0,false⟩
def newH (credit gran:Int):HS:=⟨credit,gran,fun i=>if i=0 then some ⟨-1,0,emptyQ,⟨0,0,0,0⟩,false,false⟩ else none⟩
structure HTree (S:HS):Prop where
  top:∀ i,32≤i→S.G i=none
  root:∃ g,S.G 0=some g∧g.up = -1∧g.deep=0
  up:∀ i g,i≠0→S.G i=some g→∃ (u:Nat) (p:Gr),g.up=(u:Int)∧S.G u=some p∧g.deep=p.deep+1
  deep:∀ i g,S.G i=some g→g.deep≤8
structure HOwn (i:Nat) (e:En):Prop where
  id:e.id=2*(i:Int)+1
  w1:2≤e.wt
  w2:e.wt≤262144
  v1:-9223372036854775808≤e.v
  v2:e.v≤9223372036854775807
  r:e.rem<e.wt
def HS.may (S:HS) (u:Nat) (i:Int):Prop:=(∃ t:Nat,t<64∧i=2*(t:Int))∨∃ (k:Nat) (x:Gr),i=2*(k:Int)+1∧k≠0∧S.G k=some x∧x.up=(u:Int)∧x.on=true
structure HInv (S:HS):Prop where
  tree:HTree S
  own:∀ i g,i≠0→S.G i=some g→HOwn i g.own
  ids:∀ u p,S.G u=some p→∀ e,e ∈ p.q.L→S.may u e.id
  on:∀ i g u p,i≠0→S.G i=some g→g.up=((u:Nat):Int)→S.G u=some p→g.on=true→∃ e,e ∈ p.q.L∧e.id=2*(i:Int)+1
  qok:∀ u p,S.G u=some p→p.q.ok
def shouldB (x:Gr):Bool:=!x.stopped && !x.q.L.isEmpty
def HSet (S:HS):Prop:=∀ i g,i≠0→S.G i=some g→g.on=shouldB g
def wakeZ (own mn c:Int):Int:=max own (satZ mn (-(holdZ c 0 1099511627776)))
def stepH (S:HS) (i u:Nat) (x p:Gr):HS :=
  if shouldB x then
    (S.put u (some { p with q:=putQ p.q { x.own with v:=wakeZ x.own.v p.q.mn S.credit } })).put i (some { x with own:={ x.own with v:=wakeZ x.own.v p.q.mn S.credit },on:=true })
  else (S.put u (some { p with q:=dropQ p.q (2*(i:Int)+1) })).put i (some { x with own:=(p.q.get (2*(i:Int)+1)).getD ⟨0,0,0,0⟩,on:=false })
def settleH:Nat→HS→Nat→HS
  | 0,S,_=>S
  | n+1,S,i =>
    match S.G i with
    | none=>S
    | some x =>
      if x.up = -1 then S
      else if shouldB x=x.on then S
      else match S.G x.up.toNat with
        | none=>S
        | some p=>settleH n (stepH S i x.up.toNat x p) x.up.toNat
end Go.Proofs.YtefekboacghnjaaGreat
namespace Go.Proofs.YtefekboacghnjaaGreat
open Go.RowKit Go.Maps
theorem len_le_of_nodup:∀ (l m:List Int),l.Nodup→(∀ x,x ∈ l→x ∈ m)→l.length≤m.length
  | [],_,_,_=>Nat.zero_le _
  | a::l,m,hn,hs=>by
    rw [List.nodup_cons] at hn
    have ha:a ∈ m:=hs a (by simp)
    have h2:=len_le_of_nodup l (m.erase a) hn.2 (fun x hx=>by
      have hne:x≠a:=fun e=>hn.1 (e ▸ hx)
      exact (List.mem_erase_of_ne hne).2 (hs x (by simp [hx])))
    rw [List.length_erase_of_mem ha] at h2
    have:0<m.length:=List.length_pos_of_mem ha
    simp only [List.length_cons]
    omega
def allIds:List Int:=(List.range 64).map (fun t=>2*((t:Nat):Int))++(List.range 32).map (fun k=>2*((k:Nat):Int)+1)
theorem HInv.len {S:HS} (I:HInv S) {u:Nat} {p:Gr} (hp:S.G u=some p):p.q.L.length≤96:=by
  have h1:=len_le_of_nodup (p.q.L.map (·.id)) allIds (I.qok u p hp).ids (fun x hx=>by
    obtain ⟨e,he,rfl⟩:=List.mem_map.1 hx
    rcases I.ids u p hp e he with ⟨t,ht,h⟩ | ⟨k,y,h,_,hk,_,_⟩
    · rw [h]
      exact List.mem_append_left _ (List.mem_map.2 ⟨t,List.mem_range.2 ht,rfl⟩)
    · rw [h]
      refine List.mem_append_right _ (List.mem_map.2 ⟨k,List.mem_range.2 ?_,rfl⟩)
      refine Decidable.byContradiction fun hlt=>?_
      rw [I.tree.top k (by omega)] at hk
      simp at hk)
  rw [List.length_map] at h1
  simpa [allIds] using h1
section
variable {S:HS} {i u:Nat} {x p:Gr}
theorem HTree.ne (T:HTree S) (h0:i≠0) (hi:S.G i=some x) (hu:x.up=((u:Nat):Int)) (hp:S.G u=some p):u≠i∧x.deep=p.deep+1:=by
  obtain ⟨u2,p2,e1,e2,e3⟩:=T.up i x h0 hi
  have:u2=u:=by omega
  subst this
  rw [hp] at e2
  injection e2 with e2
  subst e2
  refine ⟨?_,e3⟩
  rintro rfl
  rw [hi] at hp
  injection hp with hp
  subst hp
  omega
theorem HTree.zero (T:HTree S) (hi:S.G i=some x) (hu:x.up = -1):i=0:=by
  refine Decidable.byContradiction fun h0=>?_
  obtain ⟨u2,p2,e1,_,_⟩:=T.up i x h0 hi
  omega
theorem HTree.congr {S':HS} (T:HTree S) (h1:∀ j y,S'.G j=some y→∃ y0,S.G j=some y0∧y.up=y0.up∧y.deep=y0.deep) (h2:∀ j y0,S.G j=some y0→∃ y,S'.G j=some y∧y.up=y0.up∧y.deep=y0.deep):HTree S':=by
  refine ⟨fun j hj=>?_,?_,fun j y h0 hy=>?_,fun j y hy=>?_⟩
  · cases hy:S'.G j with
    | none=>rfl
    | some y =>
      obtain ⟨y0,e,_⟩:=h1 j y hy
      rw [T.top j hj] at e
      simp at e
  · obtain ⟨g,e1,e2,e3⟩:=T.root
    obtain ⟨y,f1,f2,f3⟩:=h2 0 g e1
    exact ⟨y,f1,f2.trans e2,f3.trans e3⟩
  · obtain ⟨y0,e1,e2,e3⟩:=h1 j y hy
    obtain ⟨v,q,f1,f2,f3⟩:=T.up j y0 h0 e1
    obtain ⟨q',g1,g2,g3⟩:=h2 v q f2
    exact ⟨v,q',e2.trans f1,g1,by omega⟩
  · obtain ⟨y0,e1,e2,e3⟩:=h1 j y hy
    rw [e3]
    exact T.deep j y0 e1
theorem HTree.put {S:HS} {i:Nat} {x y:Gr} (T:HTree S) (hi:S.G i=some x) (h1:y.up=x.up) (h2:y.deep=x.deep):HTree (S.put i (some y)):=by
  refine T.congr (fun j z hz=>?_) (fun j z hz=>?_)
  · by_cases hj:j=i
    · subst hj
      rw [HS.put_same] at hz
      injection hz with hz
      subst hz
      exact ⟨x,hi,h1,h2⟩
    · rw [HS.put_other _ _ hj] at hz
      exact ⟨z,hz,rfl,rfl⟩
  · by_cases hj:j=i
    · subst hj
      rw [hi] at hz
      injection hz with hz
      subst hz
      exact ⟨y,HS.put_same _ _ _,h1,h2⟩
    · exact ⟨z,by rw [HS.put_other _ _ hj];exact hz,rfl,rfl⟩
theorem HTree.put2 {S:HS} {i u:Nat} {x p y q:Gr} (T:HTree S) (hne:u≠i) (hi:S.G i=some x) (hp:S.G u=some p) (h1:y.up=x.up) (h2:y.deep=x.deep) (h3:q.up=p.up) (h4:q.deep=p.deep):HTree ((S.put u (some q)).put i (some y)) :=
  HTree.put (x:=x) (T.put hp h3 h4) (by rw [HS.put_other _ _ (Ne.symm hne)];exact hi) h1 h2
theorem put_fine (I:HInv S) (h0:i≠0) (hi:S.G i=some x) (_hu:x.up=((u:Nat):Int)) (hp:S.G u=some p) (hon:x.on=false) (v:Int):putC p.q { x.own with v:=v } = 0∧(2*(i:Int)+1) ∉ p.q.L.map (·.id):=by
  have O:=I.own i x h0 hi
  have hlen:=I.len hp
  have hid:=O.id
  have hw1:=O.w1
  have hw2:=O.w2
  have hr:=O.r
  have hnot:(2*(i:Int)+1) ∉ p.q.L.map (·.id):=by
    intro hm
    obtain ⟨e,he,hie⟩:=List.mem_map.1 hm
    rcases I.ids u p hp e he with ⟨t,_,h⟩ | ⟨k,y,h,_,hk,_,hyon⟩
    · omega
    · have:k=i:=by omega
      subst this
      rw [hi] at hk
      injection hk with hk
      subst hk
      rw [hon] at hyon
      simp at hyon
  refine ⟨?_,hnot⟩
  unfold putC
  dsimp only
  rw [if_neg (by omega),if_neg (by omega),if_neg (by omega),if_neg (by rw [hid];exact hnot),if_neg (by omega)]
theorem putQ_L {X:QS} {e:En} (h:putC X e=0):(putQ X e).L=X.L++[e]:=by
  unfold putQ
  rw [if_pos h]
  rfl
theorem dropQ_L (X:QS) (i:Int):(dropQ X i).L=lessL X.L i:=by
  unfold dropQ
  split
  · rfl
  · rename_i hn
    unfold lessL
    refine (List.filter_eq_self.2 fun a ha=>?_).symm
    simp only [ne_eq,decide_eq_true_eq]
    exact fun e=>hn (List.mem_map.2 ⟨a,ha,e⟩)
theorem step_inv (I:HInv S) (h0:i≠0) (hi:S.G i=some x) (hu:x.up=((u:Nat):Int)) (hp:S.G u=some p) (hs:shouldB x≠x.on):HInv (stepH S i u x p):=by
  obtain ⟨hne,hdeep⟩:=I.tree.ne h0 hi hu hp
  have O:=I.own i x h0 hi
  unfold stepH
  by_cases hsh:shouldB x=true
  · rw [if_pos hsh]
    have hon:x.on=false:=by
      cases hx:x.on with
      | false=>rfl
      | true=>rw [hsh,hx] at hs;exact absurd rfl hs
    obtain ⟨hput,hnot⟩:=put_fine I h0 hi hu hp hon (wakeZ x.own.v p.q.mn S.credit)
    have hL:=putQ_L hput
    have hw:-9223372036854775808≤wakeZ x.own.v p.q.mn S.credit∧wakeZ x.own.v p.q.mn S.credit≤9223372036854775807:=by
      have h1:=O.v1
      have h2:=O.v2
      have h3:=satZ_lo p.q.mn (-(holdZ S.credit 0 1099511627776))
      have h4:=satZ_hi p.q.mn (-(holdZ S.credit 0 1099511627776))
      unfold wakeZ
      omega
    have hid:=O.id
    have idx:∀ k y,S.G k=some y→k<32:=fun k y hk=>by
      refine Decidable.byContradiction fun hlt=>?_
      rw [I.tree.top k (by omega)] at hk
      simp at hk
    have hi32:=idx i x hi
    have hqok:(putQ p.q { x.own with v:=wakeZ x.own.v p.q.mn S.credit }).ok:=(I.qok u p hp).put (by show x.own.id≤_;omega) hw
    have mayS:∀ v k,S.may v k→((S.put u (some { p with q:=putQ p.q { x.own with v:=wakeZ x.own.v p.q.mn S.credit } })).put i (some { x with own:={ x.own with v:=wakeZ x.own.v p.q.mn S.credit },on:=true })).may v k:=fun v k hm=>by
      rcases hm with hm | ⟨j,y,e1,e2,e3,e4,e5⟩
      · exact .inl hm
      · by_cases hji:j=i
        · subst hji
          rw [hi] at e3
          injection e3 with e3
          subst e3
          rw [hon] at e5
          simp at e5
        · by_cases hju:j=u
          · subst hju
            rw [hp] at e3
            injection e3 with e3
            subst e3
            exact .inr ⟨j,_,e1,e2,(HS.put_other _ _ hji).trans (HS.put_same _ _ _),e4,e5⟩
          · exact .inr ⟨j,y,e1,e2,by rw [HS.put_other _ _ hji,HS.put_other _ _ hju];exact e3,e4,e5⟩
    refine ⟨I.tree.put2 hne hi hp rfl rfl rfl rfl,fun j y hj0 hj=>?_,fun v q hv e he=>?_,fun j y v q hj0 hj hup hv hyon=>?_,fun v q hv=>?_⟩
    · by_cases hji:j=i
      · subst hji
        rw [HS.put_same] at hj
        injection hj with hj
        subst hj
        exact ⟨O.id,O.w1,O.w2,hw.1,hw.2,O.r⟩
      · rw [HS.put_other _ _ hji] at hj
        by_cases hju:j=u
        · subst hju
          rw [HS.put_same] at hj
          injection hj with hj
          subst hj
          exact I.own j p hj0 hp
        · rw [HS.put_other _ _ hju] at hj
          exact I.own j y hj0 hj
    · by_cases hvi:v=i
      · subst hvi
        rw [HS.put_same] at hv
        injection hv with hv
        subst hv
        exact mayS _ _ (I.ids v x hi e he)
      · rw [HS.put_other _ _ hvi] at hv
        by_cases hvu:v=u
        · subst hvu
          rw [HS.put_same] at hv
          injection hv with hv
          subst hv
          replace he:e ∈ (putQ p.q { x.own with v:=wakeZ x.own.v p.q.mn S.credit }).L:=he
          rw [hL,List.mem_append] at he
          rcases he with he | he
          · exact mayS _ _ (I.ids v p hp e he)
          · rw [List.mem_singleton] at he
            subst he
            exact .inr ⟨i,_,by show x.own.id=_;exact hid,h0,HS.put_same _ _ _,hu,rfl⟩
        · rw [HS.put_other _ _ hvu] at hv
          exact mayS _ _ (I.ids v q hv e he)
    · have key:∀ q0,S.G v=some q0→∀ e,e ∈ q0.q.L→e ∈ q.q.L:=fun q0 hq0 e he=>by
        by_cases hvi:v=i
        · subst hvi
          rw [HS.put_same] at hv
          injection hv with hv
          subst hv
          rw [hi] at hq0
          injection hq0 with hq0
          subst hq0
          exact he
        · rw [HS.put_other _ _ hvi] at hv
          by_cases hvu:v=u
          · subst hvu
            rw [HS.put_same] at hv
            injection hv with hv
            subst hv
            rw [hp] at hq0
            injection hq0 with hq0
            subst hq0
            show e ∈ (putQ _ _).L
            rw [hL]
            exact List.mem_append_left _ he
          · rw [HS.put_other _ _ hvu] at hv
            rw [hv] at hq0
            injection hq0 with hq0
            subst hq0
            exact he
      have hv0:∃ q0,S.G v=some q0:=by
        by_cases hvi:v=i
        · exact ⟨x,hvi ▸ hi⟩
        · rw [HS.put_other _ _ hvi] at hv
          by_cases hvu:v=u
          · exact ⟨p,hvu ▸ hp⟩
          · rw [HS.put_other _ _ hvu] at hv
            exact ⟨q,hv⟩
      obtain ⟨q0,hq0⟩:=hv0
      by_cases hji:j=i
      · subst hji
        rw [HS.put_same] at hj
        injection hj with hj
        subst hj
        have:v=u:=by
          have:x.up=((v:Nat):Int):=hup
          omega
        subst this
        rw [HS.put_other _ _ hne,HS.put_same] at hv
        injection hv with hv
        subst hv
        refine ⟨{ x.own with v:=wakeZ x.own.v p.q.mn S.credit },?_,hid⟩
        show _ ∈ (putQ _ _).L
        rw [hL]
        simp
      · rw [HS.put_other _ _ hji] at hj
        by_cases hju:j=u
        · subst hju
          rw [HS.put_same] at hj
          injection hj with hj
          subst hj
          obtain ⟨e,he,hie⟩:=I.on j p v q0 hj0 hp hup hq0 hyon
          exact ⟨e,key q0 hq0 e he,hie⟩
        · rw [HS.put_other _ _ hju] at hj
          obtain ⟨e,he,hie⟩:=I.on j y v q0 hj0 hj hup hq0 hyon
          exact ⟨e,key q0 hq0 e he,hie⟩
    · by_cases hvi:v=i
      · subst hvi
        rw [HS.put_same] at hv
        injection hv with hv
        subst hv
        exact I.qok v x hi
      · rw [HS.put_other _ _ hvi] at hv
        by_cases hvu:v=u
        · subst hvu
          rw [HS.put_same] at hv
          injection hv with hv
          subst hv
          exact hqok
        · rw [HS.put_other _ _ hvu] at hv
          exact I.qok v q hv
  · rw [if_neg hsh]
    have hon:x.on=true:=by
      cases hx:x.on with
      | true=>rfl
      | false =>
        have:shouldB x=false:=by simpa using hsh
        rw [this,hx] at hs
        exact absurd rfl hs
    have hL:=dropQ_L p.q (2*(i:Int)+1)
    have hget:∃ e,p.q.get (2*(i:Int)+1)=some e:=by
      obtain ⟨e,he,hie⟩:=I.on i x u p h0 hi hu hp hon
      rw [← hie]
      exact ⟨e,(I.qok u p hp).get he⟩
    obtain ⟨e1,he1⟩:=hget
    have hem:=QS.get_some he1
    have heok:=(I.qok u p hp).ents e1 hem.1
    rw [he1]
    show HInv ((S.put u (some { p with q:=dropQ p.q (2*(i:Int)+1) })).put i (some { x with own:=e1,on:=false }))
    have mayS:∀ v k,S.may v k→k≠2*(i:Int)+1→((S.put u (some { p with q:=dropQ p.q (2*(i:Int)+1) })).put i (some { x with own:=e1,on:=false })).may v k:=fun v k hm hk=>by
      rcases hm with hm | ⟨j,y,e1,e2,e3,e4,e5⟩
      · exact .inl hm
      · have hji:j≠i:=fun h=>hk (by rw [e1,h])
        by_cases hju:j=u
        · subst hju
          rw [hp] at e3
          injection e3 with e3
          subst e3
          exact .inr ⟨j,_,e1,e2,(HS.put_other _ _ hji).trans (HS.put_same _ _ _),e4,e5⟩
        · exact .inr ⟨j,y,e1,e2,by rw [HS.put_other _ _ hji,HS.put_other _ _ hju];exact e3,e4,e5⟩
    have noId:∀ v q,S.G v=some q→v≠u→∀ e,e ∈ q.q.L→e.id≠2*(i:Int)+1:=fun v q hq hvu e he hie=>by
      rcases I.ids v q hq e he with ⟨t,_,h⟩ | ⟨k,y,h,_,hk,hku,_⟩
      · omega
      · have:k=i:=by omega
        subst this
        rw [hi] at hk
        injection hk with hk
        subst hk
        rw [hu] at hku
        exact hvu (by omega)
    refine ⟨I.tree.put2 hne hi hp rfl rfl rfl rfl,fun j y hj0 hj=>?_,fun v q hv e he=>?_,fun j y v q hj0 hj hup hv hyon=>?_,fun v q hv=>?_⟩
    · by_cases hji:j=i
      · subst hji
        rw [HS.put_same] at hj
        injection hj with hj
        subst hj
        exact ⟨hem.2,heok.w1,heok.w2,heok.v1,heok.v2,heok.r⟩
      · rw [HS.put_other _ _ hji] at hj
        by_cases hju:j=u
        · subst hju
          rw [HS.put_same] at hj
          injection hj with hj
          subst hj
          exact I.own j p hj0 hp
        · rw [HS.put_other _ _ hju] at hj
          exact I.own j y hj0 hj
    · by_cases hvi:v=i
      · subst hvi
        rw [HS.put_same] at hv
        injection hv with hv
        subst hv
        exact mayS _ _ (I.ids v x hi e he) (noId v x hi (Ne.symm hne) e he)
      · rw [HS.put_other _ _ hvi] at hv
        by_cases hvu:v=u
        · subst hvu
          rw [HS.put_same] at hv
          injection hv with hv
          subst hv
          replace he:e ∈ (dropQ p.q (2*(i:Int)+1)).L:=he
          rw [hL] at he
          obtain ⟨he1,he2⟩:=lessL_mem.1 he
          exact mayS _ _ (I.ids v p hp e he1) he2
        · rw [HS.put_other _ _ hvu] at hv
          exact mayS _ _ (I.ids v q hv e he) (noId v q hv hvu e he)
    · have hji:j≠i:=by
        rintro rfl
        rw [HS.put_same] at hj
        injection hj with hj
        subst hj
        simp at hyon
      have key:∀ q0,S.G v=some q0→∀ e,e ∈ q0.q.L→e.id≠2*(i:Int)+1→e ∈ q.q.L:=fun q0 hq0 e he hid=>by
        by_cases hvi:v=i
        · subst hvi
          rw [HS.put_same] at hv
          injection hv with hv
          subst hv
          rw [hi] at hq0
          injection hq0 with hq0
          subst hq0
          exact he
        · rw [HS.put_other _ _ hvi] at hv
          by_cases hvu:v=u
          · subst hvu
            rw [HS.put_same] at hv
            injection hv with hv
            subst hv
            rw [hp] at hq0
            injection hq0 with hq0
            subst hq0
            show e ∈ (dropQ _ _).L
            rw [hL]
            exact lessL_mem.2 ⟨he,hid⟩
          · rw [HS.put_other _ _ hvu] at hv
            rw [hv] at hq0
            injection hq0 with hq0
            subst hq0
            exact he
      have hv0:∃ q0,S.G v=some q0:=by
        by_cases hvi:v=i
        · exact ⟨x,hvi ▸ hi⟩
        · rw [HS.put_other _ _ hvi] at hv
          by_cases hvu:v=u
          · exact ⟨p,hvu ▸ hp⟩
          · rw [HS.put_other _ _ hvu] at hv
            exact ⟨q,hv⟩
      obtain ⟨q0,hq0⟩:=hv0
      rw [HS.put_other _ _ hji] at hj
      by_cases hju:j=u
      · subst hju
        rw [HS.put_same] at hj
        injection hj with hj
        subst hj
        obtain ⟨e,he,hie⟩:=I.on j p v q0 hj0 hp hup hq0 hyon
        exact ⟨e,key q0 hq0 e he (by omega),hie⟩
      · rw [HS.put_other _ _ hju] at hj
        obtain ⟨e,he,hie⟩:=I.on j y v q0 hj0 hj hup hq0 hyon
        exact ⟨e,key q0 hq0 e he (by omega),hie⟩
    · by_cases hvi:v=i
      · subst hvi
        rw [HS.put_same] at hv
        injection hv with hv
        subst hv
        exact I.qok v x hi
      · rw [HS.put_other _ _ hvi] at hv
        by_cases hvu:v=u
        · subst hvu
          rw [HS.put_same] at hv
          injection hv with hv
          subst hv
          exact (I.qok v p hp).dropQ _
        · rw [HS.put_other _ _ hvu] at hv
          exact I.qok v q hv
end
def HSetX (S:HS) (i:Nat):Prop:=∀ j g,j≠0→j≠i→S.G j=some g→g.on=shouldB g
theorem HSetX.root {S:HS} (h:HSetX S 0):HSet S:=fun j g h0 hj=>h j g h0 h0 hj
theorem step_set {S:HS} {i u:Nat} {x p:Gr} (hS:HSetX S i) (_hp:S.G u=some p):HSetX (stepH S i u x p) u:=by
  intro j g h0 hju hj
  unfold stepH at hj
  split at hj
  · rename_i hsh
    by_cases hji:j=i
    · subst hji
      rw [HS.put_same] at hj
      injection hj with hj
      subst hj
      exact hsh.symm
    · rw [HS.put_other _ _ hji,HS.put_other _ _ hju] at hj
      exact hS j g h0 hji hj
  · rename_i hsh
    by_cases hji:j=i
    · subst hji
      rw [HS.put_same] at hj
      injection hj with hj
      subst hj
      have:shouldB x=false:=by simpa using hsh
      exact this.symm
    · rw [HS.put_other _ _ hji,HS.put_other _ _ hju] at hj
      exact hS j g h0 hji hj
theorem settle_inv:∀ (n:Nat) (S:HS) (i:Nat) (x:Gr),S.G i=some x→x.deep<n→HInv S→HSetX S i→HInv (settleH n S i)∧HSet (settleH n S i)
  | 0,_,_,_,_,h,_,_=>absurd h (Nat.not_lt_zero _)
  | n+1,S,i,x,hi,hd,I,hS=>by
    unfold settleH
    rw [hi]
    dsimp only
    by_cases hup:x.up = -1
    · rw [if_pos hup]
      have:=I.tree.zero hi hup
      subst this
      exact ⟨I,hS.root⟩
    · rw [if_neg hup]
      have h0:i≠0:=by
        rintro rfl
        obtain ⟨g,e1,e2,_⟩:=I.tree.root
        rw [hi] at e1
        injection e1 with e1
        subst e1
        exact hup e2
      by_cases hs:shouldB x=x.on
      · rw [if_pos hs]
        refine ⟨I,fun j g hj0 hj=>?_⟩
        by_cases hji:j=i
        · subst hji
          rw [hi] at hj
          injection hj with hj
          subst hj
          exact hs.symm
        · exact hS j g hj0 hji hj
      · rw [if_neg hs]
        obtain ⟨u,p,e1,e2,e3⟩:=I.tree.up i x h0 hi
        have eu:x.up.toNat=u:=by omega
        rw [eu,e2]
        dsimp only
        obtain ⟨hne,_⟩:=I.tree.ne h0 hi e1 e2
        have I2:=step_inv I h0 hi e1 e2 hs
        have S2:=step_set hS (x:=x) e2
        have hG:∃ p2,(stepH S i u x p).G u=some p2∧p2.deep=p.deep:=by
          unfold stepH
          split
          · exact ⟨_,(HS.put_other _ _ hne).trans (HS.put_same _ _ _),rfl⟩
          · exact ⟨_,(HS.put_other _ _ hne).trans (HS.put_same _ _ _),rfl⟩
        obtain ⟨p2,g1,g2⟩:=hG
        exact settle_inv n _ u p2 g1 (by omega) I2 S2
end Go.Proofs.YtefekboacghnjaaGreat
namespace Go.Proofs.YtefekboacghnjaaGreat
open Go.RowKit Go.Maps
set_option maxRecDepth 100000 in
theorem fsub_in (a b:Int) (ha1:-9223372036854775808≤a) (ha2:a≤9223372036854775807) (hb1:-9223372036854775808≤b) (hb2:b≤9223372036854775807) (h1:-9223372036854775808≤a - b) (h2:a - b≤9223372036854775807) (w:World) :
    Calls Tryz.prog 136 #[.int .i64 a,.int .i64 b] w fun e w'=>e=.returned (.tuple #[.int .i64 (a - b),.bool true])∧w=w':=by
  obtain ⟨n,hn⟩:∃ n,n=a - b:=⟨_,rfl⟩
  have e1:a - b=n:=hn.symm
  have e2:IntKind.i64.wrap (a - b)=n:=by rw [IntKind.wrap_i64];omega
  have sg:=signs b n a hb1 hb2 (by omega) (by omega) ha1 ha2
  have sf:decide (bits .and .i64 (bits .xor .i64 a b) (bits .xor .i64 a n)<0)=false:=by
    have c1:bits .xor .i64 a b=bits .xor .i64 b a:=by rw [bits_xor,bits_xor,BitVec.xor_comm]
    have c2:bits .xor .i64 a n=bits .xor .i64 n a:=by rw [bits_xor,bits_xor,BitVec.xor_comm]
    rw [c1,c2,sg]
    by_cases p:a<0 <;> by_cases q:b<0 <;> by_cases r:n<0 <;> simp [p,q,r] <;> omega
  rw [e1]
  clear sg hn
  go_enter Tryz.func136,Tryz.ntmps136
  go_wp2_with fail
  go_ret2
  exact ⟨rfl,rfl⟩
set_option maxRecDepth 100000 in
theorem fsub_no (a b:Int) (ha1:-9223372036854775808≤a) (ha2:a≤9223372036854775807) (hb1:-9223372036854775808≤b) (hb2:b≤9223372036854775807) (h:a - b < -9223372036854775808∨9223372036854775807<a - b) (w:World) :
    Calls Tryz.prog 136 #[.int .i64 a,.int .i64 b] w fun e w'=>e=.returned (.tuple #[.int .i64 0,.bool false])∧w=w':=by
  obtain ⟨n,hn⟩:∃ n,n=IntKind.i64.wrap (a - b):=⟨_,rfl⟩
  have e1:IntKind.i64.wrap (a - b)=n:=hn.symm
  have e2:wrap64 (a - b)=n:=by rw [← e1];exact (IntWalk.i64_left _).symm
  rw [IntKind.wrap_i64] at hn
  have sg:=signs b n a hb1 hb2 (by omega) (by omega) ha1 ha2
  have sf:decide (bits .and .i64 (bits .xor .i64 a b) (bits .xor .i64 a n)<0)=true:=by
    have c1:bits .xor .i64 a b=bits .xor .i64 b a:=by rw [bits_xor,bits_xor,BitVec.xor_comm]
    have c2:bits .xor .i64 a n=bits .xor .i64 n a:=by rw [bits_xor,bits_xor,BitVec.xor_comm]
    rw [c1,c2,sg]
    by_cases p:a<0 <;> by_cases q:b<0 <;> by_cases r:n<0 <;> simp [p,q,r] <;> omega
  clear sg hn h
  go_enter Tryz.func136,Tryz.ntmps136
  go_wp2_with fail
  go_ret2
  exact ⟨rfl,rfl⟩
theorem lessEnd_any (b:Int) (B:Nat) (w:World) (hc:w.cell? ⟨B,0,none⟩=some (.int .i64 b)) :
    Calls Tryz.prog 137 #[.pointer (some ⟨B,0,none⟩)] w fun e w'=>e=.returned (.int .i64 (if b<0 then 9223372036854775807 else -9223372036854775808))∧w=w':=by
  by_cases h:b<0
  · rw [if_pos h]
    have t1:decide (b<0)=true:=decide_eq_true h
    go_enter Tryz.func137,Tryz.ntmps137
    go_wp2_with fail
    go_ret
    exact ⟨rfl,rfl⟩
  · rw [if_neg h]
    have t1:decide (b<0)=false:=decide_eq_false h
    go_enter Tryz.func137,Tryz.ntmps137
    go_wp2_with fail
    go_ret
    exact ⟨rfl,rfl⟩
set_option maxRecDepth 100000 in
theorem heldL_no (n b:Int) (B:Nat) (w:World) (hc:w.cell? ⟨B,0,none⟩=some (.int .i64 b)) :
    Calls Tryz.prog 116 #[.int .i64 n,.bool false,.func (.func 137) #[] #[.pointer (some ⟨B,0,none⟩)]] w fun e w'=>e=.returned (.int .i64 (if b<0 then 9223372036854775807 else -9223372036854775808))∧w=w':=by
  have M1:=Lib.hid (lessEnd_any b B w hc)
  generalize (if b<0 then (9223372036854775807:Int) else -9223372036854775808)=x at *
  clear hc
  go_enter Tryz.func116,Tryz.ntmps116
  go_wp2_with fail
  refine M1.out.mono ?_
  rintro e w' ⟨rfl,rfl⟩
  go_wp2_with fail
  go_ret
  exact ⟨rfl,rfl⟩
set_option maxRecDepth 100000 in
theorem fless_any (a b:Int) (ha1:-9223372036854775808≤a) (ha2:a≤9223372036854775807) (hb1:-9223372036854775808≤b) (hb2:b≤9223372036854775807) (w:World) :
    Calls Tryz.prog 111 #[.int .i64 a,.int .i64 b] w fun e w'=>e=.returned (.int .i64 (satZ a (-b)))∧Below w.heap.size w w':=by
  have hB0:Below w.heap.size w (w.alloc (.cells #[.int .i64 b] 2)):=(Below.refl _ _).alloc (Nat.le_refl _) _
  by_cases h:a - b < -9223372036854775808∨9223372036854775807<a - b
  · have e:(if b<0 then (9223372036854775807:Int) else -9223372036854775808)=satZ a (-b):=by
      unfold satZ
      by_cases hb:b<0
      · rw [if_pos hb,if_pos (by omega)]
      · rw [if_neg hb,if_neg (by omega),if_pos (by omega)]
    have m2:=fun B W hc=>heldL_no 0 b B W hc
    rw [e] at m2
    have M1:=Lib.hid fun W=>fsub_no a b ha1 ha2 hb1 hb2 h W
    have M2:=Lib.hid m2
    generalize satZ a (-b)=s at *
    clear e m2 h
    go_enter Tryz.func111,Tryz.ntmps111
    go_wp2_with fail
    refine (M1.out _).mono ?_
    rintro e w' ⟨rfl,rfl⟩
    go_wp2_with fail
    refine (M2.out _ _ (by simp [go_sem])).mono ?_
    rintro e w' ⟨rfl,rfl⟩
    go_wp2_with fail
    go_ret
    exact ⟨rfl,hB0⟩
  · have e:satZ a (-b)=a - b:=by rw [satZ_in a (-b) (by omega) (by omega)];omega
    have m1:=fun W=>fsub_in a b ha1 ha2 hb1 hb2 (by omega) (by omega) W
    rw [← e] at m1
    have M1:=Lib.hid m1
    generalize satZ a (-b)=s at *
    clear e m1 h
    go_enter Tryz.func111,Tryz.ntmps111
    go_wp2_with fail
    refine (M1.out _).mono ?_
    rintro e w' ⟨rfl,rfl⟩
    go_wp2_with fail
    refine (held_yes s _ _).mono ?_
    rintro e w' ⟨rfl,rfl⟩
    go_wp2_with fail
    go_ret
    exact ⟨rfl,hB0⟩
theorem wake_any (own mn c:Int) (h1:-9223372036854775808≤mn) (h2:mn≤9223372036854775807) (w:World) :
    Calls Tryz.prog 83 #[.int .i64 own,.int .i64 mn,.int .i64 c] w fun e w'=>e=.returned (.int .i64 (wakeZ own mn c))∧Below w.heap.size w w':=by
  have MH:=Lib.hid fun W=>fhold_any c 0 1099511627776 W
  have hc:=holdZ_credit c
  have ML:=Lib.hid fun W=>fless_any mn (holdZ c 0 1099511627776) h1 h2 (by omega) (by omega) W
  unfold wakeZ
  generalize satZ mn (-(holdZ c 0 1099511627776))=s at *
  generalize holdZ c 0 1099511627776=hc2 at *
  go_enter Tryz.func83,Tryz.ntmps83
  go_wp2_with (first
    | (go_at_call 112;refine (MH.out _).mono ?_;rintro e w' ⟨rfl,rfl⟩)
    | (go_at_call 111;refine (ML.out _).mono ?_;rintro e w' ⟨rfl,hb⟩))
  go_ret
  exact ⟨rfl,hb⟩
end Go.Proofs.YtefekboacghnjaaGreat
namespace Go.Proofs.YtefekboacghnjaaGreat
open Go.RowKit Go.Maps
abbrev gcells (qb:Nat) (g:Gr):Array Value:=#[.int .i64 g.up,.int .i64 (g.deep:Nat),.pointer (some ⟨qb,0,none⟩),.int .i64 g.own.id,.int .u64 g.own.wt,.int .i64 g.own.v,.int .u64 g.own.rem,.bool g.on,.bool g.stopped]
def gpV (gb:Nat→Nat) (S:HS) (i:Nat):Value:=.pointer ((S.G i).map fun _=>⟨gb i,0,none⟩)
def hcells (gb:Nat→Nat) (S:HS):Array Value:=(.int .i64 S.credit::.int .i64 S.gran::(List.range 32).map (gpV gb S)).toArray
theorem hcells_size (gb:Nat→Nat) (S:HS):(hcells gb S).size=34:=by simp [hcells]
theorem hcells_at (gb:Nat→Nat) (S:HS) {i:Nat} (h:i<32):(hcells gb S)[2+i]?=some (gpV gb S i):=by
  rw [hcells,List.getElem?_toArray,show 2+i=i+1+1 by omega,List.getElem?_cons_succ,List.getElem?_cons_succ,List.getElem?_map,List.getElem?_range h]
  rfl
structure HMem (w:World) (h:Nat) (gb qb:Nat→Nat) (F:Nat→List Nat) (S:HS) (K:Int):Prop where
  blk:Blk w h (hcells gb S) 55
  grp:∀ i g,S.G i=some g→Blk w (gb i) (gcells (qb i) g) 59
  que:∀ i g,S.G i=some g→QAt w (qb i) (F i) g.q K
  top:∀ i,32≤i→S.G i=none
  apH:∀ i g,S.G i=some g→h ∉ F i
  apG:∀ i g j g',S.G i=some g→S.G j=some g'→gb i ∉ F j
  apGG:∀ i g j g',S.G i=some g→S.G j=some g'→i≠j→gb i≠gb j
  apF:∀ i g j g',S.G i=some g→S.G j=some g'→i≠j→∀ b,b ∈ F i→b ∉ F j
def hblocks (h:Nat) (gb:Nat→Nat) (F:Nat→List Nat) (S:HS):List Nat:=h::(List.range 32).flatMap fun i=>match S.G i with | none=>[] | some _=>gb i::F i
theorem hblocks_mem {h:Nat} {gb:Nat→Nat} {F:Nat→List Nat} {S:HS} (ht:∀ i,32≤i→S.G i=none) {b:Nat}:b ∈ hblocks h gb F S ↔ b=h∨∃ i g,S.G i=some g∧(b=gb i∨b ∈ F i):=by
  unfold hblocks
  rw [List.mem_cons,List.mem_flatMap]
  refine or_congr_right ?_
  constructor
  · rintro ⟨i,_,hb⟩
    cases hg:S.G i with
    | none=>rw [hg] at hb;simp at hb
    | some g =>
      rw [hg] at hb
      exact ⟨i,g,hg,List.mem_cons.1 hb⟩
  · rintro ⟨i,g,hg,hb⟩
    refine ⟨i,?_,?_⟩
    · rw [List.mem_range]
      refine Decidable.byContradiction fun hlt=>?_
      rw [ht i (by omega)] at hg
      simp at hg
    · rw [hg];exact List.mem_cons.2 hb
structure HAt (w:World) (h:Nat) (F:List Nat) (S:HS) (K:Int):Prop where
  ex:∃ gb qb Fq,HMem w h gb qb Fq S K∧F=hblocks h gb Fq S
structure HTurned (w:World) (F:List Nat) (h:Nat) (S:HS) (K:Int) (w':World) (F':List Nat):Prop where
  at_:HAt w' h F' S K
  turns:Turns F w w'
  sub:∀ b,b ∈ F'→b ∈ F∨w.heap.size≤b
section
variable {w w' w'':World} {h:Nat} {gb qb:Nat→Nat} {Fq:Nat→List Nat} {S S' S'':HS} {K K' K'':Int} {F F' F'':List Nat}
theorem HMem.of (m:HMem w h gb qb Fq S K) (e:∀ b,b ∈ hblocks h gb Fq S→w'.heap[b]?=w.heap[b]?):HMem w' h gb qb Fq S K :=
  ⟨m.blk.of (e h ((hblocks_mem m.top).2 (.inl rfl))),fun i g hg=>(m.grp i g hg).of (e _ ((hblocks_mem m.top).2 (.inr ⟨i,g,hg,.inl rfl⟩))),
   fun i g hg=>(m.que i g hg).of fun b hb=>e b ((hblocks_mem m.top).2 (.inr ⟨i,g,hg,.inr hb⟩)),m.top,m.apH,m.apG,m.apGG,m.apF⟩
theorem HMem.lt (m:HMem w h gb qb Fq S K):∀ b,b ∈ hblocks h gb Fq S→b<w.heap.size:=by
  intro b hb
  rcases (hblocks_mem m.top).1 hb with rfl | ⟨i,g,hg,rfl | hb⟩
  · exact m.blk.lt
  · exact (m.grp i g hg).lt
  · exact (m.que i g hg).lt b hb
theorem HMem.below (m:HMem w h gb qb Fq S K) (k:Below w.heap.size w w'):HMem w' h gb qb Fq S K:=m.of fun b hb=>k.block b (m.lt b hb)
theorem HMem.mono (m:HMem w h gb qb Fq S K) (hK:K≤K') (h2:K'≤1000000000000000):HMem w h gb qb Fq S K' :=
  ⟨m.blk,m.grp,fun i g hg=>(m.que i g hg).mono hK h2,m.top,m.apH,m.apG,m.apGG,m.apF⟩
theorem HMem.idx (m:HMem w h gb qb Fq S K) {i:Nat} {g:Gr} (hg:S.G i=some g):i<32:=by
  refine Decidable.byContradiction fun hlt=>?_
  rw [m.top i (by omega)] at hg
  simp at hg
theorem HMem.neH (m:HMem w h gb qb Fq S K) {i:Nat} {g:Gr} (hg:S.G i=some g):gb i≠h :=
  Blk.apart (m.grp i g hg) m.blk (fun e=>by have:=congrArg Array.size e;rw [hcells_size] at this;simp at this)
theorem HMem.cred (m:HMem w h gb qb Fq S K):w.cell? ⟨h,0,none⟩=some (.int .i64 S.credit)∧w.cell? ⟨h,1,none⟩=some (.int .i64 S.gran):=by
  have h0:=Blk.cell m.blk 0
  have h1:=Blk.cell m.blk 1
  rw [hcells,List.getElem?_toArray] at h0 h1
  exact ⟨h0,h1⟩
theorem HMem.ptr (m:HMem w h gb qb Fq S K) {i:Nat} (hi:i<32):w.cell? ⟨h,2+i,none⟩=some (gpV gb S i):=by
  rw [Blk.cell m.blk (2+i),hcells_at gb S hi]
theorem HMem.ptr_some (m:HMem w h gb qb Fq S K) {i:Nat} {g:Gr} (hg:S.G i=some g):w.cell? ⟨h,2+i,none⟩=some (.pointer (some ⟨gb i,0,none⟩)):=by
  rw [m.ptr (m.idx hg)]
  unfold gpV
  rw [hg]
  rfl
theorem HMem.ptr_none (m:HMem w h gb qb Fq S K) {i:Nat} (hi:i<32) (hg:S.G i=none):w.cell? ⟨h,2+i,none⟩=some (.pointer none):=by
  rw [m.ptr hi]
  unfold gpV
  rw [hg]
  rfl
theorem HMem.cells (m:HMem w h gb qb Fq S K) {i:Nat} {g:Gr} (hg:S.G i=some g) :
    w.cell? ⟨gb i,0,none⟩=some (.int .i64 g.up)∧w.cell? ⟨gb i,1,none⟩=some (.int .i64 (g.deep:Nat))∧w.cell? ⟨gb i,2,none⟩=some (.pointer (some ⟨qb i,0,none⟩)) ∧
    w.cell? ⟨gb i,3,none⟩=some (.int .i64 g.own.id)∧w.cell? ⟨gb i,4,none⟩=some (.int .u64 g.own.wt)∧w.cell? ⟨gb i,5,none⟩=some (.int .i64 g.own.v)∧w.cell? ⟨gb i,6,none⟩=some (.int .u64 g.own.rem) ∧
    w.cell? ⟨gb i,7,none⟩=some (.bool g.on)∧w.cell? ⟨gb i,8,none⟩=some (.bool g.stopped)∧∀ j,w.frozen? ⟨gb i,j,none⟩=false :=
  have hb:=m.grp i g hg
  ⟨Blk.cell hb 0,Blk.cell hb 1,Blk.cell hb 2,Blk.cell hb 3,Blk.cell hb 4,Blk.cell hb 5,Blk.cell hb 6,Blk.cell hb 7,Blk.cell hb 8,Blk.frozen hb⟩
theorem HMem.queue (m:HMem w h gb qb Fq S K) {i:Nat} {g:Gr} (hg:S.G i=some g) {X:QS} {Fi:List Nat} (hT:QTurned w (Fq i) (qb i) X K' w' Fi) (hK:K≤K') (h2:K'≤1000000000000000) :
    HMem w' h gb qb (fun j=>if j=i then Fi else Fq j) (S.put i (some { g with q:=X })) K':=by
  have keep:∀ b,b<w.heap.size→b ∉ Fq i→w'.heap[b]?=w.heap[b]?:=fun b hb hn=>hT.turns.block b hb hn
  have hput:∀ j g',(S.put i (some { g with q:=X })).G j=some g'→∃ g0,S.G j=some g0:=fun j g' hj=>by
    by_cases hji:j=i
    · exact ⟨g,hji ▸ hg⟩
    · rw [HS.put_other S _ hji] at hj;exact ⟨g',hj⟩
  have hfresh:∀ b,b ∈ Fi→b ∈ Fq i∨w.heap.size≤b:=hT.sub
  refine ⟨?_,fun j g' hj=>?_,fun j g' hj=>?_,fun j hj=>?_,fun j g' hj=>?_,fun j g' k g'' hj hk=>?_,fun j g' k g'' hj hk hne=>?_,fun j g' k g'' hj hk hne b hb=>?_⟩
  · have e:hcells gb (S.put i (some { g with q:=X }))=hcells gb S:=by
      unfold hcells
      congr 3
      refine List.map_congr_left fun j _=>?_
      unfold gpV
      by_cases hji:j=i
      · rw [hji,HS.put_same,hg];rfl
      · rw [HS.put_other S _ hji]
    rw [e]
    exact m.blk.of (keep h m.blk.lt (m.apH i g hg))
  · by_cases hji:j=i
    · subst hji
      rw [HS.put_same] at hj
      injection hj with hj
      subst hj
      have hb:=m.grp j g hg
      exact hb.of (keep _ hb.lt (m.apG j g j g hg hg))
    · rw [HS.put_other S _ hji] at hj
      have hb:=m.grp j g' hj
      exact hb.of (keep _ hb.lt (m.apG j g' i g hj hg))
  · by_cases hji:j=i
    · subst hji
      rw [HS.put_same] at hj
      injection hj with hj
      subst hj
      try dsimp only
      rw [if_pos rfl]
      exact hT.at_
    · rw [HS.put_other S _ hji] at hj
      try dsimp only
      rw [if_neg hji]
      exact ((m.que j g' hj).mono hK h2).of fun b hb=>keep b ((m.que j g' hj).lt b hb) (m.apF j g' i g hj hg hji b hb)
  · by_cases hji:j=i
    · have:=m.idx hg;omega
    · rw [HS.put_other S _ hji];exact m.top j hj
  · obtain ⟨g0,h0⟩:=hput j g' hj
    try dsimp only
    by_cases hji:j=i
    · rw [if_pos hji]
      intro hb
      rcases hfresh _ hb with hb | hb
      · exact m.apH i g hg hb
      · have:=m.blk.lt;omega
    · rw [if_neg hji];exact m.apH j g0 h0
  · obtain ⟨g0,h0⟩:=hput j g' hj
    obtain ⟨g1,h1⟩:=hput k g'' hk
    try dsimp only
    by_cases hki:k=i
    · rw [if_pos hki]
      intro hb
      rcases hfresh _ hb with hb | hb
      · exact m.apG j g0 i g h0 hg hb
      · have:=(m.grp j g0 h0).lt;omega
    · rw [if_neg hki];exact m.apG j g0 k g1 h0 h1
  · obtain ⟨g0,h0⟩:=hput j g' hj
    obtain ⟨g1,h1⟩:=hput k g'' hk
    exact m.apGG j g0 k g1 h0 h1 hne
  · obtain ⟨g0,h0⟩:=hput j g' hj
    obtain ⟨g1,h1⟩:=hput k g'' hk
    try dsimp only at hb ⊢
    by_cases hji:j=i
    · rw [if_pos hji] at hb
      rw [if_neg (fun hk2=>hne (hji.trans hk2.symm))]
      rcases hfresh _ hb with hb | hb
      · exact m.apF i g k g1 hg h1 (fun e=>hne (hji.trans e)) b hb
      · intro hb2
        have:=(m.que k g1 h1).lt b hb2
        omega
    · rw [if_neg hji] at hb
      by_cases hki:k=i
      · rw [if_pos hki]
        intro hb2
        rcases hfresh _ hb2 with hb2 | hb2
        · exact m.apF j g0 i g h0 hg hji b hb hb2
        · have:=(m.que j g0 h0).lt b hb
          omega
      · rw [if_neg hki]
        exact m.apF j g0 k g1 h0 h1 hne b hb
theorem HMem.queue_sub (m:HMem w h gb qb Fq S K) {i:Nat} {g:Gr} (hg:S.G i=some g) {X:QS} {Fi:List Nat} (hT:QTurned w (Fq i) (qb i) X K' w' Fi) :
    ∀ b,b ∈ hblocks h gb (fun j=>if j=i then Fi else Fq j) (S.put i (some { g with q:=X }))→b ∈ hblocks h gb Fq S∨w.heap.size≤b:=by
  have ht:∀ j,32≤j→(S.put i (some { g with q:=X })).G j=none:=fun j hj=>by
    rw [HS.put_other S _ (by have:=m.idx hg;omega)];exact m.top j hj
  intro b hb
  rcases (hblocks_mem ht).1 hb with rfl | ⟨j,g',hj,hb⟩
  · exact .inl ((hblocks_mem m.top).2 (.inl rfl))
  · have h0:∃ g0,S.G j=some g0:=by
      by_cases hji:j=i
      · exact ⟨g,hji ▸ hg⟩
      · rw [HS.put_other S _ hji] at hj;exact ⟨g',hj⟩
    obtain ⟨g0,h0⟩:=h0
    rcases hb with rfl | hb
    · exact .inl ((hblocks_mem m.top).2 (.inr ⟨j,g0,h0,.inl rfl⟩))
    · by_cases hji:j=i
      · rw [if_pos hji] at hb
        rcases hT.sub b hb with hb | hb
        · exact .inl ((hblocks_mem m.top).2 (.inr ⟨i,g,hg,.inr hb⟩))
        · exact .inr hb
      · rw [if_neg hji] at hb
        exact .inl ((hblocks_mem m.top).2 (.inr ⟨j,g0,h0,.inr hb⟩))
theorem HMem.queue_turns (m:HMem w h gb qb Fq S K) {i:Nat} {g:Gr} (hg:S.G i=some g) (hT:Turns (Fq i) w w'):Turns (hblocks h gb Fq S) w w' :=
  hT.mono fun _ hb=>(hblocks_mem m.top).2 (.inr ⟨i,g,hg,.inr hb⟩)
theorem HMem.group (m:HMem w h gb qb Fq S K) {i:Nat} {g g':Gr} (hg:S.G i=some g) (hq:g'.q=g.q) {cs:Array Value} (hb:Blk w' (gb i) cs 59) (hcs:cs=gcells (qb i) g') (e:∀ b,b ∈ hblocks h gb Fq S→b≠gb i→w'.heap[b]?=w.heap[b]?) :
    HMem w' h gb qb Fq (S.put i (some g')) K:=by
  have hex:∀ j x,(S.put i (some g')).G j=some x→∃ g0,S.G j=some g0:=fun j x hj=>by
    by_cases hji:j=i
    · exact ⟨g,hji ▸ hg⟩
    · rw [HS.put_other S _ hji] at hj;exact ⟨x,hj⟩
  have hH:=m.neH hg
  refine ⟨?_,fun j x hj=>?_,fun j x hj=>?_,fun j hj=>?_,fun j x hj=>?_,fun j x k y hj hk=>?_,fun j x k y hj hk hne=>?_,fun j x k y hj hk hne=>?_⟩
  · have e2:hcells gb (S.put i (some g'))=hcells gb S:=by
      unfold hcells
      congr 3
      refine List.map_congr_left fun j _=>?_
      unfold gpV
      by_cases hji:j=i
      · rw [hji,HS.put_same,hg];rfl
      · rw [HS.put_other S _ hji]
    rw [e2]
    exact m.blk.of (e h ((hblocks_mem m.top).2 (.inl rfl)) (fun e=>hH e.symm))
  · by_cases hji:j=i
    · subst hji
      rw [HS.put_same] at hj
      injection hj with hj
      subst hj hcs
      exact hb
    · rw [HS.put_other S _ hji] at hj
      exact (m.grp j x hj).of (e _ ((hblocks_mem m.top).2 (.inr ⟨j,x,hj,.inl rfl⟩)) (m.apGG j x i g hj hg hji))
  · by_cases hji:j=i
    · subst hji
      rw [HS.put_same] at hj
      injection hj with hj
      subst hj
      rw [hq]
      exact (m.que j g hg).of fun b hb=>e b ((hblocks_mem m.top).2 (.inr ⟨j,g,hg,.inr hb⟩)) (fun he=>m.apG j g j g hg hg (he ▸ hb))
    · rw [HS.put_other S _ hji] at hj
      exact (m.que j x hj).of fun b hb=>e b ((hblocks_mem m.top).2 (.inr ⟨j,x,hj,.inr hb⟩)) (fun he=>m.apG i g j x hg hj (he ▸ hb))
  · by_cases hji:j=i
    · have:=m.idx hg;omega
    · rw [HS.put_other S _ hji];exact m.top j hj
  · obtain ⟨g0,h0⟩:=hex j x hj
    exact m.apH j g0 h0
  · obtain ⟨g0,h0⟩:=hex j x hj
    obtain ⟨g1,h1⟩:=hex k y hk
    exact m.apG j g0 k g1 h0 h1
  · obtain ⟨g0,h0⟩:=hex j x hj
    obtain ⟨g1,h1⟩:=hex k y hk
    exact m.apGG j g0 k g1 h0 h1 hne
  · obtain ⟨g0,h0⟩:=hex j x hj
    obtain ⟨g1,h1⟩:=hex k y hk
    exact m.apF j g0 k g1 h0 h1 hne
theorem hblocks_same (_m:HMem w h gb qb Fq S K) {i:Nat} {g g':Gr} (hg:S.G i=some g):hblocks h gb Fq (S.put i (some g'))=hblocks h gb Fq S:=by
  unfold hblocks
  congr 1
  have:(fun j=>match (S.put i (some g')).G j with | none=>[] | some _=>gb j::Fq j)=fun j=>match S.G j with | none=>[] | some _=>gb j::Fq j:=by
    funext j
    by_cases hji:j=i
    · rw [hji,HS.put_same,hg]
    · rw [HS.put_other S _ hji]
  rw [this]
theorem HAt.lt (a:HAt w h F S K):∀ b,b ∈ F→b<w.heap.size:=by
  obtain ⟨gb,qb,Fq,m,rfl⟩:=a.ex
  exact m.lt
theorem HAt.of (a:HAt w h F S K) (e:∀ b,b ∈ F→w'.heap[b]?=w.heap[b]?):HAt w' h F S K:=by
  obtain ⟨gb,qb,Fq,m,rfl⟩:=a.ex
  exact ⟨gb,qb,Fq,m.of e,rfl⟩
theorem HAt.below (a:HAt w h F S K) (k:Below w.heap.size w w'):HAt w' h F S K:=a.of fun b hb=>k.block b (a.lt b hb)
theorem HAt.mono (a:HAt w h F S K) (hK:K≤K') (h2:K'≤1000000000000000):HAt w h F S K':=by
  obtain ⟨gb,qb,Fq,m,rfl⟩:=a.ex
  exact ⟨gb,qb,Fq,m.mono hK h2,rfl⟩
theorem HTurned.trans (a:HTurned w F h S' K' w' F') (b:HTurned w' F' h S'' K'' w'' F''):HTurned w F h S'' K'' w'' F'' :=
  ⟨b.at_,a.turns.then b.turns (fun x hx hlt=>by
    rcases a.sub x hx with e | e
    · exact e
    · omega),fun x hx=>by
    rcases b.sub x hx with e | e
    · exact a.sub x e
    · exact .inr (Nat.le_trans a.turns.size e)⟩
theorem HTurned.of_below (a:HAt w h F S K) (k:Below w.heap.size w w'):HTurned w F h S K w' F:=⟨a.below k,Turns.of_below k,fun _ hb=>.inl hb⟩
end
end Go.Proofs.YtefekboacghnjaaGreat
namespace Go.Proofs.YtefekboacghnjaaGreat
open Go.RowKit Go.Maps
section
variable {w w':World} {h:Nat} {gb qb:Nat→Nat} {Fq:Nat→List Nat} {S:HS} {K:Int} {F:List Nat}
theorem HS.at_cases (S:HS) (g:Int):(S.at_ g=none)∨∃ (i:Nat) (x:Gr),g=(i:Int)∧i<32∧S.G i=some x∧S.at_ g=some x:=by
  unfold HS.at_
  by_cases hg:g<0∨32≤g
  · rw [if_pos hg];exact .inl rfl
  · rw [if_neg hg]
    cases hx:S.G g.toNat with
    | none=>exact .inl rfl
    | some x=>exact .inr ⟨g.toNat,x,by omega,by omega,hx,rfl⟩
theorem HS.at_nat (S:HS) {i:Nat} (hi:i<32):S.at_ (i:Int)=S.G i:=by
  unfold HS.at_
  rw [if_neg (by omega)]
  rfl
set_option maxRecDepth 100000 in
theorem hat_some (m:HMem w h gb qb Fq S K) {i:Nat} {g:Gr} (hg:S.G i=some g) :
    Calls Tryz.prog 40 #[.pointer (some ⟨h,0,none⟩),.int .i64 (i:Int)] w fun e w'=>e=.returned (.pointer (some ⟨gb i,0,none⟩))∧w=w':=by
  have c:=m.ptr_some hg
  have hi:=m.idx hg
  have z0:(0:Int)≤(i:Int):=by omega
  have z1:decide ((i:Int)<0)=false:=decide_eq_false (by omega)
  have z2:decide ((32:Int)≤(i:Int))=false:=decide_eq_false (by omega)
  clear m hg
  go_enter Tryz.func40,Tryz.ntmps40
  go_wp2_with fail
  go_ret
  exact ⟨rfl,rfl⟩
set_option maxRecDepth 100000 in
theorem hat_none (m:HMem w h gb qb Fq S K) {g:Int} (hg:S.at_ g=none) :
    Calls Tryz.prog 40 #[.pointer (some ⟨h,0,none⟩),.int .i64 g] w fun e w'=>e=.returned (.pointer none)∧w=w':=by
  by_cases h1:g<0
  · have z1:decide (g<0)=true:=decide_eq_true h1
    clear m hg
    go_enter Tryz.func40,Tryz.ntmps40
    go_wp2_with fail
    go_ret
    exact ⟨rfl,rfl⟩
  · have z1:decide (g<0)=false:=decide_eq_false h1
    by_cases h2:32≤g
    · have z2:decide (32≤g)=true:=decide_eq_true h2
      clear m hg
      go_enter Tryz.func40,Tryz.ntmps40
      go_wp2_with fail
      go_ret
      exact ⟨rfl,rfl⟩
    · obtain ⟨i,rfl⟩:∃ i:Nat,g=(i:Int):=⟨g.toNat,by omega⟩
      have hi:i<32:=by omega
      rw [S.at_nat hi] at hg
      have c:=m.ptr_none hi hg
      have z0:(0:Int)≤(i:Int):=by omega
      have z2:decide ((32:Int)≤(i:Int))=false:=decide_eq_false (by omega)
      clear m hg h1 h2
      go_enter Tryz.func40,Tryz.ntmps40
      go_wp2_with fail
      go_ret
      exact ⟨rfl,rfl⟩
theorem hlinked_root (p:Option Addr) (w:World):Calls Tryz.prog 51 #[.pointer p,.int .i64 0] w fun e w'=>e=.returned (.pointer none)∧w=w':=by
  go_enter Tryz.func51,Tryz.ntmps51
  go_wp2_with fail
  go_ret
  exact ⟨rfl,rfl⟩
set_option maxRecDepth 100000 in
theorem hlinked_at {p:Option Addr} {g:Int} (hg:g≠0) {v:Value} {w:World} (M:Calls Tryz.prog 40 #[.pointer p,.int .i64 g] w fun e w'=>e=.returned v∧w=w') :
    Calls Tryz.prog 51 #[.pointer p,.int .i64 g] w fun e w'=>e=.returned v∧w=w':=by
  have z:decide (g=0)=false:=decide_eq_false hg
  have M1:=Lib.hid M
  clear M
  go_enter Tryz.func51,Tryz.ntmps51
  go_wp2_with fail
  refine M1.out.mono ?_
  rintro e w' ⟨rfl,rfl⟩
  go_wp2_with fail
  go_ret
  exact ⟨rfl,rfl⟩
theorem hlinked_some (m:HMem w h gb qb Fq S K) {i:Nat} {g:Gr} (h0:i≠0) (hg:S.G i=some g) :
    Calls Tryz.prog 51 #[.pointer (some ⟨h,0,none⟩),.int .i64 (i:Int)] w fun e w'=>e=.returned (.pointer (some ⟨gb i,0,none⟩))∧w=w':=hlinked_at (by omega) (hat_some m hg)
theorem hlinked_none (m:HMem w h gb qb Fq S K) {g:Int} (hg:S.linked g=none) :
    Calls Tryz.prog 51 #[.pointer (some ⟨h,0,none⟩),.int .i64 g] w fun e w'=>e=.returned (.pointer none)∧w=w':=by
  by_cases h0:g=0
  · subst h0;exact hlinked_root _ _
  · rw [HS.linked,if_neg h0] at hg
    exact hlinked_at h0 (hat_none m hg)
theorem hid_any (i:Nat) (hi:i<32) (w:World):Calls Tryz.prog 41 #[.int .i64 (i:Int)] w fun e w'=>e=.returned (.int .i64 (2*(i:Int)+1))∧w=w':=by
  go_enter Tryz.func41,Tryz.ntmps41
  go_wp2_with fail
  go_ret
  exact ⟨rfl,rfl⟩
set_option maxRecDepth 100000 in
theorem htask_any (n:Int) (w:World):Calls Tryz.prog 42 #[.int .i64 n] w fun e w'=>e=.returned (.bool (decide (0≤n∧n<64)))∧w=w':=by
  by_cases h1:0≤n
  · have z1:decide (0≤n)=true:=decide_eq_true h1
    by_cases h2:n<64
    · have z2:decide (n<64)=true:=decide_eq_true h2
      rw [show decide (0≤n∧n<64)=true from decide_eq_true ⟨h1,h2⟩]
      go_enter Tryz.func42,Tryz.ntmps42
      go_wp2_with fail
      go_ret
      exact ⟨rfl,rfl⟩
    · have z2:decide (n<64)=false:=decide_eq_false h2
      rw [show decide (0≤n∧n<64)=false from decide_eq_false (fun h=>h2 h.2)]
      go_enter Tryz.func42,Tryz.ntmps42
      go_wp2_with fail
      go_ret
      exact ⟨rfl,rfl⟩
  · have z1:decide (0≤n)=false:=decide_eq_false h1
    rw [show decide (0≤n∧n<64)=false from decide_eq_false (fun h=>h1 h.1)]
    go_enter Tryz.func42,Tryz.ntmps42
    go_wp2_with fail
    go_ret
    exact ⟨rfl,rfl⟩
set_option maxRecDepth 100000 in
theorem hmin_some (m:HMem w h gb qb Fq S K) {i:Nat} {g:Gr} (hg:S.G i=some g) :
    Calls Tryz.prog 35 #[.pointer (some ⟨h,0,none⟩),.int .i64 (i:Int)] w fun e w'=>e=.returned (.int .i64 g.q.mn)∧w=w':=by
  have M1:=Lib.hid (hat_some m hg)
  have M2:=Lib.hid (qmin_any (m.que i g hg))
  have x2:=(m.cells hg).2.2.1
  clear m hg
  go_enter Tryz.func35,Tryz.ntmps35
  go_wp2_with fail
  refine M1.out.mono ?_
  rintro e w' ⟨rfl,rfl⟩
  go_wp2_with fail
  refine M2.out.mono ?_
  rintro e w' ⟨rfl,rfl⟩
  go_wp2_with fail
  go_ret
  exact ⟨rfl,rfl⟩
set_option maxRecDepth 100000 in
theorem hload_some (m:HMem w h gb qb Fq S K) {i:Nat} {g:Gr} (hg:S.G i=some g) :
    Calls Tryz.prog 36 #[.pointer (some ⟨h,0,none⟩),.int .i64 (i:Int)] w fun e w'=>e=.returned (.int .u64 (loadL g.q.L:Nat))∧w=w':=by
  have M1:=Lib.hid (hat_some m hg)
  have M2:=Lib.hid (qload_any (m.que i g hg))
  have x2:=(m.cells hg).2.2.1
  clear m hg
  go_enter Tryz.func36,Tryz.ntmps36
  go_wp2_with fail
  refine M1.out.mono ?_
  rintro e w' ⟨rfl,rfl⟩
  go_wp2_with fail
  refine M2.out.mono ?_
  rintro e w' ⟨rfl,rfl⟩
  go_wp2_with fail
  go_ret
  exact ⟨rfl,rfl⟩
set_option maxRecDepth 100000 in
theorem hqueue_some (m:HMem w h gb qb Fq S K) {i:Nat} {g:Gr} (hg:S.G i=some g) :
    Calls Tryz.prog 34 #[.pointer (some ⟨h,0,none⟩),.int .i64 (i:Int)] w fun r w'=>∃ v,r=.returned v∧Hid (w'.ownsRow w.heap.size 34 4 v g.q.ents.length (g.q.ents.flatMap ecl)∧Below w.heap.size w w'):=by
  have M1:=Lib.hid (hat_some m hg)
  have M2:=Lib.hid (qents_any (m.que i g hg))
  have x2:=(m.cells hg).2.2.1
  clear m hg
  go_enter Tryz.func34,Tryz.ntmps34
  go_wp2_with fail
  refine M1.out.mono ?_
  rintro e w' ⟨rfl,rfl⟩
  go_wp2_with fail
  refine M2.out.mono ?_
  rintro e w' ⟨v,rfl,hO⟩
  go_wp2_with fail
  go_ret
  exact ⟨v,rfl,hO⟩
set_option maxRecDepth 100000 in
theorem hon_some (m:HMem w h gb qb Fq S K) {i:Nat} {g:Gr} (h0:i≠0) (hg:S.G i=some g) :
    Calls Tryz.prog 13 #[.pointer (some ⟨h,0,none⟩),.int .i64 (i:Int)] w fun e w'=>e=.returned (.bool g.on)∧w=w':=by
  have M1:=Lib.hid (hlinked_some m h0 hg)
  have x2:=(m.cells hg).2.2.2.2.2.2.2.1
  clear m hg
  go_enter Tryz.func13,Tryz.ntmps13
  go_wp2_with fail
  refine M1.out.mono ?_
  rintro e w' ⟨rfl,rfl⟩
  go_wp2_with fail
  go_ret
  exact ⟨rfl,rfl⟩
set_option maxRecDepth 100000 in
theorem hstopped_some (m:HMem w h gb qb Fq S K) {i:Nat} {g:Gr} (h0:i≠0) (hg:S.G i=some g) :
    Calls Tryz.prog 32 #[.pointer (some ⟨h,0,none⟩),.int .i64 (i:Int)] w fun e w'=>e=.returned (.bool g.stopped)∧w=w':=by
  have M1:=Lib.hid (hlinked_some m h0 hg)
  have x2:=(m.cells hg).2.2.2.2.2.2.2.2.1
  clear m hg
  go_enter Tryz.func32,Tryz.ntmps32
  go_wp2_with fail
  refine M1.out.mono ?_
  rintro e w' ⟨rfl,rfl⟩
  go_wp2_with fail
  go_ret
  exact ⟨rfl,rfl⟩
end
end Go.Proofs.YtefekboacghnjaaGreat
