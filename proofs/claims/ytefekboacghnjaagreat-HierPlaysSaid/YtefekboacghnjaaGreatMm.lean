/-
  A range over a function whose iterator turns memory.
  hier.way's iterator.
  hier.Hier on the way: what lies beside it; what a rule chooses, and where the way ends.
  hier.end: the task at the end of a way.
  hier.end, Running, Pick.
  hier.Hier: Running, Pick.
  hier.Hier: Charge.
  hier.Hier: Charge where nobody runs; Yield.
-/
import Derived.Test.YtefekboacghnjaaGreatMk
import Derived.RangeFuncKeeps
import Derived.RangeFuncLeaves
import Derived.Shelf.Abstract
import Derived.OwnWalkIn
import Derived.TacticsInMore
import Derived.LoopNIn
import Derived.LoopIn
import Derived.Deep.LoopGhost
import Derived.RangeFuncCalls
import Derived.Shelf.RegionOpen
namespace Go.Proofs.YtefekboacghnjaaGreat
open Go.RowKit Go.Maps
attribute [local go_sem] Oper.semAt_some
def loopRec (fn:FuncId) (tmps:Array Value) (ps:Array Tmp) (assign body:Code) (D:Nat):Loop:={ state:=.ready,pending:=none,fn:=fn,tmps:=tmps,params:=ps,assign:=assign,body:=body,defers:=D }
section
variable {F:Fence} {n:Nat} {P:Program}
theorem range_law {g:Operand} {ps:Array Tmp} {assign body:Code} {Q:Exit→Act→World→Prop} {a:Act} {w:World} (hro:F.round=none) (h1:1≤n) {gf:Nat} {lb:Array Value} (hg:a.eval g=.func (.func gf) #[] lb) (hFg:F.fn gf)
  (eg:∀ args w,(callFunc gf args).run P w=.ok (.enter gf args) w) (E:World→Prop)
  (hcall:∀ fn W1,F.fn fn→W1=(w.alloc (.deferred (some []))).alloc (.loop (loopRec fn a.tmps ps assign body w.heap.size)) →
   CallsIn F (n - 1) P gf (#[.func (.yield (w.heap.size+1)) #[] #[]]++lb) W1 fun e W2=>(∃ v,e=.returned v)∧W2.heap[w.heap.size+1]?=some (.loop (loopRec fn a.tmps ps assign body w.heap.size))∧E W2)
  (hdone:∀ fn W2,W2.heap[w.heap.size+1]?=some (.loop (loopRec fn a.tmps ps assign body w.heap.size))→E W2 →
   Q .normal { a with defers:={ target:=.collected w.heap.size,args:=#[] } :: a.defers } (W2.putObj (w.heap.size+1) (.loop { loopRec fn a.tmps ps assign body w.heap.size with state:=.exhausted }))) :
  (Code.rangeFunc g ps assign body).wpIn F n P Q a w:=by
 apply wpIn_rangeFunc
 intro fn hfn
 rw [hro]
 have he:=run_enterLoop_outer (P:=P) (w:=w) fn a.tmps ps assign body
 have hc:=hcall fn _ hfn rfl
 have hd:=hdone fn
 unfold loopRec at hc hd
 clear hcall hdone
 generalize hW1:(w.alloc (.deferred (some []))).alloc (.loop { state:=.ready,pending:=none,fn:=fn,tmps:=a.tmps,params:=ps,assign:=assign,body:=body,defers:=w.heap.size })=W1 at *
 clear hW1
 refine ⟨w.heap.size+1,[{ target:=.collected w.heap.size,args:=#[] }],W1,{ target:=.fn (.func gf) lb,args:=#[.func (.yield (w.heap.size+1)) #[] #[]] },W1,gf,#[.func (.yield (w.heap.size+1)) #[] #[]]++lb,W1,he,?_,?_,?_,fun _=>h1,?_⟩
 ·
  simp only [resolve,hg]
  simp [go_sem]
 ·
  intro f' hf'
  simp [Target.leads] at hf'
  subst hf'
  exact hFg
 · simp [invoke,go_sem,eg]
 ·
  refine hc.mono ?_
  rintro e W2 ⟨⟨v,rfl⟩,hl,hE⟩
  have hr:=run_endLoop (P:=P) hl (by simp)
  exact ⟨none,_,hr,hd W2 hl hE⟩
def AtEndW (R:World→Prop):Exit→Act→World→Prop
 | .normal,_,v=>R v
 | _,_,_=>False
theorem yield_round {l:Nat} {args:Array Value} {W:World} {fn:FuncId} {tmps:Array Value} {ps:Array Tmp} {assign body:Code} {D:Nat} {R:World→Prop} (a₁:Act) (hl:W.heap[l]?=some (.loop (loopRec fn tmps ps assign body D))) (hF:F.fn fn) (hps:args.size=ps.size)
  (hassign:∀ K:Act→World→Prop,K a₁ W→assign.wpIn (F.inRound l) n P (Exit.then K (fun _ _ _=>False)) { tmps:=(ps.zip args).foldl (fun t (p,v)=>t.setIfInBounds p v) tmps,defers:=[] } W)
  (hbody:body.wpIn (F.inRound l) n P (AtEndW fun W3=>W3.heap[l]?=some (.loop { loopRec fn tmps ps assign body D with state:=.busy })∧R (W3.putObj l (.loop (loopRec fn tmps ps assign body D)))) a₁ (W.putObj l (.loop { loopRec fn tmps ps assign body D with state:=.busy }))) :
  YieldAt F n P l args W fun e W'=>e=.returned (.bool true)∧R W':=by
 have hy:=run_yield (P:=P) (args:=args) hl hps
 refine ⟨fn,_,assign,body,hy,roundIn_of_wpIn hF (hassign _ ⟨_,run_beginRound hl rfl,?_⟩)⟩
 refine wpIn_mono hbody fun e a3 W3 hp=>?_
 cases e with
 | normal =>
  obtain ⟨h3,hR⟩:=hp
  exact ⟨_,_,run_endRound (P:=P) none h3,rfl,hR⟩
 | _=>exact (hp:False).elim
end
end Go.Proofs.YtefekboacghnjaaGreat
namespace Go.Proofs.YtefekboacghnjaaGreat
open Go.RowKit Go.Maps
attribute [local go_sem] Oper.semAt_some
structure WayStep {σ:Type} (F:Fence) (n l h bh br:Nat) (rv:Value) (rf:FuncId) (rc:Array Value) (J:σ→Nat→World→Prop) (E:σ→World→Prop) (μ:σ→Nat) (s:σ) (g:Nat) (W:World):Prop where
 g32:g<32
 hh:W.cell? ⟨bh,0,none⟩=some (.pointer (some ⟨h,0,none⟩))
 hr:W.cell? ⟨br,0,none⟩=some rv
 step:∃ gb qb,W.cell? ⟨h,2+g,none⟩=some (.pointer (some ⟨gb,0,none⟩))∧W.cell? ⟨gb,2,none⟩=some (.pointer (some ⟨qb,0,none⟩)) ∧
  ∃ m:Int,-1≤m∧m≤1000∧CallsIn F (n - 1) Tryz.prog rf (#[.pointer (some ⟨qb,0,none⟩)]++rc) W fun e W1=>e=.returned (.int .i64 m) ∧
   YieldAt F (n - 1) Tryz.prog l #[.pointer (some ⟨qb,0,none⟩),.int .i64 m] W1 fun e W2=>e=.returned (.bool true) ∧
    (if m<0∨m % 2=0 then ∃ s',E s' W2 else ∃ s',J s' (m / 2).toNat W2∧μ s'<μ s)
set_option maxRecDepth 100000 in
set_option maxHeartbeats 4000000 in
theorem way1_cur {σ:Type} (F:Fence) (n:Nat) (h114:F.fn 84) (hrf:F.fn 49) (hro:F.round=none) (hn:1≤n) (l h bh br:Nat) (J:σ→Nat→World→Prop) (E:σ→World→Prop) (μ:σ→Nat)
  (hJ:∀ s g W,J s g W→WayStep F n l h bh br (.func (.func 49) #[] #[]) 49 #[] J E μ s g W) (s:σ) (W:World) (h0:J s 0 W) :
  CallsIn F n Tryz.prog 84 #[.func (.yield l) #[] #[],.pointer (some ⟨bh,0,none⟩),.pointer (some ⟨br,0,none⟩)] W fun e W'=>(∃ v,e=.returned v)∧∃ s',E s' W':=by
 refine callsIn_of_wp Tryz.func84 rfl h114 ?_ hro
 simp only [Tryz.ntmps84,List.size_toArray,List.length_cons,List.length_nil,Nat.reduceAdd,Nat.reduceSub,Array.replicate_succ,Array.replicate_zero,List.push_toArray,List.append_toArray,List.nil_append,List.cons_append]
 gi_wp2
 gi_loopw [4] (fun g wr=>∃ k:Nat,∃ gn:Nat,∃ s:σ,g=.int .i64 (gn:Int)∧k=μ s∧J s gn wr) (fun g wr=>leastOf fun k=>∃ gn:Nat,∃ s:σ,g=.int .i64 (gn:Int)∧k=μ s∧J s gn wr)
 case atStart=>exact ⟨_,0,s,rfl,rfl,h0⟩
 case round =>
  obtain ⟨gn,s1,rfl,hk,hJ1⟩:=(leastOf_spec hrel).1
  clear hrel
  obtain ⟨g32,hh,hr,gb,qb,c1,c2,m,m1,m2,hcall⟩:=hJ s1 gn wr hJ1
  have z0:(0:Int)≤(gn:Int):=Int.natCast_nonneg _
  have z1:(gn:Int)<32:=by omega
  have HC:=Lib.hid hcall
  have HK:=Lib.hid hk
  clear hcall hk hJ1
  gi_wp2
  refine HC.out.mono ?_
  rintro e W1 ⟨rfl,fn,tmps,assign,body,hy,hR⟩
  clear hh hr c1 c2 HC
  have HR:=Lib.hid hR
  clear hR
  gi_wp2
  have hlt:∀ k (gn':Nat) (s':σ) (W2:World),k=μ s'→J s' gn' W2→μ s'<μ s1→(leastOf fun k=>∃ gn:Nat,∃ s:σ,Value.int .i64 ((gn':Nat):Int)=.int .i64 (gn:Int)∧k=μ s∧J s gn W2)<μ s1:=fun k gn' s' W2 hk hJ' hl =>
   Nat.lt_of_le_of_lt ((leastOf_spec (p:=fun k=>∃ gn:Nat,∃ s:σ,Value.int .i64 ((gn':Nat):Int)=.int .i64 (gn:Int)∧k=μ s∧J s gn W2) ⟨_,gn',s',rfl,rfl,hJ'⟩).2 _ ⟨gn',s',rfl,rfl,hJ'⟩) hl
  have HLT:=Lib.hid hlt
  clear hlt
  refine HR.out.mono ?_
  rintro e W2 ⟨rfl,hE⟩
  have HE:=Lib.hid hE
  clear hE HR hy
  by_cases q1:m<0
  ·
   have y1:decide (m<0)=true:=decide_eq_true q1
   have hE:=HE.out
   rw [if_pos (.inl q1)] at hE
   have HE:=Lib.hid hE
   clear hE q1 m1 m2
   gi_wp2
   refine bodyPost_ret (results_none rfl _ _ _) rfl ?_
   exact ⟨⟨_,rfl⟩,HE.out⟩
  ·
   have y1:decide (m<0)=false:=decide_eq_false q1
   obtain ⟨k,rfl⟩:∃ k:Nat,m=(k:Int):=⟨m.toNat,by omega⟩
   by_cases q2:k % 2=0
   ·
    have y2:((k:Int) % 2 == 0)=true:=by simpa using (by omega:(k:Int) % 2=0)
    have y3:decide ((k:Int) % 2=0)=true:=decide_eq_true (by omega)
    have y4:(k:Int) % 2=0:=by omega
    have hE:=HE.out
    rw [if_pos (.inr (by omega))] at hE
    have HE:=Lib.hid hE
    clear hE q1
    gi_wp2
    refine bodyPost_ret (results_none rfl _ _ _) rfl ?_
    exact ⟨⟨_,rfl⟩,HE.out⟩
   ·
    have y4:(k:Int) % 2=1:=by omega
    have y5:(k:Int) / 2=((k / 2:Nat):Int):=by omega
    have hE:=HE.out
    rw [if_neg (by omega)] at hE
    have e6:((k:Int) / 2).toNat=k / 2:=by omega
    rw [e6] at hE
    obtain ⟨s',hJ',hl'⟩:=hE
    have HE:=Lib.hid (And.intro hJ' hl')
    generalize k / 2=kk at *
    clear hJ' hl' q1 q2 e6
    gi_wp2
    go_roundw
    case rel=>exact ⟨_,kk,s',rfl,rfl,HE.out.1⟩
    case measure =>
     have t1:=HLT.out _ kk s' W2 rfl HE.out.1 HE.out.2
     have t2:=HK.out
     rw [← t2] at t1
     exact t1
set_option maxRecDepth 100000 in
set_option maxHeartbeats 4000000 in
theorem way1_pick {σ:Type} (F:Fence) (n:Nat) (h114:F.fn 84) (hrf:F.fn 47) (hro:F.round=none) (hn:1≤n) (l h bh br bx:Nat) (J:σ→Nat→World→Prop) (E:σ→World→Prop) (μ:σ→Nat)
  (hJ:∀ s g W,J s g W→WayStep F n l h bh br (.func (.func 47) #[] #[.pointer (some ⟨bx,0,none⟩)]) 47 #[.pointer (some ⟨bx,0,none⟩)] J E μ s g W) (s:σ) (W:World) (h0:J s 0 W) :
  CallsIn F n Tryz.prog 84 #[.func (.yield l) #[] #[],.pointer (some ⟨bh,0,none⟩),.pointer (some ⟨br,0,none⟩)] W fun e W'=>(∃ v,e=.returned v)∧∃ s',E s' W':=by
 refine callsIn_of_wp Tryz.func84 rfl h114 ?_ hro
 simp only [Tryz.ntmps84,List.size_toArray,List.length_cons,List.length_nil,Nat.reduceAdd,Nat.reduceSub,Array.replicate_succ,Array.replicate_zero,List.push_toArray,List.append_toArray,List.nil_append,List.cons_append]
 gi_wp2
 gi_loopw [4] (fun g wr=>∃ k:Nat,∃ gn:Nat,∃ s:σ,g=.int .i64 (gn:Int)∧k=μ s∧J s gn wr) (fun g wr=>leastOf fun k=>∃ gn:Nat,∃ s:σ,g=.int .i64 (gn:Int)∧k=μ s∧J s gn wr)
 case atStart=>exact ⟨_,0,s,rfl,rfl,h0⟩
 case round =>
  obtain ⟨gn,s1,rfl,hk,hJ1⟩:=(leastOf_spec hrel).1
  clear hrel
  obtain ⟨g32,hh,hr,gb,qb,c1,c2,m,m1,m2,hcall⟩:=hJ s1 gn wr hJ1
  have z0:(0:Int)≤(gn:Int):=Int.natCast_nonneg _
  have z1:(gn:Int)<32:=by omega
  have HC:=Lib.hid hcall
  have HK:=Lib.hid hk
  clear hcall hk hJ1
  gi_wp2
  refine HC.out.mono ?_
  rintro e W1 ⟨rfl,fn,tmps,assign,body,hy,hR⟩
  clear hh hr c1 c2 HC
  have HR:=Lib.hid hR
  clear hR
  gi_wp2
  have hlt:∀ k (gn':Nat) (s':σ) (W2:World),k=μ s'→J s' gn' W2→μ s'<μ s1→(leastOf fun k=>∃ gn:Nat,∃ s:σ,Value.int .i64 ((gn':Nat):Int)=.int .i64 (gn:Int)∧k=μ s∧J s gn W2)<μ s1:=fun k gn' s' W2 hk hJ' hl =>
   Nat.lt_of_le_of_lt ((leastOf_spec (p:=fun k=>∃ gn:Nat,∃ s:σ,Value.int .i64 ((gn':Nat):Int)=.int .i64 (gn:Int)∧k=μ s∧J s gn W2) ⟨_,gn',s',rfl,rfl,hJ'⟩).2 _ ⟨gn',s',rfl,rfl,hJ'⟩) hl
  have HLT:=Lib.hid hlt
  clear hlt
  refine HR.out.mono ?_
  rintro e W2 ⟨rfl,hE⟩
  have HE:=Lib.hid hE
  clear hE HR hy
  by_cases q1:m<0
  ·
   have y1:decide (m<0)=true:=decide_eq_true q1
   have hE:=HE.out
   rw [if_pos (.inl q1)] at hE
   have HE:=Lib.hid hE
   clear hE q1 m1 m2
   gi_wp2
   refine bodyPost_ret (results_none rfl _ _ _) rfl ?_
   exact ⟨⟨_,rfl⟩,HE.out⟩
  ·
   have y1:decide (m<0)=false:=decide_eq_false q1
   obtain ⟨k,rfl⟩:∃ k:Nat,m=(k:Int):=⟨m.toNat,by omega⟩
   by_cases q2:k % 2=0
   ·
    have y2:((k:Int) % 2 == 0)=true:=by simpa using (by omega:(k:Int) % 2=0)
    have y3:decide ((k:Int) % 2=0)=true:=decide_eq_true (by omega)
    have y4:(k:Int) % 2=0:=by omega
    have hE:=HE.out
    rw [if_pos (.inr (by omega))] at hE
    have HE:=Lib.hid hE
    clear hE q1
    gi_wp2
    refine bodyPost_ret (results_none rfl _ _ _) rfl ?_
    exact ⟨⟨_,rfl⟩,HE.out⟩
   ·
    have y4:(k:Int) % 2=1:=by omega
    have y5:(k:Int) / 2=((k / 2:Nat):Int):=by omega
    have hE:=HE.out
    rw [if_neg (by omega)] at hE
    have e6:((k:Int) / 2).toNat=k / 2:=by omega
    rw [e6] at hE
    obtain ⟨s',hJ',hl'⟩:=hE
    have HE:=Lib.hid (And.intro hJ' hl')
    generalize k / 2=kk at *
    clear hJ' hl' q1 q2 e6
    gi_wp2
    go_roundw
    case rel=>exact ⟨_,kk,s',rfl,rfl,HE.out.1⟩
    case measure =>
     have t1:=HLT.out _ kk s' W2 rfl HE.out.1 HE.out.2
     have t2:=HK.out
     rw [← t2] at t1
     exact t1
end Go.Proofs.YtefekboacghnjaaGreat
namespace Go.Proofs.YtefekboacghnjaaGreat
open Go.RowKit Go.Maps
structure WRel (w0:World) (F0:List Nat) (h:Nat) (gb qb:Nat→Nat) (S:HS) (K:Int) (ks:List (Nat × Obj)) (W:World):Prop where
 ex:∃ Fq,HMem W h gb qb Fq S K∧Turns F0 w0 W∧(∀ b,b ∈ hblocks h gb Fq S→b ∈ F0∨w0.heap.size≤b)∧∀ z,z ∈ ks→z.1 ∉ hblocks h gb Fq S∧w0.heap.size≤z.1∧W.heap[z.1]?=some z.2
theorem Turns.putObj {S:List Nat} {a b:World} (h:Turns S a b) {l:Nat} (hl:l ∈ S∨a.heap.size≤l) (o:Obj):Turns S a (b.putObj l o) :=
 ⟨h.os,h.tape,h.output,by simpa using h.size,fun i hi hn=>(World.putObj_heap_other (fun e=>by subst e;rcases hl with hl | hl;exact hn hl;omega)).trans (h.block i hi hn)⟩
section
variable {w0 W W':World} {F0:List Nat} {h:Nat} {gb qb:Nat→Nat} {S:HS} {K:Int} {ks ks':List (Nat × Obj)}
theorem WRel.kept (r:WRel w0 F0 h gb qb S K ks W) {b:Nat} {o:Obj} (hz:(b,o) ∈ ks):W.heap[b]?=some o:=by
 obtain ⟨Fq,_,_,_,hk⟩:=r.ex
 exact (hk _ hz).2.2
theorem WRel.turned (r:WRel w0 F0 h gb qb S K ks W):∃ F,HTurned w0 F0 h S K W F:=by
 obtain ⟨Fq,m,hT,hs,_⟩:=r.ex
 exact ⟨_,⟨gb,qb,Fq,m,rfl⟩,hT,hs⟩
theorem WRel.new {w:World} {F0:List Nat} (a:HAt w h F0 S K):∃ gb qb,WRel w F0 h gb qb S K [] w:=by
 obtain ⟨gb,qb,Fq,m,rfl⟩:=a.ex
 exact ⟨gb,qb,Fq,m,Turns.refl _ _,fun b hb=>.inl hb,fun z hz=>by simp at hz⟩
theorem WRel.move (r:WRel w0 F0 h gb qb S K ks W) (t:Turns (ks.map Prod.fst) W W') (k:∀ z,z ∈ ks'→(∃ z0,z0 ∈ ks∧z0.1=z.1)∧W'.heap[z.1]?=some z.2):WRel w0 F0 h gb qb S K ks' W':=by
 obtain ⟨Fq,m,hT,hs,hk⟩:=r.ex
 refine ⟨Fq,m.of (fun b hb=>t.block b (m.lt b hb) fun hm=>?_),hT.then t fun x hx hlt=>?_,hs,fun z hz=>?_⟩
 ·
  obtain ⟨z,hz,rfl⟩:=List.mem_map.1 hm
  exact (hk z hz).1 hb
 ·
  obtain ⟨z,hz,rfl⟩:=List.mem_map.1 hx
  have:=(hk z hz).2.1
  omega
 ·
  obtain ⟨⟨z0,h0,e0⟩,h1⟩:=k z hz
  have:=hk z0 h0
  exact ⟨e0 ▸ this.1,e0 ▸ this.2.1,h1⟩
theorem WRel.less (r:WRel w0 F0 h gb qb S K ks W) (k:∀ z,z ∈ ks'→z ∈ ks):WRel w0 F0 h gb qb S K ks' W:=by
 obtain ⟨Fq,m,hT,hs,hk⟩:=r.ex
 exact ⟨Fq,m,hT,hs,fun z hz=>hk z (k z hz)⟩
theorem WRel.alloc (r:WRel w0 F0 h gb qb S K ks W) (o:Obj):WRel w0 F0 h gb qb S K ((W.heap.size,o)::ks) (W.alloc o):=by
 obtain ⟨Fq,m,hT,hs,hk⟩:=r.ex
 have hB:Below W.heap.size W (W.alloc o):=(Below.refl _ _).alloc (Nat.le_refl _) _
 refine ⟨Fq,m.below hB,hT.alloc o,hs,fun z hz=>?_⟩
 rcases List.mem_cons.1 hz with rfl | hz
 · exact ⟨fun hb=>by have:=m.lt _ hb;omega,hT.size,World.alloc_heap_new W o⟩
 ·
  obtain ⟨h1,h2,h3⟩:=hk z hz
  exact ⟨h1,h2,(Below.heap_alloc W o z.1 (Array.getElem?_eq_some_iff.1 h3).1).trans h3⟩
theorem WRel.below (r:WRel w0 F0 h gb qb S K ks W) (hB:Below W.heap.size W W'):WRel w0 F0 h gb qb S K ks W':=by
 obtain ⟨Fq,m,hT,hs,hk⟩:=r.ex
 refine ⟨Fq,m.below hB,hT.below hB hT.size,hs,fun z hz=>?_⟩
 obtain ⟨h1,h2,h3⟩:=hk z hz
 exact ⟨h1,h2,(hB.block z.1 (Array.getElem?_eq_some_iff.1 h3).1).trans h3⟩
theorem WRel.putObj (r:WRel w0 F0 h gb qb S K ks W) {l:Nat} {o0:Obj} (hl:(l,o0) ∈ ks) (o:Obj) (hd:∀ z,z ∈ ks'→z=(l,o)∨(z ∈ ks∧z.1≠l)):WRel w0 F0 h gb qb S K ks' (W.putObj l o):=by
 have hm:l ∈ ks.map Prod.fst:=List.mem_map.2 ⟨_,hl,rfl⟩
 have hlt:=(Array.getElem?_eq_some_iff.1 (r.kept hl)).1
 refine r.move ((Turns.refl _ _).putObj (.inl hm) o) fun z hz=>?_
 rcases hd z hz with rfl | ⟨h1,h2⟩
 · exact ⟨⟨_,hl,rfl⟩,World.putObj_heap_same hlt⟩
 · exact ⟨⟨z,h1,rfl⟩,(World.putObj_heap_other h2).trans (r.kept h1)⟩
theorem WRel.setBox (r:WRel w0 F0 h gb qb S K ks W) {l:Nat} {v0:Value} {t:TypeId} (hl:(l,.cells #[v0] t (0,0)) ∈ ks) (v:Value) (hd:∀ z,z ∈ ks'→z=(l,.cells #[v] t (0,0))∨(z ∈ ks∧z.1≠l)):WRel w0 F0 h gb qb S K ks' (W.setCell ⟨l,0,none⟩ v):=by
 have hm:l ∈ ks.map Prod.fst:=List.mem_map.2 ⟨_,hl,rfl⟩
 have hb:Blk W l #[v0] t:=r.kept hl
 refine r.move ((Turns.refl _ _).setCell (p:=⟨l,0,none⟩) (.inl hm) v) fun z hz=>?_
 rcases hd z hz with rfl | ⟨h1,h2⟩
 · exact ⟨⟨_,hl,rfl⟩,Blk.set hb 0 v⟩
 · exact ⟨⟨z,h1,rfl⟩,(Below.heap_setCell W ⟨l,0,none⟩ v z.1 h2).trans (r.kept h1)⟩
theorem WRel.at_ (r:WRel w0 F0 h gb qb S K ks W) {g:Nat} {x:Gr} (hg:S.G g=some x) :
  g<32∧W.cell? ⟨h,2+g,none⟩=some (.pointer (some ⟨gb g,0,none⟩))∧W.cell? ⟨gb g,2,none⟩=some (.pointer (some ⟨qb g,0,none⟩))∧(W.cell? ⟨h,0,none⟩=some (.int .i64 S.credit)∧W.cell? ⟨h,1,none⟩=some (.int .i64 S.gran))∧∃ Fi,QAt W (qb g) Fi x.q K ∧
   ∀ W' X K' F',QTurned W Fi (qb g) X K' W' F'→K≤K'→K'≤1000000000000000→WRel w0 F0 h gb qb (S.put g (some { x with q:=X })) K' ks W':=by
 obtain ⟨Fq,m,hT,hs,hk⟩:=r.ex
 have c:=m.gcells hg
 refine ⟨m.idx hg,c.p,c.x2,m.cred,Fq g,m.que g x hg,fun W' X K' F' hQ h1 h2=>?_⟩
 have ht:=m.queue_turns hg hQ.turns
 refine ⟨_,m.queue hg hQ h1 h2,hT.then ht (fun b hb hlt=>?_),fun b hb=>?_,fun z hz=>?_⟩
 ·
  rcases hs b hb with hb | hb
  · exact hb
  · omega
 ·
  rcases m.queue_sub hg hQ b hb with hb | hb
  · exact hs b hb
  · exact .inr (Nat.le_trans hT.size hb)
 ·
  obtain ⟨k1,k2,k3⟩:=hk z hz
  have hlt:=(Array.getElem?_eq_some_iff.1 k3).1
  refine ⟨fun hb=>?_,k2,(ht.block z.1 hlt k1).trans k3⟩
  rcases m.queue_sub hg hQ _ hb with hb | hb
  · exact k1 hb
  · omega
theorem WRel.mono (r:WRel w0 F0 h gb qb S K ks W) {K':Int} (hK:K≤K') (h2:K'≤1000000000000000):WRel w0 F0 h gb qb S K' ks W:=by
 obtain ⟨Fq,m,hT,hs,hk⟩:=r.ex
 exact ⟨Fq,m.mono hK h2,hT,hs,hk⟩
end
set_option maxRecDepth 100000 in
theorem pick1_any (W:World) (bx h qb:Nat) (gran:Int) (g1:-9223372036854775808≤gran) (g2:gran≤9223372036854775807) (hx:W.cell? ⟨bx,0,none⟩=some (.pointer (some ⟨h,0,none⟩))) (hg:W.cell? ⟨h,1,none⟩=some (.int .i64 gran)) {Fq:List Nat} {X:QS} {K:Int} (hq:QAt W qb Fq X K) :
  Calls Tryz.prog 47 #[.pointer (some ⟨qb,0,none⟩),.pointer (some ⟨bx,0,none⟩)] W fun e w'=>e=.returned (.int .i64 (X.pickI gran))∧Hid (∃ F',QTurned W Fq qb (pickQ X gran) K w' F'):=by
 have M:=Lib.hid (qpick_any hq gran g1 g2)
 clear hq g1 g2
 go_enter Tryz.func47,Tryz.ntmps47
 go_wp2_with fail
 refine M.out.mono ?_
 rintro e w' ⟨rfl,hT⟩
 go_wp2_with fail
 go_ret
 exact ⟨rfl,_,hT.out⟩
theorem way_any (W:World) (h:Nat) (rf:Fn) (ra rc:Array Value):Calls Tryz.prog 46 #[.pointer (some ⟨h,0,none⟩),.func rf ra rc] W fun e w'=>e=.returned (.func (.func 84) #[] #[.pointer (some ⟨W.heap.size,0,none⟩),.pointer (some ⟨W.heap.size+1,0,none⟩)])∧w'=(W.alloc (.cells #[.pointer (some ⟨h,0,none⟩)] 25)).alloc (.cells #[.func rf ra rc] 92):=by
 go_enter Tryz.func46,Tryz.ntmps46
 go_wp2_with fail
 go_ret
 exact ⟨rfl,rfl⟩
def wayF (nx:HS→Nat→HS × Int):Nat→HS→Nat→HS × Int
 | 0,S,_=>(S,-1)
 | n+1,S,g=>if (nx S g).2<0∨(nx S g).2 % 2=0 then nx S g else wayF nx n (nx S g).1 ((nx S g).2 / 2).toNat
def wayOk (nx:HS→Nat→HS × Int):Nat→HS→Nat→Prop
 | 0,_,_=>False
 | n+1,S,g=>(∃ x,S.G g=some x) ∧ -1≤(nx S g).2∧(nx S g).2≤1000∧(((nx S g).2<0∨(nx S g).2 % 2=0)∨wayOk nx n (nx S g).1 ((nx S g).2 / 2).toNat)
def curN (S:HS) (g:Nat):HS × Int:=(S,match S.G g with | none=>-1 | some x=>x.q.cur)
def pickN (S:HS) (g:Nat):HS × Int:=match S.G g with
 | none=>(S,-1)
 | some x=>(S.put g (some { x with q:=pickQ x.q S.gran }),x.q.pickI S.gran)
def endI (m:Int):Int:=if m<0 then -1 else m / 2
end Go.Proofs.YtefekboacghnjaaGreat
namespace Go.Proofs.YtefekboacghnjaaGreat
open Go.RowKit Go.Maps
attribute [local go_sem] Oper.semAt_some
def IsWay (h bh br:Nat) (rv:Value) (rf:FuncId) (rc:Array Value):Prop :=
 ∀ (l:Nat) (J:Nat × HS→Nat→World→Prop) (E:Nat × HS→World→Prop) (μ:Nat × HS→Nat),(∀ s g W,J s g W→WayStep Fence.wide 1 l h bh br rv rf rc J E μ s g W)→∀ (s:Nat × HS) (W:World),J s 0 W →
  CallsIn Fence.wide 1 Tryz.prog 84 #[.func (.yield l) #[] #[],.pointer (some ⟨bh,0,none⟩),.pointer (some ⟨br,0,none⟩)] W fun e W'=>(∃ v,e=.returned v)∧∃ s',E s' W'
theorem isWay_cur (h bh br:Nat):IsWay h bh br (.func (.func 49) #[] #[]) 49 #[]:=fun l J E μ hJ s W h0 =>
 way1_cur Fence.wide 1 trivial trivial rfl (Nat.le_refl _) l h bh br J E μ hJ s W h0
theorem isWay_pick (h bh br bx:Nat):IsWay h bh br (.func (.func 47) #[] #[.pointer (some ⟨bx,0,none⟩)]) 47 #[.pointer (some ⟨bx,0,none⟩)]:=fun l J E μ hJ s W h0 =>
 way1_pick Fence.wide 1 trivial trivial rfl (Nat.le_refl _) l h bh br bx J E μ hJ s W h0
structure IsRule (w0:World) (F0:List Nat) (h:Nat) (gb qb:Nat→Nat) (S:HS) (ks:List (Nat × Obj)) (rf:FuncId) (rc:Array Value) (nx:HS→Nat→HS × Int):Prop where
 step:∀ S1 K1 ks1 W1 g x,WRel w0 F0 h gb qb S1 K1 ks1 W1→(∀ z,z ∈ ks→z ∈ ks1)→S1.gran=S.gran→S1.G g=some x →
  Calls Tryz.prog rf (#[.pointer (some ⟨qb g,0,none⟩)]++rc) W1 fun e W2=>e=.returned (.int .i64 (nx S1 g).2)∧WRel w0 F0 h gb qb (nx S1 g).1 K1 ks1 W2
theorem box_cells {W:World} {B:Nat} {v:Value} {t:TypeId} (h:W.heap[B]?=some (.cells #[v] t (0,0))):W.cell? ⟨B,0,none⟩=some v∧∀ j,W.frozen? ⟨B,j,none⟩=false:=by
 have hb:Blk W B #[v] t:=h
 exact ⟨Blk.cell hb 0,Blk.frozen hb⟩
theorem way_loop {β:Type} {w0:World} {F0:List Nat} {h:Nat} {gb qb:Nat→Nat} {S:HS} {ks:List (Nat × Obj)} {rf:FuncId} {rc:Array Value} {nx:HS→Nat→HS × Int} {bh br:Nat} {rv:Value}
  (hbh:(bh,.cells #[.pointer (some ⟨h,0,none⟩)] 25 (0,0)) ∈ ks) (hbr:(br,.cells #[rv] 92 (0,0)) ∈ ks) (hR:IsRule w0 F0 h gb qb S ks rf rc nx) (hw:IsWay h bh br rv rf rc)
  (I:Nat→HS→Int→β→Nat→Prop) (Fin:HS→Int→β→Prop) (kB:β→List (Nat × Obj)) (hkB:∀ v z,z ∈ ks→z ∈ kB v)
  (hI:∀ k S1 K1 v g,I k S1 K1 v g→S1.gran=S.gran∧(∃ x,S1.G g=some x) ∧ -1≤(nx S1 g).2∧(nx S1 g).2≤1000)
  {g:Operand} {ps:Array Tmp} {assign body:Code} {Q:Exit→Act→World→Prop} {a:Act} {w:World} (a₁:Nat→Int→Act)
  (hg:a.eval g=.func (.func 84) #[] #[.pointer (some ⟨bh,0,none⟩),.pointer (some ⟨br,0,none⟩)]) (hps:ps.size=2)
  (k0:Nat) (S0:HS) (K0:Int) (v0:β) (hI0:I k0 S0 K0 v0 0) (hW:WRel w0 F0 h gb qb S0 K0 (kB v0) w)
  (hassign:∀ (l g:Nat) (m:Int) (W:World) (K:Act→World→Prop),K (a₁ g m) W→assign.wpIn (Fence.wide.inRound l) 0 Tryz.prog (Exit.then K (fun _ _ _=>False)) { tmps:=(ps.zip #[.pointer (some ⟨qb g,0,none⟩),.int .i64 m]).foldl (fun t (p,v)=>t.setIfInBounds p v) a.tmps,defers:=[] } W)
  (hbody:∀ (l g k:Nat) (S1:HS) (K1:Int) (v:β) (bs:List (Nat × Obj)) (W:World),I k S1 K1 v g→WRel w0 F0 h gb qb (nx S1 g).1 K1 (bs++kB v) W→(∀ z,z ∈ bs→w.heap.size≤z.1)→(∀ z,z ∈ kB v→z.1<w.heap.size) →
   body.wpIn (Fence.wide.inRound l) 0 Tryz.prog (AtEndW fun W3=>∃ S2 K2 v2,WRel w0 F0 h gb qb S2 K2 (bs++kB v2) W3∧(∀ z,z ∈ kB v2→z.1<w.heap.size)∧if (nx S1 g).2<0∨(nx S1 g).2 % 2=0 then Fin S2 K2 v2 else ∃ k',k'<k∧I k' S2 K2 v2 ((nx S1 g).2 / 2).toNat) (a₁ g (nx S1 g).2) W)
  (hdone:∀ W2 S2 K2 v2,Fin S2 K2 v2→WRel w0 F0 h gb qb S2 K2 ((w.heap.size,.deferred (some []))::kB v2) W2→Q .normal { a with defers:={ target:=.collected w.heap.size,args:=#[] } :: a.defers } W2) :
  (Code.rangeFunc g ps assign body).wpIn Fence.wide 2 Tryz.prog Q a w:=by
 have hlt0:∀ z,z ∈ kB v0→z.1<w.heap.size:=fun z hz=>by
  obtain ⟨Fq,_,_,_,hk⟩:=hW.ex
  exact (Array.getElem?_eq_some_iff.1 (hk z hz).2.2).1
 refine range_law rfl (by decide) hg trivial (enters_of Tryz.func84 (by kernel_rfl) rfl) (fun W2=>∃ fn S2 K2 v2,Fin S2 K2 v2∧WRel w0 F0 h gb qb S2 K2 ((w.heap.size+1,.loop (loopRec fn a.tmps ps assign body w.heap.size))::(w.heap.size,.deferred (some []))::kB v2) W2∧∀ z,z ∈ kB v2→z.1<w.heap.size) (fun fn W1 hfn hW1=>?_) (fun fn W2 hl hE=>?_)
 ·
  have r1:=(hW.alloc (.deferred (some []))).alloc (.loop (loopRec fn a.tmps ps assign body w.heap.size))
  rw [World.size_alloc] at r1
  rw [← hW1] at r1
  refine (hw (w.heap.size+1)
   (fun s g W=>∃ K1 v,I s.1 s.2 K1 v g∧WRel w0 F0 h gb qb s.2 K1 ((w.heap.size+1,.loop (loopRec fn a.tmps ps assign body w.heap.size))::(w.heap.size,.deferred (some []))::kB v) W∧∀ z,z ∈ kB v→z.1<w.heap.size)
   (fun _ W=>∃ S2 K2 v2,Fin S2 K2 v2∧WRel w0 F0 h gb qb S2 K2 ((w.heap.size+1,.loop (loopRec fn a.tmps ps assign body w.heap.size))::(w.heap.size,.deferred (some []))::kB v2) W∧∀ z,z ∈ kB v2→z.1<w.heap.size)
   (fun s=>s.1) ?_ (k0,S0) W1 ⟨K0,v0,hI0,r1,hlt0⟩).mono ?_
  ·
   rintro ⟨k,S1⟩ g1 W ⟨K1,v,hI1,r,hlt⟩
   dsimp only at hI1 r
   obtain ⟨e1,⟨x,hx⟩,e2,e3⟩:=hI k S1 K1 v g1 hI1
   obtain ⟨i1,i2,i3,_⟩:=r.at_ hx
   have hb1:=(box_cells (r.kept (List.mem_cons_of_mem _ (List.mem_cons_of_mem _ (hkB v _ hbh))))).1
   have hb2:=(box_cells (r.kept (List.mem_cons_of_mem _ (List.mem_cons_of_mem _ (hkB v _ hbr))))).1
   refine ⟨i1,hb1,hb2,gb g1,qb g1,i2,i3,(nx S1 g1).2,e2,e3,callsIn_wide.2 ((hR.step S1 K1 _ W g1 x r (fun z hz=>List.mem_cons_of_mem _ (List.mem_cons_of_mem _ (hkB v z hz))) e1 hx).mono ?_)⟩
   rintro e W2 ⟨rfl,r2⟩
   refine ⟨rfl,?_⟩
   refine yield_round (a₁ g1 (nx S1 g1).2) (r2.kept (List.mem_cons_self)) hfn (by rw [hps];rfl) (hassign _ g1 (nx S1 g1).2 W2) ?_
   have r3:WRel w0 F0 h gb qb (nx S1 g1).1 K1 ([(w.heap.size+1,.loop { loopRec fn a.tmps ps assign body w.heap.size with state:=.busy }),(w.heap.size,.deferred (some []))]++kB v) (W2.putObj (w.heap.size+1) (.loop { loopRec fn a.tmps ps assign body w.heap.size with state:=.busy })):=by
    refine r2.putObj (List.mem_cons_self) _ fun z hz=>?_
    rcases List.mem_append.1 hz with hz | hz
    ·
     rcases List.mem_cons.1 hz with rfl | hz
     · exact .inl rfl
     ·
      rw [List.mem_singleton] at hz
      subst hz
      exact .inr ⟨by simp,by simp⟩
    ·
     have:=hlt z hz
     exact .inr ⟨List.mem_cons_of_mem _ (List.mem_cons_of_mem _ hz),by omega⟩
   refine wpIn_mono (hbody (w.heap.size+1) g1 k S1 K1 v _ _ hI1 r3 (fun z hz=>?_) hlt) ?_
   ·
    rcases List.mem_cons.1 hz with rfl | hz
    · exact Nat.le_succ _
    ·
     rw [List.mem_singleton] at hz
     subst hz
     exact Nat.le_refl _
   ·
    intro e a3 W3 hp
    cases e with
    | normal =>
     obtain ⟨S2,K2,v2,r4,hlt4,hfin⟩:=hp
     refine ⟨r4.kept (List.mem_append_left _ (List.mem_cons_self)),?_⟩
     have r5:WRel w0 F0 h gb qb S2 K2 ((w.heap.size+1,.loop (loopRec fn a.tmps ps assign body w.heap.size))::(w.heap.size,.deferred (some []))::kB v2) (W3.putObj (w.heap.size+1) (.loop (loopRec fn a.tmps ps assign body w.heap.size))):=by
      refine r4.putObj (List.mem_append_left _ (List.mem_cons_self)) _ fun z hz=>?_
      rcases List.mem_cons.1 hz with rfl | hz
      · exact .inl rfl
      ·
       rcases List.mem_cons.1 hz with rfl | hz
       · exact .inr ⟨by simp,by simp⟩
       ·
        have:=hlt4 z hz
        exact .inr ⟨List.mem_append_right _ hz,by omega⟩
     by_cases hc:(nx S1 g1).2<0∨(nx S1 g1).2 % 2=0
     ·
      rw [if_pos hc] at hfin ⊢
      exact ⟨(0,S2),S2,K2,v2,hfin,r5,hlt4⟩
     ·
      rw [if_neg hc] at hfin ⊢
      obtain ⟨k',hk',hI'⟩:=hfin
      exact ⟨(k',S2),⟨K2,v2,hI',r5,hlt4⟩,hk'⟩
    | _=>exact (hp:False).elim
  ·
   rintro e W2 ⟨hv,_,S2,K2,v2,hF,r,hlt⟩
   exact ⟨hv,r.kept (List.mem_cons_self),fn,S2,K2,v2,hF,r,hlt⟩
 ·
  obtain ⟨fn',S2,K2,v2,hF,r,hlt⟩:=hE
  refine hdone _ S2 K2 v2 hF ?_
  refine r.putObj (List.mem_cons_self) _ fun z hz=>?_
  rcases List.mem_cons.1 hz with rfl | hz
  · exact .inr ⟨by simp,by simp⟩
  ·
   have:=hlt z hz
   exact .inr ⟨List.mem_cons_of_mem _ (List.mem_cons_of_mem _ hz),by omega⟩
end Go.Proofs.YtefekboacghnjaaGreat
namespace Go.Proofs.YtefekboacghnjaaGreat
open Go.RowKit Go.Maps
attribute [local go_sem] Oper.semAt_some
section
variable {w0 w:World} {F0:List Nat} {h:Nat} {gb qb:Nat→Nat} {S:HS} {K:Int} {ks:List (Nat × Obj)}
theorem rule_cur:IsRule w0 F0 h gb qb S ks 49 #[] curN:=⟨fun S1 K1 ks1 W1 g x r _ _ hx=>by
 obtain ⟨_,_,_,_,Fi,hq,_⟩:=r.at_ hx
 refine (qcur_any hq).mono fun e W2 hp=>?_
 obtain ⟨rfl,rfl⟩:=hp
 have e:curN S1 g=(S1,x.q.cur):=by unfold curN;rw [hx]
 rw [e]
 exact ⟨rfl,r⟩⟩
theorem rule_pick {bx:Nat} (hbx:(bx,.cells #[.pointer (some ⟨h,0,none⟩)] 25 (0,0)) ∈ ks) (g1:-9223372036854775808≤S.gran) (g2:S.gran≤9223372036854775807) :
  IsRule w0 F0 h gb qb S ks 47 #[.pointer (some ⟨bx,0,none⟩)] pickN:=⟨fun S1 K1 ks1 W1 g x r hk hgr hx=>by
 obtain ⟨_,_,_,⟨_,hg⟩,Fi,hq,hQ⟩:=r.at_ hx
 have hb:=(box_cells (r.kept (hk _ hbx))).1
 refine (pick1_any W1 bx h (qb g) S1.gran (by rw [hgr];exact g1) (by rw [hgr];exact g2) hb hg hq).mono fun e W2 hp=>?_
 obtain ⟨rfl,hT⟩:=hp
 obtain ⟨F',hT⟩:=hT.out
 have e:pickN S1 g=(S1.put g (some { x with q:=pickQ x.q S1.gran }),x.q.pickI S1.gran):=by unfold pickN;rw [hx]
 rw [e]
 obtain ⟨_,_,_,_,hM,_⟩:=hq.ex
 exact ⟨rfl,hQ W2 _ K1 F' hT (Int.le_refl _) hM.k2⟩⟩
theorem atEndW_mono {F:Fence} {n:Nat} {P:Program} {c:Code} {a:Act} {v:World} {R R':World→Prop} (h:c.wpIn F n P (AtEndW R) a v) (k:∀ u,R u→R' u):c.wpIn F n P (AtEndW R') a v :=
 wpIn_mono h fun e _ u hp=>by
  cases e with
  | normal=>exact k u hp
  | _=>exact (hp:False).elim
set_option maxRecDepth 100000 in
set_option maxHeartbeats 4000000 in
theorem end_any {rf:FuncId} {rc:Array Value} {nx:HS→Nat→HS × Int} {bh br:Nat} {rv:Value} (n:Nat) (hgran:∀ S1 g,(nx S1 g).1.gran=S1.gran)
  (r:WRel w0 F0 h gb qb S K ks w) (hbh:(bh,.cells #[.pointer (some ⟨h,0,none⟩)] 25 (0,0)) ∈ ks) (hbr:(br,.cells #[rv] 92 (0,0)) ∈ ks) (hR:IsRule w0 F0 h gb qb S ks rf rc nx) (hw:IsWay h bh br rv rf rc) (ok:wayOk nx n S 0) :
  Calls Tryz.prog 45 #[.func (.func 84) #[] #[.pointer (some ⟨bh,0,none⟩),.pointer (some ⟨br,0,none⟩)]] w fun e w'=>e=.returned (.int .i64 (endI (wayF nx n S 0).2))∧Hid (WRel w0 F0 h gb qb (wayF nx n S 0).1 K ks w'):=by
 refine (callsIn_wide (n:=2)).1 ?_
 refine callsIn_of_wp_marks (n:=2) Tryz.func45 rfl trivial ?_ rfl
 simp only [Tryz.ntmps45,List.size_toArray,List.length_cons,List.length_nil,Nat.reduceAdd,Nat.reduceSub,Array.replicate_succ,Array.replicate_zero,List.push_toArray,List.append_toArray,List.nil_append,List.cons_append]
 have HH:=Lib.hid (And.intro r (And.intro hbh (And.intro hbr (And.intro hR (And.intro hw ok)))))
 have HG:=Lib.hid hgran
 clear r hbh hbr hR hw ok hgran
 gi_wp2
 refine way_loop (β:=Int) HH.out.2.1 HH.out.2.2.1 HH.out.2.2.2.1 HH.out.2.2.2.2.1
  (fun k S1 K1 _ g=>wayOk nx k S1 g∧wayF nx k S1 g=wayF nx n S 0∧S1.gran=S.gran∧K1=K)
  (fun S2 K2 v2=>(S2,v2)=wayF nx n S 0∧K2=K ∧ -1≤v2∧v2≤1000)
  (fun v=>(w.heap.size,.cells #[.int .i64 v] 3 (0,0))::ks) (fun _ z hz=>List.mem_cons_of_mem _ hz)
  (fun k S1 K1 v g hI=>?hI)
  (fun g m=>{ tmps:=#[.func (.func 84) #[] #[.pointer (some ⟨bh,0,none⟩),.pointer (some ⟨br,0,none⟩)],undef,.int .i64 0,.pointer (some ⟨w.heap.size,0,none⟩),undef,.int .i64 m,.func (.func 84) #[] #[.pointer (some ⟨bh,0,none⟩),.pointer (some ⟨br,0,none⟩)],.pointer (some ⟨qb g,0,none⟩),.int .i64 m,undef,undef,undef,undef,undef],defers:=[] })
  rfl rfl n S K (-1) ⟨HH.out.2.2.2.2.2,rfl,rfl,rfl⟩ (HH.out.1.alloc _) ?assign ?body ?done
 case hI =>
  obtain ⟨o1,_,o3,_⟩:=hI
  cases k with
  | zero=>exact (o1:False).elim
  | succ k=>exact ⟨o3,o1.1,o1.2.1,o1.2.2.1⟩
 case assign =>
  intro l g m W K hK
  gi_wp2
  exact hK
 case body =>
  intro l g k S1 K1 v bs W hI r hbs hlt
  have hz:(w.heap.size,Obj.cells #[.int .i64 v] 3 (0,0)) ∈ bs++((w.heap.size,.cells #[.int .i64 v] 3 (0,0))::ks):=List.mem_append_right _ (List.mem_cons_self)
  obtain ⟨c0,cf⟩:=box_cells (r.kept hz)
  have HX:=Lib.hid (And.intro hI (And.intro r (And.intro hbs (And.intro hlt hz))))
  clear hI r hbs hlt hz
  obtain ⟨m,hm⟩:∃ m,m=(nx S1 g).2:=⟨_,rfl⟩
  rw [← hm]
  have HM:=Lib.hid hm
  clear hm
  refine atEndW_mono (R:=fun W3=>W3=W.setCell ⟨w.heap.size,0,none⟩ (.int .i64 m)) ?_ ?_
  ·
   gi_wp2
   rfl
  ·
   rintro W3 rfl
   obtain ⟨⟨o1,o2,o3,o4⟩,r,hbs,hlt,hz⟩:=HX.out
   refine ⟨(nx S1 g).1,K1,m,r.setBox hz _ fun z hzz=>?_,fun z hzz=>?_,?_⟩
   ·
    rcases List.mem_append.1 hzz with hzz | hzz
    ·
     have:=hbs z hzz
     rw [World.size_alloc] at this
     exact .inr ⟨List.mem_append_left _ hzz,by omega⟩
    ·
     rcases List.mem_cons.1 hzz with rfl | hzz
     · exact .inl rfl
     ·
      have h1:=hlt z (List.mem_cons_of_mem _ hzz)
      have h2:z.1≠w.heap.size:=fun e=>by
       obtain ⟨Fq,_,_,_,hk⟩:=HH.out.1.ex
       have:=(Array.getElem?_eq_some_iff.1 (hk z hzz).2.2).1
       omega
      exact .inr ⟨List.mem_append_right _ (List.mem_cons_of_mem _ hzz),h2⟩
   ·
    rcases List.mem_cons.1 hzz with rfl | hzz
    · simp
    · exact hlt z (List.mem_cons_of_mem _ hzz)
   ·
    cases k with
    | zero=>exact (o1:False).elim
    | succ k =>
     obtain ⟨_,p1,p2,p3⟩:=o1
     rw [HM.out]
     rw [show wayF nx (k+1) S1 g=if (nx S1 g).2<0∨(nx S1 g).2 % 2=0 then nx S1 g else wayF nx k (nx S1 g).1 ((nx S1 g).2 / 2).toNat from rfl] at o2
     by_cases hc:(nx S1 g).2<0∨(nx S1 g).2 % 2=0
     ·
      rw [if_pos hc] at o2 ⊢
      exact ⟨by rw [← o2],o4,p1,p2⟩
     ·
      rw [if_neg hc] at o2 ⊢
      rcases p3 with p3 | p3
      · exact absurd p3 hc
      · exact ⟨k,Nat.lt_succ_self _,p3,o2,(HG.out S1 g).trans o3,o4⟩
 case done =>
  rintro W2 S2 K2 v2 ⟨hF,rfl,f1,f2⟩ r
  have hD:=r.kept (List.mem_cons_self)
  obtain ⟨c0,_⟩:=box_cells (r.kept (List.mem_cons_of_mem _ (List.mem_cons_self)))
  have hend:WRel w0 F0 h gb qb S2 K2 ks (W2.putObj (w.alloc (.cells #[.int .i64 (-1)] 3)).heap.size (.deferred none)):=by
   have h1:=r.putObj (ks':=ks) (List.mem_cons_self) (.deferred none) fun z hz=>by
    have h2:z.1<w.heap.size:=by
     obtain ⟨Fq,_,_,_,hk⟩:=HH.out.1.ex
     exact (Array.getElem?_eq_some_iff.1 (hk z hz).2.2).1
    exact .inr ⟨List.mem_cons_of_mem _ (List.mem_cons_of_mem _ hz),by simp;omega⟩
   exact h1
  have HX:=Lib.hid (And.intro hF hend)
  have HDD:=Lib.hid hD
  clear hF r hD hend
  by_cases hv:v2<0
  ·
   have z1:decide (v2<0)=true:=decide_eq_true hv
   have HV:=Lib.hid hv
   clear hv f1 f2
   gi_wp2
   refine ⟨by simp,.inl ⟨_,_,rfl,run_takeDeferred HDD.out,?_⟩⟩
   refine ⟨_,results_tmp rfl _ _ _,?_,?_⟩
   ·
    rw [← HX.out.1,endI,if_pos HV.out]
    rfl
   · rw [← HX.out.1];exact HX.out.2
  ·
   have z1:decide (v2<0)=false:=decide_eq_false hv
   have z2:0≤v2:=by omega
   have HV:=Lib.hid hv
   clear hv f1
   gi_wp2
   refine ⟨by simp,.inl ⟨_,_,rfl,run_takeDeferred (by have:=HDD.out;rw [World.size_alloc] at this;exact this),?_⟩⟩
   refine ⟨_,results_tmp rfl _ _ _,?_,?_⟩
   ·
    rw [← HX.out.1,endI,if_neg (by have:=HV.out;show ¬ v2<0;omega)]
    rfl
   ·
    rw [← HX.out.1]
    have:=HX.out.2
    rw [World.size_alloc] at this
    exact this
end
end Go.Proofs.YtefekboacghnjaaGreat
namespace Go.Proofs.YtefekboacghnjaaGreat
open Go.RowKit Go.Maps
section
variable {w:World} {h:Nat} {S:HS} {K:Int} {F:List Nat}
theorem curN_gran (S1:HS) (g:Nat):(curN S1 g).1.gran=S1.gran:=rfl
theorem pickN_gran (S1:HS) (g:Nat):(pickN S1 g).1.gran=S1.gran:=by
 unfold pickN
 split <;> rfl
theorem wayF_cur:∀ (n:Nat) (S:HS) (g:Nat),(wayF curN n S g).1=S
 | 0,_,_=>rfl
 | n+1,S,g=>by
  show (if (curN S g).2<0∨(curN S g).2 % 2=0 then curN S g else wayF curN n (curN S g).1 ((curN S g).2 / 2).toNat).1=S
  split
  · rfl
  · exact wayF_cur n S _
def runI (n:Nat) (S:HS):Int:=endI (wayF curN n S 0).2
set_option maxRecDepth 100000 in
set_option maxHeartbeats 4000000 in
theorem hrun_any (H:HAt w h F S K) (n:Nat) (ok:wayOk curN n S 0) :
  Calls Tryz.prog 14 #[.pointer (some ⟨h,0,none⟩)] w fun e w'=>e=.returned (.int .i64 (runI n S))∧∃ F',Hid (HTurned w F h S K w' F'):=by
 obtain ⟨gb,qb,r⟩:=WRel.new H
 have r1:=(r.alloc (.cells #[.pointer (some ⟨h,0,none⟩)] 25)).alloc (.cells #[.func (.func 49) #[] #[]] 92)
 rw [World.size_alloc] at r1
 have ME:=end_any (bh:=w.heap.size) (br:=w.heap.size+1) n curN_gran r1 (by simp) (by simp) rule_cur (isWay_cur h w.heap.size (w.heap.size+1)) ok
 have ME2:=ME.mono (R':=fun e w'=>e=.returned (.int .i64 (runI n S))∧∃ F',Hid (HTurned w F h S K w' F')) fun e w' hp=>by
  obtain ⟨he,r2⟩:=hp
  obtain ⟨F',hT⟩:=r2.out.turned
  rw [wayF_cur] at hT
  exact ⟨he,F',hT⟩
 have ME3:=Lib.hid ME2
 clear ME ME2 r r1 ok H
 go_enter Tryz.func14,Tryz.ntmps14
 go_wp2_with fail
 refine (way_any w h _ _ _).mono ?_
 rintro e w' ⟨rfl,rfl⟩
 go_wp2_with fail
 refine ME3.out.mono ?_
 rintro e w' ⟨rfl,hT⟩
 have HT:=Lib.hid hT
 clear hT
 go_wp2_with fail
 go_ret
 exact ⟨rfl,HT.out⟩
def pickH (n:Nat) (S:HS):HS:=(wayF pickN n S 0).1
def pickHI (n:Nat) (S:HS):Int:=endI (wayF pickN n S 0).2
set_option maxRecDepth 100000 in
set_option maxHeartbeats 4000000 in
theorem hpick_any (H:HAt w h F S K) (n:Nat) (ok:wayOk pickN n S 0) (g1:-9223372036854775808≤S.gran) (g2:S.gran≤9223372036854775807) :
  Calls Tryz.prog 11 #[.pointer (some ⟨h,0,none⟩)] w fun e w'=>e=.returned (.int .i64 (pickHI n S))∧∃ F',Hid (HTurned w F h (pickH n S) K w' F'):=by
 obtain ⟨gb,qb,r⟩:=WRel.new H
 have r1:=((r.alloc (.cells #[.pointer (some ⟨h,0,none⟩)] 25)).alloc (.cells #[.pointer (some ⟨h,0,none⟩)] 25)).alloc (.cells #[.func (.func 47) #[] #[.pointer (some ⟨w.heap.size,0,none⟩)]] 92)
 rw [World.size_alloc,World.size_alloc] at r1
 have ME:=end_any (bh:=w.heap.size+1) (br:=w.heap.size+1+1) n pickN_gran r1 (by simp) (by simp) (rule_pick (bx:=w.heap.size) (by simp) g1 g2) (isWay_pick h (w.heap.size+1) (w.heap.size+1+1) w.heap.size) ok
 have ME2:=ME.mono (R':=fun e w'=>e=.returned (.int .i64 (pickHI n S))∧∃ F',Hid (HTurned w F h (pickH n S) K w' F')) fun e w' hp=>by
  obtain ⟨he,r2⟩:=hp
  obtain ⟨F',hT⟩:=r2.out.turned
  exact ⟨he,F',hT⟩
 have ME3:=Lib.hid ME2
 clear ME ME2 r r1 ok H
 go_enter Tryz.func11,Tryz.ntmps11
 go_wp2_with fail
 refine (way_any _ h _ _ _).mono ?_
 rintro e w' ⟨rfl,rfl⟩
 go_wp2_with fail
 refine ME3.out.mono ?_
 rintro e w' ⟨rfl,hT⟩
 have HT:=Lib.hid hT
 clear hT
 go_wp2_with fail
 go_ret
 exact ⟨rfl,HT.out⟩
end
end Go.Proofs.YtefekboacghnjaaGreat
namespace Go.Proofs.YtefekboacghnjaaGreat
open Go.RowKit Go.Maps
attribute [local go_sem] Oper.semAt_some
def chargeF (ns:Nat):Nat→HS→Nat→HS
 | 0,S,_=>S
 | n+1,S,g =>
  match S.G g with
  | none=>S
  | some x =>
   if x.q.cur<0∨x.q.cur % 2=0 then S.put g (some { x with q:=chargeQ x.q ns })
   else chargeF ns n (S.put g (some { x with q:=chargeQ x.q ns })) (x.q.cur / 2).toNat
theorem wayOk_congr:∀ (n:Nat) (S S':HS) (g:Nat),(∀ j x,S.G j=some x→∃ x',S'.G j=some x'∧x'.q.cur=x.q.cur)→wayOk curN n S g→wayOk curN n S' g
 | 0,_,_,_,_,h=>h
 | n+1,S,S',g,hc,⟨⟨x,hx⟩,h2,h3,h4⟩=>by
  obtain ⟨x',hx',hcu⟩:=hc g x hx
  have e1:(curN S g).2=x.q.cur:=by unfold curN;rw [hx]
  have e2:(curN S' g).2=x.q.cur:=by unfold curN;rw [hx'];exact hcu
  rw [e1] at h2 h3 h4
  refine ⟨⟨x',hx'⟩,by rw [e2];exact h2,by rw [e2];exact h3,?_⟩
  rw [e2]
  exact h4.imp id fun h=>wayOk_congr n S S' _ hc h
theorem chargeQ_cur (X:QS) (ns:Nat):(chargeQ X ns).cur=X.cur:=by
 unfold chargeQ
 split
 · rfl
 · split <;> rfl
theorem WRel.of_turned {w0 W:World} {F0 F':List Nat} {h:Nat} {S:HS} {K:Int} (hT:HTurned w0 F0 h S K W F') (ks:List (Nat × Obj)) (hk:∀ z,z ∈ ks→z.1 ∉ F'∧w0.heap.size≤z.1∧W.heap[z.1]?=some z.2):∃ gb qb,WRel w0 F0 h gb qb S K ks W:=by
 obtain ⟨gb,qb,Fq,m,rfl⟩:=hT.at_.ex
 exact ⟨gb,qb,Fq,m,hT.turns,hT.sub,hk⟩
section
variable {w:World} {h:Nat} {S:HS} {K:Int} {F:List Nat}
set_option maxRecDepth 100000 in
set_option maxHeartbeats 8000000 in
theorem hcharge_yes (H:HAt w h F S K) (n:Nat) (hK:K+1000*(n:Int)≤1000000000000000) (ok:wayOk curN n S 0) (ns:Nat) (hns:ns≤1000000000) (hr:runI n S ≠ -1) :
  Calls Tryz.prog 12 #[.pointer (some ⟨h,0,none⟩),.int .u64 ns] w fun e w'=>e=.returned (.int .i64 0)∧∃ F',Hid (HTurned w F h (chargeF ns n S 0) (K+1000*(n:Int)) w' F'):=by
 obtain ⟨W1,hW1⟩:∃ W1,W1=w.alloc (.cells #[.int .u64 ns] 32):=⟨_,rfl⟩
 have hb1:Below w.heap.size w W1:=by rw [hW1];exact (Below.refl _ _).alloc (Nat.le_refl _) _
 have hx1:Blk W1 w.heap.size #[.int .u64 ns] 32:=by rw [hW1];exact Blk.new _ _ _
 have H1:=H.below hb1
 have hnF:w.heap.size ∉ F:=fun hb=>by have:=H.lt _ hb;omega
 have hlt1:=hx1.lt
 have MR:=(hrun_any H1 n ok).mono (R':=fun e w'=>e=.returned (.int .i64 (runI n S))∧(w'.cell? ⟨w.heap.size,0,none⟩=some (.int .u64 (ns:Nat)))∧Hid (∃ F',w.heap.size ∉ F'∧HTurned W1 F h S K w' F'∧Blk w' w.heap.size #[.int .u64 ns] 32)) fun e w' hp=>by
  obtain ⟨he,F',hT⟩:=hp
  have hb:=hx1.turns hT.out.turns hnF
  refine ⟨he,Blk.cell hb 0,F',fun hm=>?_,hT.out,hb⟩
  rcases hT.out.sub _ hm with hm | hm
  · exact hnF hm
  · omega
 obtain ⟨ri,hri⟩:∃ ri,ri=runI n S:=⟨_,rfl⟩
 rw [← hri] at MR hr
 have z1:(ri == -1)=false:=by simpa using hr
 have z2:decide (ri = -1)=false:=decide_eq_false hr
 have z3:decide ((1000000000:Int)<(ns:Int))=false:=decide_eq_false (by omega)
 have MR:=Lib.hid MR
 have HH:=Lib.hid (And.intro H (And.intro hK (And.intro ok (And.intro hb1 hx1))))
 have HW1:=Lib.hid hW1
 clear hW1 hb1 hx1 H1 H hK ok hnF hri hr
 refine (callsIn_wide (n:=2)).1 ?_
 refine callsIn_of_wp_marks (n:=2) Tryz.func12 rfl trivial ?_ rfl
 simp only [Tryz.ntmps12,List.size_toArray,List.length_cons,List.length_nil,Nat.reduceAdd,Nat.reduceSub,Array.replicate_succ,Array.replicate_zero,List.push_toArray,List.append_toArray,List.nil_append,List.cons_append]
 gi_wp2
 rw [← HW1.out]
 refine ⟨trivial,(callsIn_wide.2 MR.out).mono ?_⟩
 rintro e w3 ⟨rfl,c3,H3⟩
 gi_wp2
 refine ⟨trivial,(callsIn_wide.2 (way_any _ h _ _ _)).mono ?_⟩
 rintro e w5 ⟨rfl,rfl⟩
 clear c3
 gi_wp2
 obtain ⟨F3,hn3,hT3,hb3⟩:=H3.out
 have hT:=(HTurned.of_below HH.out.1 HH.out.2.2.2.1).trans hT3
 obtain ⟨gb,qb,r3⟩:=WRel.of_turned hT [(w.heap.size,.cells #[.int .u64 ns] 32 (0,0))] (fun z hz=>by
  rw [List.mem_singleton] at hz
  subst hz
  exact ⟨hn3,Nat.le_refl _,hb3⟩)
 have r5:=(r3.alloc (.cells #[.pointer (some ⟨h,0,none⟩)] 25)).alloc (.cells #[.func (.func 49) #[] #[]] 92)
 rw [World.size_alloc] at r5
 refine way_loop (β:=Unit) (S:=S) (ks:=(w3.heap.size+1,.cells #[.func (.func 49) #[] #[]] 92 (0,0))::(w3.heap.size,.cells #[.pointer (some ⟨h,0,none⟩)] 25 (0,0))::[(w.heap.size,.cells #[.int .u64 ns] 32 (0,0))]) (by simp) (by simp) (rule_cur (w0:=w) (F0:=F) (gb:=gb) (qb:=qb)) (isWay_cur h w3.heap.size (w3.heap.size+1))
  (fun k S1 K1 _ g=>wayOk curN k S1 g∧chargeF ns k S1 g=chargeF ns n S 0∧S1.gran=S.gran∧K1+1000*(k:Int)≤K+1000*(n:Int))
  (fun S2 K2 _=>S2=chargeF ns n S 0∧K2≤K+1000*(n:Int))
  (fun _=>(w3.heap.size+1,.cells #[.func (.func 49) #[] #[]] 92 (0,0))::(w3.heap.size,.cells #[.pointer (some ⟨h,0,none⟩)] 25 (0,0))::[(w.heap.size,.cells #[.int .u64 ns] 32 (0,0))]) (fun _ z hz=>hz)
  (fun k S1 K1 v g hI=>?hI)
  (fun g m=>{ tmps:=#[.pointer (some ⟨h,0,none⟩),.int .u64 ns,undef,.pointer (some ⟨w.heap.size,0,none⟩),.int .i64 0,.pointer (some ⟨qb g,0,none⟩),.bool false,.pointer (some ⟨h,0,none⟩),.bool false,.bool false,.pointer (some ⟨h,0,none⟩),.int .i64 ri,.bool false,.bool false,.int .u64 ns,.bool false,.pointer (some ⟨h,0,none⟩),.func (.func 84) #[] #[.pointer (some ⟨w3.heap.size,0,none⟩),.pointer (some ⟨w3.heap.size+1,0,none⟩)],.pointer (some ⟨qb g,0,none⟩),.int .i64 m,undef,undef,undef],defers:=[] })
  rfl rfl n S K () ⟨HH.out.2.2.1,rfl,rfl,Int.le_refl _⟩ r5 ?assign ?body ?done
 case hI =>
  obtain ⟨o1,_,o3,_⟩:=hI
  cases k with
  | zero=>exact (o1:False).elim
  | succ k=>exact ⟨o3,o1.1,o1.2.1,o1.2.2.1⟩
 case assign =>
  intro l g m W K hK
  gi_wp2
  exact hK
 case body =>
  intro l g k S1 K1 v bs W hI r hbs hlt
  obtain ⟨c0,cf⟩:=box_cells (r.kept (List.mem_append_right bs (List.mem_cons_of_mem _ (List.mem_cons_of_mem _ (List.mem_cons_self)))))
  cases k with
  | zero=>exact (hI.1:False).elim
  | succ k =>
   obtain ⟨⟨⟨x,hx⟩,p1,p2,p3⟩,o2,o3,o4⟩:=hI
   have hcu:curN S1 g=(S1,x.q.cur):=by unfold curN;rw [hx]
   rw [hcu] at r p1 p2 p3 ⊢
   obtain ⟨_,_,_,_,Fi,hq,hQ⟩:=r.at_ hx
   have hKn:K1+1000≤1000000000000000:=by
    have:=HH.out.2.1
    have e:((k+1:Nat):Int)=(k:Int)+1:=by simp
    rw [e] at o4
    omega
   have MC:=Lib.hid (callsIn_wide (n:=0).2 (qcharge_any hq hKn ns (by omega)))
   have HX:=Lib.hid (And.intro hx (And.intro hQ (And.intro hKn (And.intro hlt (And.intro p3 (And.intro o2 (And.intro o3 o4)))))))
   have HC:=Lib.hid hcu
   clear r hx hq hQ hKn hbs hlt p1 p2 p3 o2 o3 o4 hcu
   refine atEndW_mono (R:=fun W3=>Hid (∃ F',QTurned W Fi (qb g) (chargeQ x.q ns) (K1+1000) W3 F')) ?_ ?_
   ·
    gi_wp2
    refine ⟨trivial,rfl,CallsIn.mono (CallsIn.inRound l MC.out) ?_⟩
    rintro e W3 ⟨F',rfl,hT⟩
    have HT:=Lib.hid hT.out
    clear hT
    gi_wp2
    exact ⟨F',HT.out⟩
   ·
    rintro W3 hT
    obtain ⟨F',hT⟩:=hT.out
    obtain ⟨hx,hQ,hKn,hlt,p3,o2,o3,o4⟩:=HX.out
    have r3:=hQ W3 _ _ F' hT (by omega) hKn
    have eN:((k+1:Nat):Int)=(k:Int)+1:=by simp
    rw [eN] at o4
    refine ⟨_,_,(),r3,hlt,?_⟩
    have e1:chargeF ns (k+1) S1 g=if x.q.cur<0∨x.q.cur % 2=0 then S1.put g (some { x with q:=chargeQ x.q ns }) else chargeF ns k (S1.put g (some { x with q:=chargeQ x.q ns })) (x.q.cur / 2).toNat:=by
     conv=>lhs;unfold chargeF
     rw [hx]
    rw [e1] at o2
    show if x.q.cur<0∨x.q.cur % 2=0 then _ else _
    by_cases hc:x.q.cur<0∨x.q.cur % 2=0
    ·
     rw [if_pos hc] at o2 ⊢
     exact ⟨o2,by omega⟩
    ·
     rw [if_neg hc] at o2 ⊢
     rcases p3 with p3 | p3
     · exact absurd p3 hc
     ·
      refine ⟨k,Nat.lt_succ_self _,wayOk_congr k S1 _ _ (fun j y hj=>?_) p3,o2,o3,by omega⟩
      by_cases hjg:j=g
      ·
       subst hjg
       rw [hx] at hj
       injection hj with hj
       subst hj
       exact ⟨_,HS.put_same _ _ _,chargeQ_cur _ _⟩
      · exact ⟨y,(HS.put_other _ _ hjg).trans hj,rfl⟩
 case done =>
  rintro W2 S2 K2 _ ⟨rfl,hK2⟩ r
  have hD:=r.kept (List.mem_cons_self)
  have hend:=r.putObj (ks':=[]) (List.mem_cons_self) (.deferred none) (fun z hz=>by simp at hz)
  have HX:=Lib.hid (And.intro hK2 hend)
  have HDD:=Lib.hid hD
  clear r hD hend hK2
  gi_wp2
  refine ⟨by simp,.inl ⟨_,_,rfl,run_takeDeferred HDD.out,?_⟩⟩
  refine ⟨_,results_tmp rfl _ _ _,rfl,?_⟩
  have:=HX.out.2
  obtain ⟨F',hT⟩:=(this.mono HX.out.1 HH.out.2.1).turned
  exact ⟨F',hT⟩
end
end Go.Proofs.YtefekboacghnjaaGreat
namespace Go.Proofs.YtefekboacghnjaaGreat
open Go.RowKit Go.Maps
attribute [local go_sem] Oper.semAt_some
theorem mixed:Tryz.prog.follows .mixedOrders=true:=by kernel_rfl
def lastG:Nat→HS→Nat→Nat
 | 0,_,g=>g
 | n+1,S,g =>
  match S.G g with
  | none=>g
  | some x=>if x.q.cur<0∨x.q.cur % 2=0 then g else lastG n S (x.q.cur / 2).toNat
theorem lastG_some:∀ (n:Nat) (S:HS) (g:Nat),wayOk curN n S g→∃ x,S.G (lastG n S g)=some x
 | 0,_,_,h=>(h:False).elim
 | n+1,S,g,⟨⟨x,hx⟩,_,_,h4⟩=>by
  have e1:(curN S g).2=x.q.cur:=by unfold curN;rw [hx]
  rw [e1] at h4
  unfold lastG
  rw [hx]
  dsimp only
  by_cases hc:x.q.cur<0∨x.q.cur % 2=0
  · rw [if_pos hc];exact ⟨x,hx⟩
  ·
   rw [if_neg hc]
   rcases h4 with h4 | h4
   · exact absurd h4 hc
   · exact lastG_some n S _ h4
theorem WRel.hat {w0 W:World} {F0:List Nat} {h:Nat} {gb qb:Nat→Nat} {S:HS} {K:Int} {ks:List (Nat × Obj)} (r:WRel w0 F0 h gb qb S K ks W) :
  ∃ F',HAt W h F' S K∧∀ S2 K2 W2 F2,HTurned W F' h S2 K2 W2 F2→HTurned w0 F0 h S2 K2 W2 F2∧∀ z,z ∈ ks→z.1 ∉ F2∧w0.heap.size≤z.1∧W2.heap[z.1]?=some z.2:=by
 obtain ⟨Fq,m,hT,hs,hk⟩:=r.ex
 refine ⟨_,⟨gb,qb,Fq,m,rfl⟩,fun S2 K2 W2 F2 h2=>⟨(HTurned.mk ⟨gb,qb,Fq,m,rfl⟩ hT hs).trans h2,fun z hz=>?_⟩⟩
 obtain ⟨k1,k2,k3⟩:=hk z hz
 have hlt:=(Array.getElem?_eq_some_iff.1 k3).1
 refine ⟨fun hb=>?_,k2,(h2.turns.block z.1 hlt k1).trans k3⟩
 rcases h2.sub _ hb with hb | hb
 · exact k1 hb
 · omega
section
variable {w:World} {h:Nat} {S:HS} {K:Int} {F:List Nat}
set_option maxRecDepth 100000 in
theorem hcharge_no (H:HAt w h F S K) (n:Nat) (ok:wayOk curN n S 0) (ns:Nat) (hr:runI n S = -1) :
  Calls Tryz.prog 12 #[.pointer (some ⟨h,0,none⟩),.int .u64 ns] w fun e w'=>e=.returned (.int .i64 7)∧∃ F',Hid (HTurned w F h S K w' F'):=by
 have hb1:Below w.heap.size w (w.alloc (.cells #[.int .u64 ns] 32)):=(Below.refl _ _).alloc (Nat.le_refl _) _
 have MR:=(hrun_any (H.below hb1) n ok).mono (R':=fun e w'=>e=.returned (.int .i64 (-1))∧Hid (∃ F',HTurned w F h S K w' F')) fun e w' hp=>by
  obtain ⟨he,F',hT⟩:=hp
  rw [hr] at he
  exact ⟨he,F',(HTurned.of_below H hb1).trans hT.out⟩
 have MR:=Lib.hid MR
 clear H ok hr hb1
 go_enter Tryz.func12,Tryz.ntmps12
 go_wp2_with fail
 refine MR.out.mono ?_
 rintro e w' ⟨rfl,hT⟩
 go_wp2_with fail
 go_ret
 obtain ⟨F',hT⟩:=hT.out
 exact ⟨rfl,F',hT⟩
def yieldH (n:Nat) (S:HS):HS :=
 if runI n S = -1 then pickH n S
 else match S.G (lastG n S 0) with
  | none=>S
  | some x=>pickH n (S.put (lastG n S 0) (some { x with q:=yieldQ x.q S.gran }))
def yieldHI (n:Nat) (S:HS):Int :=
 if runI n S = -1 then pickHI n S
 else match S.G (lastG n S 0) with
  | none=>-1
  | some x=>pickHI n (S.put (lastG n S 0) (some { x with q:=yieldQ x.q S.gran }))
set_option maxRecDepth 100000 in
set_option maxHeartbeats 8000000 in
theorem hyield_is (H:HAt w h F S K) (n:Nat) (ok:wayOk curN n S 0) (ok2:runI n S = -1→wayOk pickN n S 0) (ok3:∀ x,S.G (lastG n S 0)=some x→runI n S ≠ -1→wayOk pickN n (S.put (lastG n S 0) (some { x with q:=yieldQ x.q S.gran })) 0) (g1:-9223372036854775808≤S.gran) (g2:S.gran≤9223372036854775807) :
  Calls Tryz.prog 24 #[.pointer (some ⟨h,0,none⟩)] w fun e w'=>e=.returned (.int .i64 (yieldHI n S))∧∃ F',Hid (HTurned w F h (yieldH n S) K w' F'):=by
 have MR:=hrun_any H n ok
 obtain ⟨ri,hri⟩:∃ ri,ri=runI n S:=⟨_,rfl⟩
 rw [← hri] at MR
 by_cases hr:ri = -1
 ·
  have e1:yieldH n S=pickH n S:=if_pos (by rw [← hri];exact hr)
  have e2:yieldHI n S=pickHI n S:=if_pos (by rw [← hri];exact hr)
  rw [e2]
  have hr1:=ok2 (by rw [← hri];exact hr)
  subst hr
  have MR:=Lib.hid MR
  have MP:Hid (∀ W F',HTurned w F h S K W F'→Calls Tryz.prog 11 #[.pointer (some ⟨h,0,none⟩)] W fun e w'=>e=.returned (.int .i64 (pickHI n S))∧∃ F',Hid (HTurned w F h (yieldH n S) K w' F')):=Lib.hid fun W F' hT=>(hpick_any hT.at_ n hr1 g1 g2).mono fun e w' hp=>by
   obtain ⟨he,F2,hT2⟩:=hp
   rw [e1]
   exact ⟨he,F2,hT.trans hT2.out⟩
  clear H ok ok2 ok3 hri e1 e2 hr1
  go_enter Tryz.func24,Tryz.ntmps24
  go_wp2_with fail
  refine MR.out.mono ?_
  rintro e w1 ⟨rfl,F1,hT1⟩
  have HT:=Lib.hid hT1.out
  clear hT1
  go_wp2_with fail
  refine (MP.out _ _ HT.out).mono ?_
  rintro e w2 ⟨rfl,hT2⟩
  have HT2:=Lib.hid hT2
  clear hT2
  go_wp2_with fail
  go_ret
  exact ⟨rfl,HT2.out⟩
 ·
  obtain ⟨gl,hgl⟩:∃ gl,gl=lastG n S 0:=⟨_,rfl⟩
  obtain ⟨x,hx⟩:=lastG_some n S 0 ok
  have z1:(ri != -1)=true:=by simpa using hr
  have hp1:=ok3 x hx (by rw [← hri];exact hr)
  have e1:yieldH n S=pickH n (S.put gl (some { x with q:=yieldQ x.q S.gran })):=by
   unfold yieldH
   rw [if_neg (by rw [← hri];exact hr),hx,← hgl]
  have e2:yieldHI n S=pickHI n (S.put gl (some { x with q:=yieldQ x.q S.gran })):=by
   unfold yieldHI
   rw [if_neg (by rw [← hri];exact hr),hx,← hgl]
  rw [← hgl] at hx hp1
  have MR:=Lib.hid MR
  have HH:=Lib.hid (And.intro H (And.intro ok (And.intro hgl (And.intro hx (And.intro hp1 (And.intro (And.intro e1 e2) (And.intro g1 g2)))))))
  clear H ok ok2 ok3 hri e1 e2 hp1 hx hgl hr g1 g2
  refine (callsIn_wide (n:=2)).1 ?_
  refine callsIn_of_wp_marks (n:=2) Tryz.func24 rfl trivial ?_ rfl
  simp only [Tryz.ntmps24,List.size_toArray,List.length_cons,List.length_nil,Nat.reduceAdd,Nat.reduceSub,Array.replicate_succ,Array.replicate_zero,List.push_toArray,List.append_toArray,List.nil_append,List.cons_append]
  gi_wp2
  refine ⟨trivial,(callsIn_wide.2 MR.out).mono ?_⟩
  rintro e w3 ⟨rfl,F3,hT3⟩
  have HT3:=Lib.hid hT3.out
  clear hT3 MR
  gi_wp2
  refine ⟨trivial,(callsIn_wide.2 (way_any _ h _ _ _)).mono ?_⟩
  rintro e w5 ⟨rfl,rfl⟩
  gi_wp2
  obtain ⟨gb,qb,r3⟩:=WRel.of_turned HT3.out [] (fun z hz=>by simp at hz)
  have r5:=((r3.alloc (.cells #[.pointer none] 56)).alloc (.cells #[.pointer (some ⟨h,0,none⟩)] 25)).alloc (.cells #[.func (.func 49) #[] #[]] 92)
  rw [World.size_alloc,World.size_alloc] at r5
  refine way_loop (β:=Option Nat) (S:=S) (ks:=(w3.heap.size+1+1,(.cells #[.func (.func 49) #[] #[]] 92 (0,0)))::[(w3.heap.size+1,(.cells #[.pointer (some ⟨h,0,none⟩)] 25 (0,0)))]) (by simp) (by simp) (rule_cur (w0:=w) (F0:=F) (gb:=gb) (qb:=qb)) (isWay_cur h (w3.heap.size+1) (w3.heap.size+1+1))
   (fun k S1 K1 _ g=>wayOk curN k S1 g∧lastG k S1 g=gl∧S1=S∧K1=K)
   (fun S2 K2 v2=>v2=some gl∧S2=S∧K2=K)
   (fun v=>(w3.heap.size+1+1,(.cells #[.func (.func 49) #[] #[]] 92 (0,0)))::(w3.heap.size+1,(.cells #[.pointer (some ⟨h,0,none⟩)] 25 (0,0)))::[(w3.heap.size,.cells #[.pointer (v.map fun g=>⟨qb g,0,none⟩)] 56 (0,0))]) (fun _ z hz=>by
    rcases List.mem_cons.1 hz with rfl | hz
    · simp
    ·
     rw [List.mem_singleton] at hz
     subst hz
     simp)
   (fun k S1 K1 v g hI=>?hI)
   (fun g m=>{ tmps:=#[.pointer (some ⟨h,0,none⟩),undef,.int .i64 0,.pointer (some ⟨w3.heap.size,0,none⟩),.pointer (some ⟨qb g,0,none⟩),.pointer (some ⟨h,0,none⟩),.int .i64 ri,.bool true,.pointer (some ⟨h,0,none⟩),.func (.func 84) #[] #[.pointer (some ⟨w3.heap.size+1,0,none⟩),.pointer (some ⟨w3.heap.size+1+1,0,none⟩)],.pointer (some ⟨qb g,0,none⟩),.int .i64 m,undef,undef,undef,undef,undef,undef,undef,undef,undef],defers:=[] })
   rfl rfl n S K none ⟨HH.out.2.1,HH.out.2.2.1.symm,rfl,rfl⟩ r5 ?assign ?body ?done
  case hI =>
   obtain ⟨o1,_,o3,_⟩:=hI
   cases k with
   | zero=>exact (o1:False).elim
   | succ k=>exact ⟨by rw [o3],o1.1,o1.2.1,o1.2.2.1⟩
  case assign =>
   intro l g m W K hK
   gi_wp2
   exact hK
  case body =>
   intro l g k S1 K1 v bs W hI r hbs hlt
   have hz:(w3.heap.size,Obj.cells #[.pointer (v.map fun g=>⟨qb g,0,none⟩)] 56 (0,0)) ∈ bs++((w3.heap.size+1+1,(.cells #[.func (.func 49) #[] #[]] 92 (0,0)))::(w3.heap.size+1,(.cells #[.pointer (some ⟨h,0,none⟩)] 25 (0,0)))::[(w3.heap.size,.cells #[.pointer (v.map fun g=>⟨qb g,0,none⟩)] 56 (0,0))]):=List.mem_append_right _ (by simp)
   obtain ⟨c0,cf⟩:=box_cells (r.kept hz)
   have HX:=Lib.hid (And.intro hI (And.intro r (And.intro hbs (And.intro hlt hz))))
   clear hI r hbs hlt hz
   refine atEndW_mono (R:=fun W3=>W3=W.setCell ⟨w3.heap.size,0,none⟩ (.pointer (some ⟨qb g,0,none⟩))) ?_ ?_
   ·
    gi_wp2
    rfl
   ·
    rintro W3 rfl
    obtain ⟨⟨o1,o2,o3,o4⟩,r,hbs,hlt,hz⟩:=HX.out
    refine ⟨(curN S1 g).1,K1,some g,r.setBox hz _ fun z hzz=>?_,fun z hzz=>?_,?_⟩
    ·
     rcases List.mem_append.1 hzz with hzz | hzz
     ·
      have:=hbs z hzz
      simp only [World.size_alloc] at this
      exact .inr ⟨List.mem_append_left _ hzz,by omega⟩
     ·
      rcases List.mem_cons.1 hzz with rfl | hzz
      · exact .inr ⟨List.mem_append_right _ (by simp),by first | (simp;done) | (simp;omega)⟩
      ·
       rcases List.mem_cons.1 hzz with rfl | hzz
       · exact .inr ⟨List.mem_append_right _ (by simp),by simp⟩
       ·
        rw [List.mem_singleton] at hzz
        subst hzz
        exact .inl rfl
    ·
     rcases List.mem_cons.1 hzz with rfl | hzz
     · simp
     ·
      rcases List.mem_cons.1 hzz with rfl | hzz
      · first | (simp;done) | (simp;omega)
      ·
       rw [List.mem_singleton] at hzz
       subst hzz
       first | (simp;done) | (simp;omega)
    ·
     cases k with
     | zero=>exact (o1:False).elim
     | succ k =>
      obtain ⟨⟨y,hy⟩,p1,p2,p3⟩:=o1
      have e1:(curN S1 g).2=y.q.cur:=by unfold curN;rw [hy]
      rw [e1] at p3 ⊢
      unfold lastG at o2
      rw [hy] at o2
      dsimp only at o2
      by_cases hc:y.q.cur<0∨y.q.cur % 2=0
      ·
       rw [if_pos hc] at o2 ⊢
       exact ⟨by rw [o2],o3,o4⟩
      ·
       rw [if_neg hc] at o2 ⊢
       rcases p3 with p3 | p3
       · exact absurd p3 hc
       · exact ⟨k,Nat.lt_succ_self _,p3,o2,o3,o4⟩
  case done =>
   rintro W2 S2 K2 v2 ⟨rfl,rfl,rfl⟩ r
   simp only [World.size_alloc] at r ⊢
   obtain ⟨c0,_⟩:=box_cells (r.kept (show (w3.heap.size,Obj.cells #[.pointer (some ⟨qb gl,0,none⟩)] 56 (0,0)) ∈ _ by simp))
   obtain ⟨_,_,_,⟨_,cg⟩,_⟩:=r.at_ HH.out.2.2.2.1
   have MY:Hid (∀ W,Below W2.heap.size W2 W→Calls Tryz.prog 70 #[.pointer (some ⟨qb gl,0,none⟩),.int .i64 S2.gran] W fun e w'=>e=.returned (.int .i64 (x.q.yieldI S2.gran))∧Hid (WRel w F h gb qb (S2.put gl (some { x with q:=yieldQ x.q S2.gran })) K2 [(w3.heap.size+1+1+1,.deferred (some []))] w')):=Lib.hid fun W hW=>by
    obtain ⟨_,_,_,_,Fi,hq,hQ⟩:=(r.below hW).at_ HH.out.2.2.2.1
    refine (qyield_any hq S2.gran HH.out.2.2.2.2.2.2.1 HH.out.2.2.2.2.2.2.2).mono fun e w' hp=>⟨hp.1,?_⟩
    obtain ⟨_,_,_,_,hM,_⟩:=hq.ex
    exact (hQ w' _ K2 _ hp.2.out (Int.le_refl _) hM.k2).less (fun z hz=>by
     rw [List.mem_singleton] at hz
     subst hz
     exact List.mem_cons_self)
   have HD:=Lib.hid (r.kept (List.mem_cons_self))
   have hmix:=mixed
   clear r
   gi_wp2
   refine (wpIn_wide (n:=2)).2 ?_
   apply wp_region_to (fun W=>Hid (WRel w F h gb qb (S2.put gl (some { x with q:=yieldQ x.q S2.gran })) K2 [(w3.heap.size+1+1+1,.deferred (some []))] W))
   case h =>
    go_region_with (go_at_call 70;refine (MY.out _ (by first | exact (Below.refl _ _).drew | exact Below.refl _ _)).mono ?_;rintro e w6 ⟨rfl,HY⟩)
    all_goals exact ⟨rfl,HY⟩
   rintro W6 HY6
   obtain ⟨F6,hA6,hN6⟩:=HY6.out.hat
   have MP:=Lib.hid (callsIn_wide (n:=1).2 (hpick_any hA6 n HH.out.2.2.2.2.1 HH.out.2.2.2.2.2.2.1 HH.out.2.2.2.2.2.2.2))
   have HN:=Lib.hid hN6
   clear hA6 hN6 c0 cg MY
   gi_wp2
   refine ⟨trivial,MP.out.mono ?_⟩
   rintro e w9 ⟨rfl,F9,hT9⟩
   obtain ⟨hT,hk⟩:=HN.out _ _ _ _ hT9.out
   obtain ⟨k1,k2,k3⟩:=hk _ (List.mem_singleton.2 rfl)
   have HT9:=Lib.hid (And.intro hT (And.intro k1 k2))
   have HD9:=Lib.hid k3
   clear hT hk k1 k2 k3 hT9
   gi_wp2
   refine ⟨by simp,.inl ⟨_,_,rfl,run_takeDeferred HD9.out,?_⟩⟩
   refine ⟨_,results_tmp rfl _ _ _,by rw [HH.out.2.2.2.2.2.1.2];rfl,F9,?_⟩
   rw [HH.out.2.2.2.2.2.1.1]
   exact HT9.out.1.beside (fun b hb=>World.putObj_heap_other (fun e=>HT9.out.2.1 (e ▸ hb))) (HT9.out.1.turns.putObj (.inr HT9.out.2.2) _)
end
end Go.Proofs.YtefekboacghnjaaGreat
