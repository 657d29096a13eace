/-
  runq.Queue: what is known between the turns of its map and of its tree.
  runq.Queue: Put.
  runq.Queue: Drop.
-/
import Derived.Test.YtefekboacghnjaaGreatMe
import Derived.StillTailTactics
namespace Go.Proofs.YtefekboacghnjaaGreat
open Go.RowKit Go.Maps
theorem MapP.len {w:World} {b n:Nat} {f:Int→Int} (h:MapP w b n f) (ty:TypeId):(Builtin.len_ #[93] ty #[.map (some b)]).run Tryz.prog w=.ok (.int .i64 n) w:=by
 obtain ⟨D,ho,hf,hh,hs⟩:=h
 rw [ho.len Tryz.underlying93 ty,hs]
section
variable {w w':World} {q bm bt:Nat} {S S' F F':List Nat} {g g':Int→Nat} {X X':QS} {K K':Int} {e e':En}
theorem QTurned.same (h:QAt w q F X K) (hb:Below w.heap.size w w') (hK:K≤K') (h2:K'≤1000000000000000):QTurned w F q X K' w' F:=⟨(h.below hb).mono hK h2,Turns.of_below hb,fun _ hb=>.inl hb⟩
structure PutMid (w:World) (q bm bt:Nat) (S:List Nat) (g:Int→Nat) (X:QS) (K:Int) (L':List En) (g':Int→Nat) (w2:World):Prop where
 blk:Blk w2 q (qcells bm bt X.cur X.mn (loadL X.L) X.over) 97
 map:MapP w2 bm L'.length (place L' g')
 ents:∀ x,x ∈ L'→Blk w2 (g' x.id) (ecells x) 34
 tree:TreeAt w2 bt S (ksOf X.L) K
 turns:Turns (qblocks q bm S g X) w w2
 sub:∀ x,x ∈ L'→g' x.id ∈ qblocks q bm S g X∨w.heap.size≤g' x.id
theorem PutMid.below {L':List En} {w2 w3:World} (h:PutMid w q bm bt S g X K L' g' w2) (hb:Below w2.heap.size w2 w3):PutMid w q bm bt S g X K L' g' w3 :=
 ⟨h.blk.below hb h.blk.lt,h.map.of (hb.block _ h.map.lt),fun x hx=>(h.ents x hx).below hb (h.ents x hx).lt,h.tree.below hb,h.turns.below hb h.turns.size,h.sub⟩
structure PutTree (w:World) (q bm bt:Nat) (S:List Nat) (g:Int→Nat) (X:QS) (K:Int) (L':List En) (g':Int→Nat) (K':Int) (w5:World):Prop where
 ex:∃ w2 S',PutMid w q bm bt S g X K L' g' w2∧TreeTurned w2 S bt (ksOf L') K' w5 S'∧Blk w5 q (qcells bm bt X.cur X.mn (loadL X.L) X.over) 97∧∀ b cs,Blk w2 b cs 34→cs.size=4→Blk w5 b cs 34
theorem PutMid.tree_turn {L':List En} {w2 w5:World} (h:PutMid w q bm bt S g X K L' g' w2) (hT:TreeTurned w2 S bt (ksOf L') K' w5 S') (hk:K'≤K+1000):PutTree w q bm bt S g X K L' g' (K+1000) w5 :=
 ⟨w2,S',h,⟨hT.at_.mono hk,hT.turns,hT.sub⟩,h.blk.turns hT.turns (h.tree.not h.blk (by simp) (by simp)),fun b cs hb hs=>hb.turns hT.turns (h.tree.not hb (by omega) (by omega))⟩
theorem PutMid.done {L':List En} {w2 w5 w6:World} (h:PutMid w q bm bt S g X K L' g' w2) (hT:TreeTurned w2 S bt (ksOf L') K' w5 S') (hX:X'.L=L') (hok:X'.ok) (hk:1≤K') (hk2:K'≤1000000000000000)
  (hq:Blk w6 q (qcells bm bt X'.cur X'.mn (loadL X'.L) X'.over) 97) (h6:∀ b,b ∈ qblocks q bm S' g' X'→b≠q→w6.heap[b]?=w5.heap[b]?) (ht:Turns (qblocks q bm S g X) w w6) :
  QTurned w (qblocks q bm S g X) q X' K' w6 (qblocks q bm S' g' X'):=by
 have hqS:q ∉ S:=h.tree.not h.blk (by simp) (by simp)
 have hq5:=h.blk.turns hT.turns hqS
 have hqS':q ∉ S':=hT.at_.not hq5 (by simp) (by simp)
 have hbm:bm ∉ S:=h.tree.not_map h.map
 have hbq:bm≠q:=h.map.not_blk h.blk
 have hm5:MapP w5 bm L'.length (place L' g'):=h.map.of (hT.turns.block _ h.map.lt hbm)
 have sz:w.heap.size≤w2.heap.size:=h.turns.size
 have szz:=hT.turns.size
 refine ⟨⟨bm,bt,S',g',⟨hq,?_,fun x hx=>?_,?_,hok,hk,hk2⟩,rfl⟩,?_,fun b hb=>?_⟩
 · rw [hX];exact hm5.of (h6 _ (by simp [qblocks]) hbq)
 ·
  rw [hX] at hx
  have he:=h.ents x hx
  have heq:g' x.id≠q:=Blk.apart he h.blk (by simp)
  exact (he.turns hT.turns (h.tree.not he (by simp) (by simp))).of (h6 _ (by
   simp only [qblocks,List.mem_cons,List.mem_append,List.mem_map]
   exact .inr (.inr (.inr ⟨x,by rw [hX];exact hx,rfl⟩))) heq)
 ·
  rw [hX]
  exact hT.at_.of fun b hb=>h6 b (by simp [qblocks,hb]) (fun e=>hqS' (e ▸ hb))
 · exact ht
 ·
  simp only [qblocks,List.mem_cons,List.mem_append,List.mem_map] at hb
  rcases hb with rfl | rfl | hb | ⟨x,hx,rfl⟩
  · exact .inl (by simp [qblocks])
  · exact .inl (by simp [qblocks])
  ·
   rcases hT.sub b hb with e | e
   · exact .inl (by simp [qblocks,e])
   · exact .inr (by omega)
  ·
   rw [hX] at hx
   exact h.sub x hx
theorem QMem.put_mid (h:QMem w q bm bt S g X K) {D:DataW Unit} {W0 w2:World} (hW:Below w.heap.size w W0) {ge:Nat} (hge:w.heap.size≤ge) (hbox:Blk W0 ge (ecells e) 34) (hn:e.id ∉ X.L.map (·.id))
  (ho:W0.ownsMap Tryz.prog 3 readP bm X.L.length D) (hf:∀ k,D.atKey (.int .i64 k) (.lit (.int .i64 (-1)))=.lit (.int .i64 (place X.L g k))) (hh:∀ k,has D (.int .i64 k)=decide (place X.L g k ≠ -1)) (hs:size D=X.L.length)
  (ho2:w2.ownsMap Tryz.prog 3 readP bm (X.L.length+1) (D.put (.int .i64 e.id) (.lit (.int .i64 (ge:Int))))) (hg:W0.grownBy w2 (some bm)) :
  PutMid w q bm bt S g X K (X.L++[e]) (fun i=>if i=e.id then ge else g i) w2:=by
 have h0:=h.below hW
 obtain ⟨a1,a2,a3,a4,a5⟩:=h.apart
 have hbl:=fun b (hb:b<W0.heap.size) (hne:b≠bm)=>hg.block b hb (by intro e;injection e with e;exact hne e)
 have hmge:ge≠bm:=by have:=h.map.lt;omega
 refine ⟨h0.blk.of (hbl q h0.blk.lt (Ne.symm a1)),?_,fun x hx=>?_,h0.tree.of (fun b hb=>hbl b (h0.tree.lt b hb) (fun e=>a3 (e ▸ hb))),?_,fun x hx=>?_⟩
 ·
  rw [place_add,List.length_append]
  exact MapP.put ho hf hh hs (place_out hn) ho2
 ·
  rcases List.mem_append.1 hx with hx | hx
  ·
   have hne:x.id≠e.id:=fun hc=>hn (List.mem_map.2 ⟨x,hx,hc⟩)
   show Blk w2 (if x.id=e.id then ge else g x.id) _ _
   rw [if_neg hne]
   exact (h0.ents x hx).of (hbl _ (h0.ents x hx).lt (a4 x hx).2.1)
  ·
   rw [List.mem_singleton.1 hx]
   show Blk w2 (if e.id=e.id then ge else g e.id) _ _
   rw [if_pos rfl]
   exact hbox.of (hbl _ hbox.lt hmge)
 · exact (Turns.of_below hW).then (Turns.of_grown hg) (fun x hx _=>by rw [List.mem_singleton.1 hx];simp [qblocks])
 ·
  rcases List.mem_append.1 hx with hx | hx
  ·
   have hne:x.id≠e.id:=fun hc=>hn (List.mem_map.2 ⟨x,hx,hc⟩)
   show (if x.id=e.id then ge else g x.id) ∈ _∨_
   rw [if_neg hne]
   refine .inl ?_
   simp only [qblocks,List.mem_cons,List.mem_append,List.mem_map]
   exact .inr (.inr (.inr ⟨x,hx,rfl⟩))
  ·
   rw [List.mem_singleton.1 hx]
   refine .inr ?_
   show _≤(if e.id=e.id then ge else g e.id)
   rw [if_pos rfl]
   exact hge
theorem QMem.drop_mid (h:QMem w q bm bt S g X K) {D:DataW Unit} {W0 w2:World} (hW:Below w.heap.size w W0) (he:e ∈ X.L)
  (ho:W0.ownsMap Tryz.prog 3 readP bm ((lessL X.L e.id).length+1) D) (hf:∀ k,D.atKey (.int .i64 k) (.lit (.int .i64 (-1)))=.lit (.int .i64 (place X.L g k))) (hh:∀ k,has D (.int .i64 k)=decide (place X.L g k ≠ -1)) (hs:size D=(lessL X.L e.id).length+1)
  (ho2:w2.ownsMap Tryz.prog 3 readP bm ((lessL X.L e.id).length+1) (D.del (.int .i64 e.id))) (hg:W0.grownBy w2 (some bm)) :
  PutMid w q bm bt S g X K (lessL X.L e.id) g w2:=by
 have h0:=h.below hW
 obtain ⟨a1,a2,a3,a4,a5⟩:=h.apart
 have hbl:=fun b (hb:b<W0.heap.size) (hne:b≠bm)=>hg.block b hb (by intro e;injection e with e;exact hne e)
 refine ⟨h0.blk.of (hbl q h0.blk.lt (Ne.symm a1)),?_,fun x hx=>?_,h0.tree.of (fun b hb=>hbl b (h0.tree.lt b hb) (fun e=>a3 (e ▸ hb))),?_,fun x hx=>?_⟩
 ·
  rw [place_less]
  exact MapP.del ho hf hh hs (by rw [place_in he];omega) ho2
 ·
  have hx:=(lessL_mem.1 hx).1
  exact (h0.ents x hx).of (hbl _ (h0.ents x hx).lt (a4 x hx).2.1)
 · exact (Turns.of_below hW).then (Turns.of_grown hg) (fun x hx _=>by rw [List.mem_singleton.1 hx];simp [qblocks])
 ·
  refine .inl ?_
  simp only [qblocks,List.mem_cons,List.mem_append,List.mem_map]
  exact .inr (.inr (.inr ⟨x,(lessL_mem.1 hx).1,rfl⟩))
theorem PutTree.done {L':List En} {w5 w6:World} (h:PutTree w q bm bt S g X K L' g' K' w5) (hX:X'.L=L') (hok:X'.ok) (hk:1≤K') (hk2:K'≤1000000000000000)
  (hq:Blk w6 q (qcells bm bt X'.cur X'.mn (loadL X'.L) X'.over) 97) (h6:∀ b,b≠q→w6.heap[b]?=w5.heap[b]?) (ht:Turns [q] w5 w6) :
  ∃ F',QTurned w (qblocks q bm S g X) q X' K' w6 F':=by
 obtain ⟨w2,S',hm,hT,_⟩:=h.ex
 exact ⟨_,hm.done hT hX hok hk hk2 hq (fun b _ hb=>h6 b hb) ((hm.turns.then hT.turns (fun x hx _=>by simp [qblocks,hx])).then ht (fun x hx _=>by
  rw [List.mem_singleton] at hx
  subst hx
  simp [qblocks]))⟩
theorem PutTree.done2 {L':List En} {w5 w6:World} {r:Nat} {e0:En} (h:PutTree w q bm bt S g X K L' g' K' w5) (hX:X'.L=L') (hok:X'.ok) (hk:1≤K') (hk2:K'≤1000000000000000)
  (hq:Blk w6 q (qcells bm bt X'.cur X'.mn (loadL X'.L) X'.over) 97) (h6:∀ b,b≠q→b≠r→w6.heap[b]?=w5.heap[b]?) (ht:Turns [q,r] w5 w6) (hr:w.heap.size≤r) (hrb:Blk w5 r (ecells e0) 34) (hg:∀ x,x ∈ L'→g' x.id≠r) :
  ∃ F',QTurned w (qblocks q bm S g X) q X' K' w6 F'∧r ∉ F':=by
 obtain ⟨w2,S',hm,hT,h5,_⟩:=h.ex
 have hbm:bm<w2.heap.size:=hm.map.lt
 have hm5:MapP w5 bm L'.length (place L' g'):=hm.map.of (hT.turns.block _ hm.map.lt (hm.tree.not_map hm.map))
 have hne:∀ b,b ∈ qblocks q bm S' g' X'→b≠r:=by
  intro b hb
  simp only [qblocks,List.mem_cons,List.mem_append,List.mem_map] at hb
  rcases hb with rfl | rfl | hb | ⟨x,hx,rfl⟩
  · exact Blk.apart h5 hrb (by simp)
  · exact hm5.not_blk hrb
  · exact fun e=>hT.at_.not hrb (by simp) (by simp) (e ▸ hb)
  · exact hg x (by rw [← hX];exact hx)
 exact ⟨_,hm.done hT hX hok hk hk2 hq (fun b hm hb=>h6 b hb (hne b hm)) ((hm.turns.then hT.turns (fun x hx _=>by simp [qblocks,hx])).then ht (fun x hx hlt=>by
  simp only [List.mem_cons,List.mem_nil_iff,or_false] at hx
  rcases hx with rfl | rfl
  · simp [qblocks]
  · omega)),fun hm=>hne r hm rfl⟩
end
end Go.Proofs.YtefekboacghnjaaGreat
namespace Go.Proofs.YtefekboacghnjaaGreat
open Go.RowKit Go.Maps
set_option maxRecDepth 100000 in
set_option maxHeartbeats 16000000 in
theorem qput_any {w:World} {q:Nat} {F:List Nat} {X:QS} {K:Int} (h:QAt w q F X K) (hK:K+1000≤1000000000000000) (e:En) (i1:-9223372036854775808≤e.id) (i2:e.id≤9223372036854775807) (v1:-9223372036854775808≤e.v) (v2:e.v≤9223372036854775807) (w2:e.wt<18446744073709551616) (r2:e.rem<18446744073709551616) :
  Calls Tryz.prog 43 #[.pointer (some ⟨q,0,none⟩),enV e] w fun r w'=>∃ F',r=.returned (.int .i64 (putC X e))∧Hid (QTurned w F q (putQ X e) (K+1000) w' F'):=by
 obtain ⟨W1,hW1⟩:∃ W1,W1=w.alloc (.cells (ecells e) 34):=⟨_,rfl⟩
 have hb1:Below w.heap.size w W1:=by rw [hW1];exact (Below.refl _ _).alloc (Nat.le_refl _) _
 have hBx:Blk W1 w.heap.size (ecells e) 34:=by rw [hW1];exact Blk.new _ _ _
 have hk1:1≤K:=by
  obtain ⟨bm,bt,S,g,hM,_⟩:=h.ex
  exact hM.k1
 have HS:=Lib.hid (QTurned.same h hb1 (show K≤K+1000 by omega) hK)
 have HSD:=Lib.hid fun n=>QTurned.same h (below_drewN hb1 n) (show K≤K+1000 by omega) hK
 have HW1:=Lib.hid hW1
 have MM:=Lib.hid fun W=>qmay_any e.wt w2 W
 by_cases k1:e.id<0
 ·
  have hp:putC X e=1:=if_pos k1
  have hq:putQ X e=X:=by unfold putQ;rw [hp];rfl
  have z1:decide (e.id<0)=true:=decide_eq_true k1
  rw [hp,hq]
  clear h hb1 hBx hW1 hp hq
  go_enter_defers Tryz.func43,Tryz.ntmps43
  go_wp2_with fail
  rw [← HW1.out]
  exact ⟨_,results_tmp rfl _ _ _,_,rfl,HS.out⟩
 by_cases k2:e.wt<2∨262144<e.wt
 ·
  have hp:putC X e=4:=by unfold putC;rw [if_neg k1,if_pos k2]
  have hq:putQ X e=X:=by unfold putQ;rw [hp];rfl
  have z1:decide (e.id<0)=false:=decide_eq_false k1
  rw [show decide (2≤e.wt∧e.wt≤262144)=false from decide_eq_false (by omega)] at MM
  rw [hp,hq]
  clear h hb1 hBx hW1 hp hq
  go_enter_defers Tryz.func43,Tryz.ntmps43
  go_wp2_with (go_at_call 79;refine (MM.out _).mono ?_;rintro r w2 ⟨rfl,rfl⟩)
  rw [← HW1.out]
  exact ⟨_,results_tmp rfl _ _ _,_,rfl,HS.out⟩
 rw [show decide (2≤e.wt∧e.wt≤262144)=true from decide_eq_true (by omega)] at MM
 have z1:decide (e.id<0)=false:=decide_eq_false k1
 by_cases k3:e.wt≤e.rem
 ·
  have hp:putC X e=1:=by unfold putC;rw [if_neg k1,if_neg k2,if_pos k3]
  have hq:putQ X e=X:=by unfold putQ;rw [hp];rfl
  have z2:decide ((e.wt:Int)≤(e.rem:Int))=true:=decide_eq_true (by omega)
  have z3:decide (e.wt≤e.rem)=true:=decide_eq_true k3
  rw [hp,hq]
  clear h hb1 hBx hW1 hp hq
  go_enter_defers Tryz.func43,Tryz.ntmps43
  go_wp2_with (go_at_call 79;refine (MM.out _).mono ?_;rintro r w2 ⟨rfl,rfl⟩)
  rw [← HW1.out]
  exact ⟨_,results_tmp rfl _ _ _,_,rfl,HS.out⟩
 have z2:decide ((e.wt:Int)≤(e.rem:Int))=false:=decide_eq_false (by omega)
 have z3:decide (e.wt≤e.rem)=false:=decide_eq_false k3
 obtain ⟨bm,bt,S,g,hM,rfl⟩:=h.ex
 have hM1:=hM.below hb1
 obtain ⟨c0,c1,c2,c3,c4,c5,cf⟩:=hM1.cells
 have hl:=fun n=>hM.look (below_drewN hb1 n) e.id i1 i2
 have b0:W1.cell? ⟨w.heap.size,0,none⟩=some (.int .i64 e.id):=Blk.cell hBx 0
 have b1:W1.cell? ⟨w.heap.size,1,none⟩=some (.int .u64 e.wt):=Blk.cell hBx 1
 by_cases k4:e.id ∈ X.L.map (·.id)
 ·
  have hp:putC X e=6:=by unfold putC;rw [if_neg k1,if_neg k2,if_neg k3,if_pos k4]
  have hq:putQ X e=X:=by unfold putQ;rw [hp];rfl
  obtain ⟨y,hy⟩:∃ y,X.get e.id=some y:=by
   cases hg:X.get e.id with
   | none=>exact absurd k4 (QS.get_none hg)
   | some y=>exact ⟨y,rfl⟩
  rw [hy] at hl
  rw [hp,hq]
  clear h hb1 hBx hW1 hp hq hM hM1 hy k4
  go_enter_defers Tryz.func43,Tryz.ntmps43
  go_wp2_with (go_at_call 79;refine (MM.out _).mono ?_;rintro r w2 ⟨rfl,rfl⟩)
  rw [← HW1.out]
  go_big_quiet (fail)
  go_wp2_with fail
  exact ⟨_,results_tmp rfl _ _ _,_,rfl,HSD.out _⟩
 have hy:X.get e.id=none:=by
  cases hg:X.get e.id with
  | none=>rfl
  | some y=>exact absurd (List.mem_map.2 ⟨y,(QS.get_some hg).1,(QS.get_some hg).2⟩) k4
 rw [hy] at hl
 have hlen:=fun n ty=>(hM.below (below_drewN hb1 n)).map.len ty
 have HLE:=Lib.hid hM.ok.len
 by_cases k5:X.L.length=128
 ·
  have hp:putC X e=3:=by unfold putC;rw [if_neg k1,if_neg k2,if_neg k3,if_neg k4,if_pos k5]
  have hq:putQ X e=X:=by unfold putQ;rw [hp];rfl
  rw [k5] at hlen
  rw [hp,hq]
  clear h hb1 hBx hW1 hp hq hM hM1 hy k4
  go_enter_defers Tryz.func43,Tryz.ntmps43
  go_wp2_with (go_at_call 79;refine (MM.out _).mono ?_;rintro r w2 ⟨rfl,rfl⟩)
  rw [← HW1.out]
  go_big_quiet (fail)
  go_wp2_with fail
  exact ⟨_,results_tmp rfl _ _ _,_,rfl,HSD.out _⟩
 have hp:putC X e=0:=by unfold putC;rw [if_neg k1,if_neg k2,if_neg k3,if_neg k4,if_neg k5]
 have hq:putQ X e=(X.add e).raise:=if_pos hp
 have z5:decide ((X.L.length:Int)=128)=false:=decide_eq_false (by omega)
 have z6:decide (X.L.length=128)=false:=decide_eq_false k5
 rw [hp,hq]
 have HM:=Lib.hid hM
 have HB1:=Lib.hid hb1
 have HBX:=Lib.hid hBx
 have HK4:=Lib.hid k4
 obtain ⟨D,ho,hf,hh,hs⟩:=hM1.map
 have HD:=Lib.hid (And.intro hf (And.intro hh hs))
 have hkey:=key64 (wf64 i1 i2)
 clear hW1 hp hq hM1 hy h hb1 hBx k4 hM hf hh hs
 go_enter_defers Tryz.func43,Tryz.ntmps43
 go_wp2_with (go_at_call 79;refine (MM.out _).mono ?_;rintro r w2 ⟨rfl,rfl⟩)
 rw [← HW1.out]
 go_big_quiet (fail)
 go_wp2_with fail
 refine wp_world (fun W=>Hid (Below w.heap.size w W∧Blk W w.heap.size (ecells e) 34)∧W.cell? ⟨q,0,none⟩=some (.map (some bm))∧W.cell? ⟨w.heap.size,0,none⟩=some (.int .i64 e.id)∧W.drew.ownsMap Tryz.prog 3 readP bm X.L.length D) ⟨⟨below_drewN HB1.out nq,HBX.out.of rfl⟩,c0,b0,ho⟩ ?_
 clear c0 c1 c2 c3 c4 c5 cf b0 b1 hl hlen ho
 rintro W2 ⟨HB2,c0,b0,ho⟩
 go_still_tail 6,(by kernel_rfl)
 change wpList _ _ _ _ _ (W2.drew)
 go_wp2_with (at_mapUpdate;refine wpList_mapUpdate_own _ rfl _ _ _ 93 rfl 3 120 lawI Tryz.underlying93 _ bm X.L.length D rfl ho (by have:=HLE.out;unfold maxLen;omega) _ _ _ rfl rfl hkey (.lit (.int .i64 (w.heap.size:Nat))) [] rfl ?_;intro w2 ho2 hg2)
 obtain ⟨hf,hh,hs⟩:=HD.out
 have P2:=HM.out.put_mid HB2.out.1.drew (Nat.le_refl _) (HB2.out.2.of rfl) HK4.out ho hf hh hs ho2 hg2
 obtain ⟨ld,hld⟩:∃ ld,ld=loadL X.L:=⟨_,rfl⟩
 have hldb:=HM.out.ok.load
 have q1:w2.cell? ⟨q,1,none⟩=some (.pointer (some ⟨bt,0,none⟩)):=Blk.cell P2.blk 1
 have HP2:=Lib.hid P2
 have hmem:e ∈ X.L++[e]:=by simp
 have hbx:=P2.ents e hmem
 have hgg:(if e.id=e.id then w.heap.size else g e.id)=w.heap.size:=if_pos rfl
 replace hbx:Blk w2 w.heap.size (ecells e) 34:=by
  have:=hbx
  rw [hgg] at this
  exact this
 have MK:=Lib.hid fun W (hW:Below w2.heap.size w2 W)=>(qkey_any w.heap.size e W (hbx.below hW hbx.lt)).mono (R':=fun r w'=>r=.returned (keyV e.key)∧w'.cell? ⟨q,1,none⟩=some (.pointer (some ⟨bt,0,none⟩))∧Hid (Below w2.heap.size w2 w')) fun r w' hp=>by
  have hB:=hW.trans (hp.2.mono hW.size)
  exact ⟨hp.1,Blk.cell (P2.below hB).blk 1,hB⟩
 have hkl:(ksOf X.L).length≤128:=Nat.le_trans (ksOf_len _) HLE.out
 have MI:=Lib.hid fun W (hW:Below w2.heap.size w2 W)=>(insert_any bt S (ksOf X.L) K e.v e.id W (P2.below hW).tree hk1 (by omega)).mono (R':=fun r w5=>∃ bb,r=.returned (.bool bb)∧(w5.cell? ⟨q,4,none⟩=some (.int .u64 (ld:Nat))∧w5.frozen? ⟨q,4,none⟩=false∧w5.cell? ⟨w.heap.size,1,none⟩=some (.int .u64 e.wt))∧Hid (PutTree w q bm bt S g X K (X.L++[e]) (fun i=>if i=e.id then w.heap.size else g i) (K+1000) w5)) fun r w5 hp=>by
  obtain ⟨S',hr,hT⟩:=hp
  have hT':TreeTurned W S bt (ksOf (X.L++[e])) (K+(ksOf X.L).length+1) w5 S':=by rw [ksOf_snoc];exact hT
  have PT:=(P2.below hW).tree_turn hT' (by omega)
  have hq5:=(P2.below hW).blk.turns hT.turns ((P2.below hW).tree.not (P2.below hW).blk (by simp) (by simp))
  have hx:=hbx.below hW hbx.lt
  have hx5:=hx.turns hT.turns ((P2.below hW).tree.not hx (by simp) (by simp))
  exact ⟨_,hr,⟨by rw [hld];exact Blk.cell hq5 4,Blk.frozen hq5 4,Blk.cell hx5 1⟩,PT⟩
 have HLD:=Lib.hid (And.intro hld hldb)
 have hz2:=Nat.le_refl w2.heap.size
 clear hf hh hs P2 hld hldb hmem hbx hgg ho ho2 hg2 c0 b0 hkl HB2 HD MM hkey
 refine wp_region_noPanic ?_
 go_region_with (first | (go_at_call 82;refine (MK.out _ (by first | exact (Below.refl _ _).drew | exact Below.refl _ _)).mono ?_;rintro r w3 ⟨rfl,x1,HB3⟩) | (go_at_call 81;refine (MI.out _ (by first | exact HB3.out | exact HB3.out.drew)).mono ?_;rintro r w5 ⟨bb,rfl,⟨y4,y5,y6⟩,HT⟩))
 all_goals
  refine NoPanic.normal ?_
  have e1:IntKind.u64.wrap ((ld:Int)+(e.wt:Int))=((ld+e.wt:Nat):Int):=by
   have:=HLD.out
   rw [IntKind.wrap_u64]
   omega
  go_wp2_with fail
  go_still_tail 9,(by kernel_rfl)
  change wpList _ _ _ _ _ (w5.drew)
  go_wp2_with fail
  obtain ⟨F',hT⟩:∃ F',QTurned w (qblocks q bm S g X) q (X.add e) (K+1000) (w5.drew.setCell ⟨q,4,none⟩ (.int .u64 ((ld+e.wt:Nat):Int))) F':=by
   have hz:=putC_ok (X:=X) (e:=e) i2 ⟨v1,v2⟩ (by
    unfold putC
    rw [if_neg (by omega),if_neg k2,if_neg k3,if_neg HK4.out,if_neg k5])
   have hok:=HM.out.ok.add hz.1 hz.2.1 (by have:=HLE.out;omega)
   obtain ⟨wm,Sm,hmid,htt,hq5,_⟩:=HT.out.ex
   refine HT.out.done (X':=X.add e) rfl hok (by omega) hK ?_ (fun b hb=>Below.heap_setCell _ _ _ _ hb) (((Turns.refl _ _).drew).setCell (.inl (by simp)) _)
   have hl2:loadL (X.add e).L=ld+e.wt:=by
    show loadL (X.L++[e])=_
    rw [loadL_append,HLD.out.1]
    rfl
   rw [hl2]
   have hq6:Blk w5.drew q (qcells bm bt X.cur X.mn ld X.over) 97:=by rw [HLD.out.1];exact hq5.of rfl
   exact Blk.set hq6 4 _
  refine leaves_cons (f:=80) (args:=#[.pointer (some ⟨q,0,none⟩)]) (by simp) (by simp [go_sem]) ?_
  refine (raise_d _ hT.at_).mono ?_
  rintro r u' w6 ⟨rfl,rfl,hR⟩
  exact ⟨_,results_tmp rfl _ _ _,_,rfl,hT.trans hR.out⟩
end Go.Proofs.YtefekboacghnjaaGreat
namespace Go.Proofs.YtefekboacghnjaaGreat
open Go.RowKit Go.Maps
abbrev zeroE:Array Value:=#[.int .i64 0,.int .u64 0,.int .i64 0,.int .u64 0]
def dropV:Option En→Value
 | none=>.tuple #[.agg zeroE,.int .i64 12]
 | some e=>.tuple #[enV e,.int .i64 0]
theorem ownsMap_of {w w':World} {b n:Nat} {D:DataW Unit} (h:w.ownsMap Tryz.prog 3 readP b n D) (e:w'.heap[b]?=w.heap[b]?):w'.ownsMap Tryz.prog 3 readP b n D:=by
 obtain ⟨es,clock,hb,r⟩:=h
 exact ⟨es,clock,e.trans hb,r⟩
theorem set4_facts (W:World) (r:Nat) (e e0:En) (w6:World) (h6:w6=((((W.setCell ⟨r,0,none⟩ (.int .i64 e.id)).setCell ⟨r,1,none⟩ (.int .u64 e.wt)).setCell ⟨r,2,none⟩ (.int .i64 e.v)).setCell ⟨r,3,none⟩ (.int .u64 e.rem)).drew) (h:Blk W r (ecells e0) 34) :
  Blk w6 r (ecells e) 34∧(∀ b,b≠r→w6.heap[b]?=W.heap[b]?)∧∀ S w,Turns S w W→r ∈ S→Turns S w w6:=by
 subst h6
 refine ⟨?_,fun b hb=>?_,fun S w hT hr=>?_⟩
 ·
  have h1:=Blk.set h 0 (.int .i64 e.id)
  have h2:=Blk.set h1 1 (.int .u64 e.wt)
  have h3:=Blk.set h2 2 (.int .i64 e.v)
  exact Blk.set h3 3 (.int .u64 e.rem)
 ·
  have h1:=Below.heap_setCell W ⟨r,0,none⟩ (.int .i64 e.id) b hb
  have h2:=Below.heap_setCell (W.setCell ⟨r,0,none⟩ (.int .i64 e.id)) ⟨r,1,none⟩ (.int .u64 e.wt) b hb
  have h3:=Below.heap_setCell ((W.setCell ⟨r,0,none⟩ (.int .i64 e.id)).setCell ⟨r,1,none⟩ (.int .u64 e.wt)) ⟨r,2,none⟩ (.int .i64 e.v) b hb
  have h4:=Below.heap_setCell (((W.setCell ⟨r,0,none⟩ (.int .i64 e.id)).setCell ⟨r,1,none⟩ (.int .u64 e.wt)).setCell ⟨r,2,none⟩ (.int .i64 e.v)) ⟨r,3,none⟩ (.int .u64 e.rem) b hb
  exact h4.trans (h3.trans (h2.trans h1))
 ·
  have t1:=hT.setCell (p:=⟨r,0,none⟩) (.inl hr) (.int .i64 e.id)
  have t2:=t1.setCell (p:=⟨r,1,none⟩) (.inl hr) (.int .u64 e.wt)
  have t3:=t2.setCell (p:=⟨r,2,none⟩) (.inl hr) (.int .i64 e.v)
  exact (t3.setCell (p:=⟨r,3,none⟩) (.inl hr) (.int .u64 e.rem)).drew
set_option maxRecDepth 100000 in
set_option maxHeartbeats 16000000 in
theorem qdrop_any {w:World} {q:Nat} {F:List Nat} {X:QS} {K:Int} (h:QAt w q F X K) (hK:K+1000≤1000000000000000) (i:Int) (i1:-9223372036854775808≤i) (i2:i≤9223372036854775807) :
  Calls Tryz.prog 65 #[.pointer (some ⟨q,0,none⟩),.int .i64 i] w fun r w'=>∃ F',r=.returned (dropV (X.get i))∧Hid (QTurned w F q (dropQ X i) (K+1000) w' F'):=by
 obtain ⟨bm,bt,S,g,hM,rfl⟩:=h.ex
 have hk1:=hM.k1
 have hb1:Below w.heap.size w (w.alloc (.cells zeroE 34)):=(Below.refl _ _).alloc (Nat.le_refl _) _
 have hl:=hM.look hb1 i i1 i2
 obtain ⟨c0,c1,c2,c3,c4,c5,cf⟩:=hM.cells
 have hqlt:q<w.heap.size:=hM.blk.lt
 cases hg:X.get i with
 | none =>
  have hq:dropQ X i=X:=if_neg (QS.get_none hg)
  rw [hg] at hl
  rw [hq]
  have H:=Lib.hid h
  clear hM hg hq h hb1
  go_enter_defers Tryz.func65,Tryz.ntmps65
  go_wp2_with fail
  refine ⟨.tuple #[.agg zeroE,.int .i64 12],by simp [results,Tryz.results65,go_sem],rfl,_,QTurned.same H.out ((Below.refl _ _).alloc (Nat.le_refl _) _) (by omega) hK⟩
 | some e =>
  obtain ⟨he,rfl⟩:=QS.get_some hg
  have hq:dropQ X e.id=(X.drop e.id).raise:=if_pos (List.mem_map.2 ⟨e,he,rfl⟩)
  rw [hg] at hl
  rw [hq]
  have hBe:=hM.ents e he
  have helt:=hBe.lt
  have y0:w.cell? ⟨g e.id,0,none⟩=some (.int .i64 e.id):=Blk.cell hBe 0
  have y1:w.cell? ⟨g e.id,1,none⟩=some (.int .u64 e.wt):=Blk.cell hBe 1
  have y2:w.cell? ⟨g e.id,2,none⟩=some (.int .i64 e.v):=Blk.cell hBe 2
  have y3:w.cell? ⟨g e.id,3,none⟩=some (.int .u64 e.rem):=Blk.cell hBe 3
  obtain ⟨D,ho,hf,hh,hs⟩:=hM.map
  have hln:=len_less hM.ok.ids he
  rw [hln] at hs ho
  have HD:=Lib.hid (And.intro hf (And.intro hh hs))
  have hbl:=hM.map.lt
  have HM:=Lib.hid hM
  have HE:=Lib.hid he
  have hkey:=key64 (wf64 i1 i2)
  clear hM hg hq h hb1 hf hh hs he hBe hln
  go_enter_defers Tryz.func65,Tryz.ntmps65
  go_wp2_with (at_delete;refine wpList_delete_own _ rfl _ _ 93 3 rfl 120 lawI Tryz.underlying93 _ bm ((lessL X.L e.id).length+1) D rfl (ownsMap_of ho (((Below.refl _ _).alloc (Nat.le_refl _) _ |>.alloc (Nat.le_of_lt (by simp)) _).block bm hbl)) _ _ rfl hkey ?_;intro w2 ho2 hg2)
  obtain ⟨hf,hh,hs⟩:=HD.out
  have hW0:Below w.heap.size w ((w.alloc (.cells zeroE 34)).alloc (.cells (ecells e) 34)):=((Below.refl _ _).alloc (Nat.le_refl _) _).alloc (by simp) _
  have P2:=HM.out.drop_mid hW0 HE.out (ownsMap_of ho (hW0.block bm hbl)) hf hh hs ho2 hg2.grown
  obtain ⟨ld,hld⟩:∃ ld,ld=loadL X.L:=⟨_,rfl⟩
  have hldb:=HM.out.ok.load
  have hlds:=load_less HM.out.ok.ids HE.out
  have q1:w2.cell? ⟨q,1,none⟩=some (.pointer (some ⟨bt,0,none⟩)):=Blk.cell P2.blk 1
  have hmb:bm≠w.heap.size+1∧bm≠w.heap.size:=by omega
  have hbx:Blk w2 (w.heap.size+1) (ecells e) 34:=by
   have h1:=Blk.new (w.alloc (.cells zeroE 34)) (ecells e) 34
   rw [World.size_alloc] at h1
   exact h1.of (hg2.grown.block _ (by simp) (by intro e;injection e with e;omega))
  have hrx:Blk w2 w.heap.size zeroE 34:=by
   have h1:=(Blk.new w zeroE 34).alloc (.cells (ecells e) 34)
   exact h1.of (hg2.grown.block _ (by simp;omega) (by intro e;injection e with e;omega))
  have MK:=Lib.hid fun W (hW:Below w2.heap.size w2 W)=>(qkey_any (w.heap.size+1) e W (hbx.below hW hbx.lt)).mono (R':=fun r w'=>r=.returned (keyV e.key)∧w'.cell? ⟨q,1,none⟩=some (.pointer (some ⟨bt,0,none⟩))∧Hid (Below w2.heap.size w2 w')) fun r w' hp=>by
   have hB:=hW.trans (hp.2.mono hW.size)
   exact ⟨hp.1,Blk.cell (P2.below hB).blk 1,hB⟩
  have hkl:(ksOf X.L).length≤128:=Nat.le_trans (ksOf_len _) HM.out.ok.len
  obtain ⟨cu,hcu⟩:∃ cu,cu=X.cur:=⟨_,rfl⟩
  have MI:=Lib.hid fun W (hW:Below w2.heap.size w2 W)=>(delete_any bt S (ksOf X.L) K e.v e.id W (P2.below hW).tree hk1 (by omega)).mono (R':=fun r w5=>∃ bb,r=.returned (.bool bb)∧(w5.cell? ⟨q,4,none⟩=some (.int .u64 (ld:Nat))∧w5.cell? ⟨q,2,none⟩=some (.int .i64 cu)∧(∀ j,w5.frozen? ⟨q,j,none⟩=false)∧w5.cell? ⟨w.heap.size+1,0,none⟩=some (.int .i64 e.id)∧w5.cell? ⟨w.heap.size+1,1,none⟩=some (.int .u64 e.wt)∧w5.cell? ⟨w.heap.size+1,2,none⟩=some (.int .i64 e.v)∧w5.cell? ⟨w.heap.size+1,3,none⟩=some (.int .u64 e.rem) ∧
    w5.cell? ⟨w.heap.size,0,none⟩=some (.int .i64 0)∧w5.cell? ⟨w.heap.size,1,none⟩=some (.int .u64 0)∧w5.cell? ⟨w.heap.size,2,none⟩=some (.int .i64 0)∧w5.cell? ⟨w.heap.size,3,none⟩=some (.int .u64 0)∧∀ j,w5.frozen? ⟨w.heap.size,j,none⟩=false)∧Hid (PutTree w q bm bt S g X K (lessL X.L e.id) g (K+1000) w5∧Blk w5 w.heap.size zeroE 34)) fun r w5 hp=>by
   obtain ⟨S',hr,hT⟩:=hp
   have hT':TreeTurned W S bt (ksOf (lessL X.L e.id)) (K+2*(ksOf X.L).length) w5 S':=by rw [ksOf_less HM.out.ok.ids HE.out];exact hT
   have PT:=(P2.below hW).tree_turn hT' (by omega)
   have hq5:=(P2.below hW).blk.turns hT.turns ((P2.below hW).tree.not (P2.below hW).blk (by simp) (by simp))
   have hx:=hbx.below hW hbx.lt
   have hx5:=hx.turns hT.turns ((P2.below hW).tree.not hx (by simp) (by simp))
   have hr1:=hrx.below hW hrx.lt
   have hr5:=hr1.turns hT.turns ((P2.below hW).tree.not hr1 (by simp) (by simp))
   exact ⟨_,hr,⟨by rw [hld];exact Blk.cell hq5 4,by rw [hcu];exact Blk.cell hq5 2,Blk.frozen hq5,Blk.cell hx5 0,Blk.cell hx5 1,Blk.cell hx5 2,Blk.cell hx5 3,Blk.cell hr5 0,Blk.cell hr5 1,Blk.cell hr5 2,Blk.cell hr5 3,Blk.frozen hr5⟩,PT,hr5⟩
  have HLD:=Lib.hid (And.intro hld (And.intro hldb (And.intro hlds hcu)))
  have hmm:q≠w.heap.size:=by omega
  clear hf hh hs P2 hld hldb hlds hbx hrx ho ho2 hg2 c0 c1 c2 c3 c4 c5 cf hkl HD hkey hl y0 y1 y2 y3 hW0 hcu hmb
  refine wp_region_noPanic ?_
  go_region_with (first | (go_at_call 82;refine (MK.out _ (by first | exact (Below.refl _ _).drew | exact Below.refl _ _)).mono ?_;rintro r w3 ⟨rfl,x1,HB3⟩) | (go_at_call 89;refine (MI.out _ (by first | exact HB3.out | exact HB3.out.drew)).mono ?_;rintro r w5 ⟨bb,rfl,⟨y4,y2,yf,b0,b1,b2,b3,r0,r1,r2,r3,rf⟩,HT⟩))
  all_goals
   refine NoPanic.normal ?_
   have e1:IntKind.u64.wrap ((ld:Int) - (e.wt:Int))=((ld - e.wt:Nat):Int):=by
    have:=HLD.out
    rw [IntKind.wrap_u64]
    omega
   go_wp2_with fail
   go_still_tail 9,(by kernel_rfl)
   change wpList _ _ _ _ _ (w5.drew)
   by_cases hc:cu=e.id
   ·
    have hcx:=Lib.hid (show X.cur=e.id from HLD.out.2.2.2.symm.trans hc)
    rw [hc] at y2
    clear hc
    go_wp2_with fail
    obtain ⟨W4,hW4⟩:∃ W4,W4=((w5.setCell ⟨q,4,none⟩ (.int .u64 ((ld - e.wt:Nat):Int))).setCell ⟨q,2,none⟩ (.int .i64 (-1))):=⟨_,rfl⟩
    obtain ⟨w6,hw6⟩:∃ w6,w6=((((W4.setCell ⟨w.heap.size,0,none⟩ (.int .i64 e.id)).setCell ⟨w.heap.size,1,none⟩ (.int .u64 e.wt)).setCell ⟨w.heap.size,2,none⟩ (.int .i64 e.v)).setCell ⟨w.heap.size,3,none⟩ (.int .u64 e.rem)).drew:=⟨_,rfl⟩
    rw [← hW4,← hw6]
    have hl2:loadL (X.drop e.id).L=ld - e.wt:=by
     have:=HLD.out
     show loadL (lessL X.L e.id)=_
     omega
    obtain ⟨wm,Sm,hmid,htt,hq5,_⟩:=HT.out.1.ex
    have hq6:Blk w5 q (qcells bm bt X.cur X.mn ld X.over) 97:=by rw [HLD.out.1];exact hq5
    have hq4:Blk W4 q (qcells bm bt (X.drop e.id).cur (X.drop e.id).mn (loadL (X.drop e.id).L) (X.drop e.id).over) 97:=by
     rw [hl2,hW4,show (X.drop e.id).cur = -1 from if_pos hcx.out]
     exact Blk.set (Blk.set hq6 4 (.int .u64 ((ld - e.wt:Nat):Int))) 2 (.int .i64 (-1))
    have hr4:Blk W4 w.heap.size (ecells ⟨0,0,0,0⟩) 34:=by
     rw [hW4]
     exact (HT.out.2.of (Below.heap_setCell _ _ _ _ (Ne.symm hmm))).of (Below.heap_setCell _ _ _ _ (Ne.symm hmm))
    have ho4:∀ b,b≠q→W4.heap[b]?=w5.heap[b]?:=fun b hb=>by
     rw [hW4]
     exact (Below.heap_setCell _ _ _ _ hb).trans (Below.heap_setCell _ _ _ _ hb)
    have ht4:Turns [q,w.heap.size] w5 W4:=by
     rw [hW4]
     exact ((Turns.refl _ _).setCell (.inl (by simp)) _).setCell (.inl (by simp)) _
    clear hW4
    obtain ⟨hr6,ho6,ht6⟩:=set4_facts W4 w.heap.size e _ w6 hw6 hr4
    clear hw6
    obtain ⟨F',hT,hrF⟩:=HT.out.1.done2 (X':=X.drop e.id) (w6:=w6) (r:=w.heap.size) (e0:=⟨0,0,0,0⟩) rfl (HM.out.ok.drop e.id) (by omega) hK (hq4.of (ho6 q hmm)) (fun b hb1 hb2=>(ho6 b hb2).trans (ho4 b hb1)) (ht6 _ _ ht4 (by simp)) (Nat.le_refl _) HT.out.2 (fun x hx=>by
     have:=((HM.out.ents x (lessL_mem.1 hx).1).lt)
     omega)
    refine leaves_cons (f:=80) (args:=#[.pointer (some ⟨q,0,none⟩)]) (by simp) (by simp [go_sem]) ?_
    refine (raise_d _ hT.at_).mono ?_
    rintro r u' w7 ⟨rfl,rfl,hR⟩
    have hr7:=hr6.turns hR.out.turns hrF
    have v0:w7.cell? ⟨w.heap.size,0,none⟩=some (.int .i64 e.id):=Blk.cell hr7 0
    have v1:w7.cell? ⟨w.heap.size,1,none⟩=some (.int .u64 e.wt):=Blk.cell hr7 1
    have v2:w7.cell? ⟨w.heap.size,2,none⟩=some (.int .i64 e.v):=Blk.cell hr7 2
    have v3:w7.cell? ⟨w.heap.size,3,none⟩=some (.int .u64 e.rem):=Blk.cell hr7 3
    exact ⟨.tuple #[enV e,.int .i64 0],by simp [results,Tryz.results65,go_sem,v0,v1,v2,v3],_,rfl,hT.trans hR.out⟩
   ·
    have z1:decide (cu=e.id)=false:=decide_eq_false hc
    have hc:=Lib.hid hc
    go_wp2_with fail
    obtain ⟨W4,hW4⟩:∃ W4,W4=(w5.setCell ⟨q,4,none⟩ (.int .u64 ((ld - e.wt:Nat):Int))):=⟨_,rfl⟩
    obtain ⟨w6,hw6⟩:∃ w6,w6=((((W4.setCell ⟨w.heap.size,0,none⟩ (.int .i64 e.id)).setCell ⟨w.heap.size,1,none⟩ (.int .u64 e.wt)).setCell ⟨w.heap.size,2,none⟩ (.int .i64 e.v)).setCell ⟨w.heap.size,3,none⟩ (.int .u64 e.rem)).drew:=⟨_,rfl⟩
    rw [← hW4,← hw6]
    have hl2:loadL (X.drop e.id).L=ld - e.wt:=by
     have:=HLD.out
     show loadL (lessL X.L e.id)=_
     omega
    obtain ⟨wm,Sm,hmid,htt,hq5,_⟩:=HT.out.1.ex
    have hq6:Blk w5 q (qcells bm bt X.cur X.mn ld X.over) 97:=by rw [HLD.out.1];exact hq5
    have hq4:Blk W4 q (qcells bm bt (X.drop e.id).cur (X.drop e.id).mn (loadL (X.drop e.id).L) (X.drop e.id).over) 97:=by
     rw [hl2,hW4,show (X.drop e.id).cur=X.cur from if_neg (fun h=>hc.out (HLD.out.2.2.2.trans h))]
     exact Blk.set hq6 4 (.int .u64 ((ld - e.wt:Nat):Int))
    have hr4:Blk W4 w.heap.size (ecells ⟨0,0,0,0⟩) 34:=by
     rw [hW4]
     exact HT.out.2.of (Below.heap_setCell _ _ _ _ (Ne.symm hmm))
    have ho4:∀ b,b≠q→W4.heap[b]?=w5.heap[b]?:=fun b hb=>by
     rw [hW4]
     exact Below.heap_setCell _ _ _ _ hb
    have ht4:Turns [q,w.heap.size] w5 W4:=by
     rw [hW4]
     exact (Turns.refl _ _).setCell (.inl (by simp)) _
    clear hW4
    obtain ⟨hr6,ho6,ht6⟩:=set4_facts W4 w.heap.size e _ w6 hw6 hr4
    clear hw6
    obtain ⟨F',hT,hrF⟩:=HT.out.1.done2 (X':=X.drop e.id) (w6:=w6) (r:=w.heap.size) (e0:=⟨0,0,0,0⟩) rfl (HM.out.ok.drop e.id) (by omega) hK (hq4.of (ho6 q hmm)) (fun b hb1 hb2=>(ho6 b hb2).trans (ho4 b hb1)) (ht6 _ _ ht4 (by simp)) (Nat.le_refl _) HT.out.2 (fun x hx=>by
     have:=((HM.out.ents x (lessL_mem.1 hx).1).lt)
     omega)
    refine leaves_cons (f:=80) (args:=#[.pointer (some ⟨q,0,none⟩)]) (by simp) (by simp [go_sem]) ?_
    refine (raise_d _ hT.at_).mono ?_
    rintro r u' w7 ⟨rfl,rfl,hR⟩
    have hr7:=hr6.turns hR.out.turns hrF
    have v0:w7.cell? ⟨w.heap.size,0,none⟩=some (.int .i64 e.id):=Blk.cell hr7 0
    have v1:w7.cell? ⟨w.heap.size,1,none⟩=some (.int .u64 e.wt):=Blk.cell hr7 1
    have v2:w7.cell? ⟨w.heap.size,2,none⟩=some (.int .i64 e.v):=Blk.cell hr7 2
    have v3:w7.cell? ⟨w.heap.size,3,none⟩=some (.int .u64 e.rem):=Blk.cell hr7 3
    exact ⟨.tuple #[enV e,.int .i64 0],by simp [results,Tryz.results65,go_sem,v0,v1,v2,v3],_,rfl,hT.trans hR.out⟩
end Go.Proofs.YtefekboacghnjaaGreat
