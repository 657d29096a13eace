/-
  runq.Queue: how memory holds it behind a turn; key, may, raise.
  runq.Queue: near.
  runq.Queue: first, Pick, Yield.
  runq.Queue: Pick, Yield.
-/
import Derived.Test.YtefekboacghnjaaGreatMd
import Derived.Defers
import Derived.StillTailTactics
namespace Go.Proofs.YtefekboacghnjaaGreat
open Go.RowKit Go.Maps
section
variable {w w':World} {q bm bt:Nat} {S S' F F':List Nat} {g g':Int→Nat} {X X':QS} {K K':Int} {e e':En}
structure QTurned (w:World) (F:List Nat) (q:Nat) (X:QS) (K:Int) (w':World) (F':List Nat):Prop where
 at_:QAt w' q F' X K
 turns:Turns F w w'
 sub:∀ b,b ∈ F'→b ∈ F∨w.heap.size≤b
theorem QTurned.trans {w1 w2:World} {F1 F2:List Nat} {X1 X2:QS} {K1 K2:Int} (h1:QTurned w F q X1 K1 w1 F1) (h2:QTurned w1 F1 q X2 K2 w2 F2):QTurned w F q X2 K2 w2 F2 :=
 ⟨h2.at_,h1.turns.then h2.turns (fun b hb hlt=>by
  rcases h1.sub b hb with e | e
  · exact e
  · omega),fun b hb=>by
  rcases h2.sub b hb with e | e
  · exact h1.sub b e
  · exact .inr (Nat.le_trans h1.turns.size e)⟩
theorem QMem.turn (h:QMem w q bm bt S g X K) (hL:X'.L=X.L) (hok:X'.ok) (hb:Blk w' q (qcells bm bt X'.cur X'.mn (loadL X'.L) X'.over) 97) (e:∀ b,b ∈ qblocks q bm S g X→b≠q→w'.heap[b]?=w.heap[b]?):QMem w' q bm bt S g X' K:=by
 obtain ⟨a1,a2,a3,a4,a5⟩:=h.apart
 refine ⟨hb,?_,fun x hx=>?_,?_,hok,h.k1,h.k2⟩
 · rw [hL];exact h.map.of (e bm (by simp [qblocks]) a1)
 ·
  rw [hL] at hx
  exact (h.ents x hx).of (e _ (by
   simp only [qblocks,List.mem_cons,List.mem_append,List.mem_map]
   exact .inr (.inr (.inr ⟨x,hx,rfl⟩))) (a4 x hx).1)
 · rw [hL];exact h.tree.of (fun b hb=>e b (by simp [qblocks,hb]) (fun h=>a2 (h ▸ hb)))
theorem place_add (L:List En) (g:Int→Nat) (e:En) (n:Nat):place (L++[e]) (fun i=>if i=e.id then n else g i)=upd (place L g) e.id (n:Int):=by
 funext i
 show (if i ∈ (L++[e]).map (·.id) then (((if i=e.id then n else g i):Nat):Int) else -1)=(if i=e.id then (n:Int) else if i ∈ L.map (·.id) then (g i:Int) else -1)
 by_cases hi:i=e.id
 · rw [if_pos (by simp [hi]),if_pos hi,if_pos hi]
 ·
  rw [if_neg hi,if_neg hi]
  by_cases hm:i ∈ L.map (·.id)
  · rw [if_pos hm,if_pos (by rw [List.map_append];exact List.mem_append_left _ hm)]
  · rw [if_neg hm,if_neg (by rw [List.map_append,List.mem_append];rintro (h | h);exact hm h;simp at h;exact hi h)]
theorem place_less (L:List En) (g:Int→Nat) (k:Int):place (lessL L k) g=upd (place L g) k (-1):=by
 funext i
 show (if i ∈ (lessL L k).map (·.id) then (g i:Int) else -1)=(if i=k then (-1:Int) else if i ∈ L.map (·.id) then (g i:Int) else -1)
 by_cases hi:i=k
 ·
  rw [if_pos hi,if_neg]
  intro hm
  obtain ⟨x,hx,hxi⟩:=List.mem_map.1 hm
  exact (lessL_mem.1 hx).2 (hxi.trans hi)
 ·
  rw [if_neg hi]
  by_cases hm:i ∈ L.map (·.id)
  ·
   rw [if_pos hm,if_pos]
   obtain ⟨x,hx,rfl⟩:=List.mem_map.1 hm
   exact List.mem_map.2 ⟨x,lessL_mem.2 ⟨hx,hi⟩,rfl⟩
  ·
   rw [if_neg hm,if_neg]
   intro h
   obtain ⟨x,hx,hxi⟩:=List.mem_map.1 h
   exact hm (List.mem_map.2 ⟨x,(lessL_mem.1 hx).1,hxi⟩)
theorem place_set (L:List En) (g:Int→Nat) (e:En):place (setL L e) g=place L g:=by
 funext i
 unfold place
 rw [setL_ids]
end
set_option maxRecDepth 100000 in
theorem qkey_any (b:Nat) (e:En) (w:World) (h:Blk w b (ecells e) 34) :
  Calls Tryz.prog 82 #[.pointer (some ⟨b,0,none⟩)] w fun r w'=>r=.returned (keyV e.key)∧Below w.heap.size w w':=by
 obtain ⟨W1,hW1⟩:∃ W1,W1=w.alloc (.cells #[.int .i64 0,.int .i64 0] 123):=⟨_,rfl⟩
 have hb1:Below w.heap.size w W1:=by rw [hW1];exact (Below.refl _ _).alloc (Nat.le_refl _) _
 have hk1:Blk W1 w.heap.size #[.int .i64 0,.int .i64 0] 123:=by rw [hW1];exact Blk.new _ _ _
 have h1:=h.below hb1 h.lt
 have c0:W1.cell? ⟨b,0,none⟩=some (.int .i64 e.id):=Blk.cell h1 0
 have c2:W1.cell? ⟨b,2,none⟩=some (.int .i64 e.v):=Blk.cell h1 2
 have k0:W1.cell? ⟨w.heap.size,0,none⟩=some (.int .i64 0):=Blk.cell hk1 0
 have k1:W1.cell? ⟨w.heap.size,1,none⟩=some (.int .i64 0):=Blk.cell hk1 1
 have kf:=Blk.frozen hk1
 have HW1:=Lib.hid hW1
 have HB1:=Lib.hid hb1
 clear h h1 hk1 hW1 hb1
 go_enter Tryz.func82,Tryz.ntmps82
 go_wp2_with fail
 rw [← HW1.out]
 clear HW1
 go_still_tail 9,(by kernel_rfl)
 go_wp2_with fail
 refine bodyPost_ret (v:=keyV e.key) (by simp [results,Tryz.results82,go_sem,k0,k1];exact ⟨rfl,rfl⟩) rfl ?_
 exact ⟨rfl,((HB1.out.setCell (Nat.le_refl _) _).setCell (Nat.le_refl _) _).drew⟩
theorem qmay_any (n:Nat) (hn:n<18446744073709551616) (w:World) :
  Calls Tryz.prog 79 #[.int .u64 n] w fun r w'=>r=.returned (.bool (decide (2≤n∧n≤262144)))∧w=w':=by
 by_cases h1:2≤n
 ·
  by_cases h2:n≤262144
  ·
   rw [show decide (2≤n∧n≤262144)=true from decide_eq_true ⟨h1,h2⟩]
   have z1:decide ((2:Int)≤(n:Int))=true:=decide_eq_true (by omega)
   have z2:decide ((n:Int)≤262144)=true:=decide_eq_true (by omega)
   go_enter Tryz.func79,Tryz.ntmps79
   go_wp2_with fail
   go_ret
   exact ⟨rfl,rfl⟩
  ·
   rw [show decide (2≤n∧n≤262144)=false from decide_eq_false (fun h=>h2 h.2)]
   have z1:decide ((2:Int)≤(n:Int))=true:=decide_eq_true (by omega)
   have z2:decide ((n:Int)≤262144)=false:=decide_eq_false (by omega)
   go_enter Tryz.func79,Tryz.ntmps79
   go_wp2_with fail
   go_ret
   exact ⟨rfl,rfl⟩
 ·
  rw [show decide (2≤n∧n≤262144)=false from decide_eq_false (fun h=>h1 h.1)]
  have z1:decide ((2:Int)≤(n:Int))=false:=decide_eq_false (by omega)
  go_enter Tryz.func79,Tryz.ntmps79
  go_wp2_with fail
  go_ret
  exact ⟨rfl,rfl⟩
/-! renorm.Higher of one -/
set_option maxRecDepth 100000 in
theorem min_one (b:Nat) (v:Int) (w:World) (hc:w.cell? ⟨b,0,none⟩=some (.int .i64 v)) :
  Calls Tryz.prog 132 #[.slice (some ⟨b,0,none⟩) 1 1] w fun e w'=>e=.returned (.int .i64 v)∧w=w':=by
 go_enter Tryz.func132,Tryz.ntmps132
 go_wp2_with fail
 go_loop [3,4] (fun m i=>m=.int .i64 v∧i=.int .i64 1) (fun _ _=>0)
 case atStart=>exact ⟨rfl,rfl⟩
 case round =>
  obtain ⟨rfl,rfl⟩:=hrel
  go_wp2_with fail
  go_ret
  exact ⟨rfl,rfl⟩
set_option maxRecDepth 100000 in
theorem higher_one (m:Int) (b:Nat) (v:Int) (w:World) (hc:w.cell? ⟨b,0,none⟩=some (.int .i64 v)) :
  Calls Tryz.prog 109 #[.int .i64 m,.slice (some ⟨b,0,none⟩) 1 1] w fun e w'=>e=.returned (.int .i64 (max m v))∧w=w':=by
 have M:=Lib.hid fun W h=>min_one b v W h
 go_enter Tryz.func109,Tryz.ntmps109
 go_wp2_with (go_at_call 132;refine (M.out _ hc).mono ?_;rintro e w1 ⟨rfl,rfl⟩)
 go_ret
 exact ⟨rfl,rfl⟩
theorem raise_end {w W1 w5:World} {q bm bt:Nat} {S:List Nat} {g:Int→Nat} {X:QS} {K k1 k2:Int} (_h0:QMem w q bm bt S g X K) (h:QMem W1 q bm bt S g X K) (hB:Below w.heap.size w W1) (hB5:Below W1.heap.size W1 w5) (hh:(ksOf X.L).head?=some (k1,k2)) :
  QTurned w (qblocks q bm S g X) q X.raise K (w5.setCell ⟨q,3,none⟩ (.int .i64 (max X.mn k1))) (qblocks q bm S g X):=by
 have h5:=h.below hB5
 have hm:X.raise.mn=max X.mn k1:=by
  show (match (ksOf X.L).head? with | none=>X.mn | some k=>max X.mn k.1)=_
  rw [hh]
 have hb:Blk (w5.setCell ⟨q,3,none⟩ (.int .i64 (max X.mn k1))) q (qcells bm bt X.raise.cur X.raise.mn (loadL X.raise.L) X.raise.over) 97:=by
  rw [hm]
  exact Blk.set h5.blk 3 _
 exact ⟨⟨bm,bt,S,g,h5.turn rfl h5.ok.raise hb (fun b _ hne=>Below.heap_setCell _ _ _ _ hne),rfl⟩,
  ((Turns.of_below (S:=qblocks q bm S g X) (hB.trans (hB5.mono hB.size))).setCell (.inl (by simp [qblocks])) _),fun _ h=>.inl h⟩
set_option maxRecDepth 100000 in
set_option maxHeartbeats 4000000 in
theorem raise_d {w:World} {q:Nat} {F:List Nat} {X:QS} {K:Int} (u:FrameMode) (h:QAt w q F X K) :
  CallsD Tryz.prog 80 #[.pointer (some ⟨q,0,none⟩)] u w fun e u' w'=>u'=u∧(e=.returned (.tuple #[])∧Hid (QTurned w F q X.raise K w' F)):=by
 obtain ⟨bm,bt,S,g,hM,rfl⟩:=h.ex
 obtain ⟨c0,c1,c2,c3,c4,c5,cf⟩:=hM.cells
 have MT:=Lib.hid (tmin_any bt S (ksOf X.L) K w hM.tree)
 have HM:=Lib.hid hM
 clear h hM
 go_enter_d Tryz.func80,Tryz.ntmps80
 go_wp2_with fail
 refine MT.out.mono ?_
 rintro e w1 ⟨he,hb⟩
 have hM1:=HM.out.below hb
 cases hh:(ksOf X.L).head? with
 | none =>
  rw [hh] at he
  replace he:e=.returned (.tuple #[.agg #[.int .i64 0,.int .i64 0],.bool false]):=he
  subst he
  have HH:=Lib.hid hh
  have HB:=Lib.hid hb
  clear hh hb hM1 MT c0 c1 c2 c3 c4 c5 cf
  go_wp2_with fail
  go_end0
  have hb:=HB.out.alloc HB.out.size (.cells #[Value.int IntKind.i64 0,Value.int IntKind.i64 0] 123)
  have e1:X.raise=X:=by
   unfold QS.raise
   rw [HH.out]
  rw [e1]
  exact ⟨rfl,⟨⟨bm,bt,S,g,HM.out.below hb,rfl⟩,Turns.of_below hb,fun _ h=>.inl h⟩⟩
 | some k =>
  obtain ⟨k1,k2⟩:=k
  rw [hh] at he
  replace he:e=.returned (.tuple #[.agg #[.int .i64 k1,.int .i64 k2],.bool true]):=he
  subst he
  clear c0 c1 c2 c3 c4 c5 cf
  obtain ⟨W1,hW1⟩:∃ W1,W1=w1.alloc (.cells #[.int .i64 k1,.int .i64 k2] 123):=⟨_,rfl⟩
  have hb1:Below w1.heap.size w1 W1:=by rw [hW1];exact (Below.refl _ _).alloc (Nat.le_refl _) _
  have hB:=Blk.new w1 #[.int .i64 k1,.int .i64 k2] 123
  rw [← hW1] at hB
  have y0:W1.cell? ⟨w1.heap.size,0,none⟩=some (.int .i64 k1):=Blk.cell hB 0
  have hM2:=hM1.below hb1
  obtain ⟨c0,c1,c2,c3,c4,c5,cf⟩:=hM2.cells
  have z1:q<W1.heap.size:=hM2.blk.lt
  have z2:w1.heap.size<W1.heap.size:=hB.lt
  have HH:=Lib.hid hh
  have HB:=Lib.hid (hb.trans (hb1.mono hb.size))
  have HM1:=Lib.hid hM2
  have HW1:=Lib.hid hW1
  clear hh hb hM1 MT hb1 hB hM2 hW1
  have MH:=Lib.hid fun W (hW:Below W1.heap.size W1 W) (h:W.cell? ⟨W1.heap.size,0,none⟩=some (.int .i64 k1))=>(higher_one X.mn W1.heap.size k1 W h).mono (R':=fun e w5=>e=.returned (.int .i64 (max X.mn k1))∧(w5.cell? ⟨q,3,none⟩=some (.int .i64 X.mn)∧w5.frozen? ⟨q,3,none⟩=false)∧Hid (Below W1.heap.size W1 w5)) fun e w5 hp=>by
   obtain ⟨rfl,rfl⟩:=hp
   have hq:=HM1.out.below hW
   exact ⟨rfl,⟨hq.cells.2.2.2.1,hq.cells.2.2.2.2.2.2 3⟩,hW⟩
  go_wp2_with fail
  rw [← HW1.out]
  clear HW1
  go_region_with (go_at_call 109;refine (MH.out _ (by first | exact ((Below.refl _ _).drew).alloc (Nat.le_refl _) _ | exact ((Below.refl _ _).alloc (Nat.le_refl _) _).drew | exact (Below.refl _ _).alloc (Nat.le_refl _) _) (by simp [go_sem])).mono ?_;rintro e w5 ⟨rfl,⟨x3,x4⟩,hB5⟩)
  all_goals
   go_wp2_with fail
   go_end0
   exact ⟨rfl,raise_end HM.out HM1.out HB.out hB5.out HH.out⟩
end Go.Proofs.YtefekboacghnjaaGreat
namespace Go.Proofs.YtefekboacghnjaaGreat
open Go.RowKit Go.Maps
set_option maxRecDepth 100000 in
set_option maxHeartbeats 4000000 in
theorem qnear_any (a b:Nat) (x y:En) (gran:Int) (_hg1:-9223372036854775808≤gran) (_hg2:gran≤9223372036854775807) (hy1:-9223372036854775808≤y.v) (hy2:y.v≤9223372036854775807) (w:World) (ha:Blk w a (ecells x) 34) (hb:Blk w b (ecells y) 34) :
  Calls Tryz.prog 86 #[.pointer (some ⟨a,0,none⟩),.pointer (some ⟨b,0,none⟩),.int .i64 gran] w fun r w'=>r=.returned (.bool (nearB x.v y.v gran))∧Below w.heap.size w w':=by
 have hc:=holdZ_credit gran
 have a2:w.cell? ⟨a,2,none⟩=some (.int .i64 x.v):=Blk.cell ha 2
 have b2:w.cell? ⟨b,2,none⟩=some (.int .i64 y.v):=Blk.cell hb 2
 have MH:=Lib.hid fun W=>fhold_any gran 0 1099511627776 W
 obtain ⟨c,hcc⟩:∃ c,c=holdZ gran 0 1099511627776:=⟨_,rfl⟩
 rw [← hcc] at MH hc
 obtain ⟨s,hs⟩:∃ s,s=satZ y.v c:=⟨_,rfl⟩
 have MS:=Lib.hid fun W (hW:Below w.heap.size w W)=>(fsat_any y.v c hy1 hy2 (by omega) (by omega) W).mono (R':=fun e w5=>e=.returned (.int .i64 s)∧(w5.cell? ⟨a,2,none⟩=some (.int .i64 x.v)∧w5.cell? ⟨b,2,none⟩=some (.int .i64 y.v))∧Hid (Below w.heap.size w w5)) fun e w5 hp=>by
  obtain ⟨rfl,hbw⟩:=hp
  have hB:=hW.trans (hbw.mono hW.size)
  exact ⟨by rw [hs],⟨(hB.cell (p:=⟨a,2,none⟩) ha.lt).trans a2,(hB.cell (p:=⟨b,2,none⟩) hb.lt).trans b2⟩,hB⟩
 have HE:Hid (nearB x.v y.v gran=decide (x.v≤s)):=Lib.hid (by rw [hs,hcc];rfl)
 rw [HE.out]
 clear hcc hs ha hb HE
 go_enter Tryz.func86,Tryz.ntmps86
 go_wp2_with fail
 go_region_with (first | (go_at_call 112;refine (MH.out _).mono ?_;rintro e w5 ⟨rfl,rfl⟩) | (go_at_call 90;refine (MS.out _ (by first | exact Below.refl _ _ | exact (Below.refl _ _).drew)).mono ?_;rintro e w5 ⟨rfl,⟨x3,x4⟩,hB5⟩))
 all_goals
  go_wp2_with fail
  go_ret
  exact ⟨rfl,hB5.out⟩
end Go.Proofs.YtefekboacghnjaaGreat
namespace Go.Proofs.YtefekboacghnjaaGreat
open Go.RowKit Go.Maps
theorem wp_world {P:Program} {c:Code} {Q:Exit→Act→World→Prop} {a:Act} {w:World} (R:World→Prop) (h:R w) (k:∀ W,R W→c.wp P Q a W):c.wp P Q a w:=k w h
def ptrOf (g:Int→Nat):Option (Int × Int)→Value
 | none=>.pointer none
 | some k=>.pointer (some ⟨g k.2,0,none⟩)
set_option maxRecDepth 100000 in
set_option maxHeartbeats 4000000 in
theorem qfirst_any {w:World} {q bm bt:Nat} {S:List Nat} {g:Int→Nat} {X:QS} {K:Int} (h:QMem w q bm bt S g X K) :
  Calls Tryz.prog 85 #[.pointer (some ⟨q,0,none⟩)] w fun e w'=>e=.returned (ptrOf g X.firstK)∧Below w.heap.size w w':=by
 obtain ⟨c0,c1,c2,c3,c4,c5,cf⟩:=h.cells
 have MT:=Lib.hid (tmin_any bt S (ksOf X.L) K w h.tree)
 have HM:=Lib.hid h
 -- the map's answer at a key that is there
 have HLK:Hid (∀ W,Below w.heap.size w W→∀ k,k ∈ ksOf X.L→(Instr.lookup 93 (.map (some bm)) (.int .i64 k.2) false).run Tryz.prog W=.ok (.pointer (some ⟨g k.2,0,none⟩)) W):=Lib.hid fun W hW k hk=>by
  obtain ⟨x,hx,rfl⟩:=ksOf_ent hk
  have hxo:=HM.out.ok.ents x hx
  have:=(HM.out.below hW).map.look (k:=x.id) (wf64 (by have:=hxo.i1;omega) hxo.i2)
  rw [place_in hx] at this
  rw [show (Instr.lookup 93 (.map (some bm)) (.int .i64 x.key.2) false)=Instr.lookup 93 (.map (some bm)) (.int .i64 x.id) false from rfl,this]
  unfold ptrV
  rw [if_neg (by omega)]
  rfl
 clear h
 go_enter Tryz.func85,Tryz.ntmps85
 go_wp2_with fail
 refine MT.out.mono ?_
 rintro e w1 ⟨he,hb⟩
 have hM1:=HM.out.below hb
 cases hh:(ksOf X.L).head? with
 | none =>
  rw [hh] at he
  replace he:e=.returned (.tuple #[.agg #[.int .i64 0,.int .i64 0],.bool false]):=he
  subst he
  have HF:=Lib.hid (HM.out.ok.firstK_none hh)
  have HB:=Lib.hid hb
  clear hh hb hM1 MT c0 c1 c2 c3 c4 c5 cf
  go_wp2_with fail
  go_big_quiet (fail)
  go_wp2_with fail
  go_ret
  exact ⟨by rw [HF.out];rfl,below_drewN (HB.out.alloc HB.out.size _) _⟩
 | some k =>
  obtain ⟨k1,k2⟩:=k
  rw [hh] at he
  replace he:e=.returned (.tuple #[.agg #[.int .i64 k1,.int .i64 k2],.bool true]):=he
  subst he
  clear c0 c1 c2 c3 c4 c5 cf MT
  obtain ⟨W1,hW1⟩:∃ W1,W1=w1.alloc (.cells #[.int .i64 k1,.int .i64 k2] 123):=⟨_,rfl⟩
  have hb1:Below w1.heap.size w1 W1:=by rw [hW1];exact (Below.refl _ _).alloc (Nat.le_refl _) _
  have hB:=Blk.new w1 #[.int .i64 k1,.int .i64 k2] 123
  rw [← hW1] at hB
  have y0:W1.cell? ⟨w1.heap.size,0,none⟩=some (.int .i64 k1):=Blk.cell hB 0
  have y1:W1.cell? ⟨w1.heap.size,1,none⟩=some (.int .i64 k2):=Blk.cell hB 1
  have yf:=Blk.frozen hB
  have hM2:=hM1.below hb1
  obtain ⟨c0,c1,c2,c3,c4,c5,cf⟩:=hM2.cells
  have HB:=Lib.hid (hb.trans (hb1.mono hb.size))
  have hm:(k1,k2) ∈ ksOf X.L:=List.mem_of_mem_head? (by rw [hh];rfl)
  have HW1:=Lib.hid hW1
  by_cases hc:k2=X.cur
  ·
   have HN:=Lib.hid (HM.out.ok.firstK_next hh hc)
   have MN:=Lib.hid fun W (hW:Below W1.heap.size W1 W)=>(tnext_any bt S (ksOf X.L) K k1 k2 W (hM2.tree.below hW)).mono (R':=fun e w5=>e=.returned (keyOpt X.firstK)∧(w5.cell? ⟨w1.heap.size,0,none⟩=some (.int .i64 k1)∧w5.cell? ⟨w1.heap.size,1,none⟩=some (.int .i64 k2)∧∀ j,w5.frozen? ⟨w1.heap.size,j,none⟩=false)∧Hid (Below W1.heap.size W1 w5∧Blk w5 w1.heap.size #[.int .i64 k1,.int .i64 k2] 123)) fun e w5 hp=>by
    obtain ⟨rfl,hbw⟩:=hp
    have hB5:=hW.trans (hbw.mono hW.size)
    have hK:=hB.below hB5 hB.lt
    exact ⟨by rw [HN.out],⟨Blk.cell hK 0,Blk.cell hK 1,Blk.frozen hK⟩,hB5,hK⟩
   obtain ⟨cu,hcu⟩:∃ cu,cu=X.cur:=⟨_,rfl⟩
   rw [← hcu] at c2 hc
   subst hc
   have HH:=Lib.hid (And.intro hh hcu)
   have hw1:w1.heap.size<W1.heap.size:=hB.lt
   have hwz:w.heap.size≤w1.heap.size:=hb.size
   clear hh hb hM1 hb1 hB hM2 hW1 hm hcu
   go_wp2_with fail
   rw [← HW1.out]
   clear HW1
   go_big_quiet (fail)
   go_wp2_with fail
   cases hf:X.firstK with
   | none =>
    rw [hf] at MN
    have MN:Hid (∀ W,Below W1.heap.size W1 W→Calls Tryz.prog 113 #[.pointer (some ⟨bt,0,none⟩),keyV (k1,k2)] W fun e w5=>e=.returned (.tuple #[.agg #[.int .i64 0,.int .i64 0],.bool false])∧(w5.cell? ⟨w1.heap.size,0,none⟩=some (.int .i64 k1)∧w5.cell? ⟨w1.heap.size,1,none⟩=some (.int .i64 k2)∧∀ j,w5.frozen? ⟨w1.heap.size,j,none⟩=false)∧Hid (Below W1.heap.size W1 w5∧Blk w5 w1.heap.size #[.int .i64 k1,.int .i64 k2] 123)):=MN
    have HF:=Lib.hid hf
    clear hf
    go_region_with (go_at_call 113;refine (MN.out _ (by first | exact (below_drewN (Below.refl _ _) _).drew | exact below_drewN (Below.refl _ _) _)).mono ?_;rintro e w5 ⟨rfl,⟨x3,x4,x5⟩,hB5⟩)
    all_goals
     go_wp2_with fail
     go_ret
     exact ⟨by rw [HF.out];rfl,(HB.out.trans ((hB5.out.1.mono (by have:=HB.out.size;omega)))).setCell (by simpa using hwz) _ |>.setCell (by simpa using hwz) _⟩
   | some k =>
    obtain ⟨n1,n2⟩:=k
    rw [hf] at MN
    have MN:Hid (∀ W,Below W1.heap.size W1 W→Calls Tryz.prog 113 #[.pointer (some ⟨bt,0,none⟩),keyV (k1,k2)] W fun e w5=>e=.returned (.tuple #[.agg #[.int .i64 n1,.int .i64 n2],.bool true])∧(w5.cell? ⟨w1.heap.size,0,none⟩=some (.int .i64 k1)∧w5.cell? ⟨w1.heap.size,1,none⟩=some (.int .i64 k2)∧∀ j,w5.frozen? ⟨w1.heap.size,j,none⟩=false)∧Hid (Below W1.heap.size W1 w5∧Blk w5 w1.heap.size #[.int .i64 k1,.int .i64 k2] 123)):=MN
    have HF:=Lib.hid (And.intro hf (QS.firstK_mem hf).1)
    clear hf
    go_region_with (go_at_call 113;refine (MN.out _ (by first | exact (below_drewN (Below.refl _ _) _).drew | exact below_drewN (Below.refl _ _) _)).mono ?_;rintro e w5 ⟨rfl,⟨x3,x4,x5⟩,hB5⟩)
    all_goals
     go_wp2_with fail
     refine wp_world (fun W=>W.cell? ⟨q,0,none⟩=some (.map (some bm))∧W.cell? ⟨w1.heap.size,1,none⟩=some (.int .i64 n2)∧Hid (Below w.heap.size w W)∧∀ n,(Instr.lookup 93 (.map (some bm)) (.int .i64 n2) false).run Tryz.prog (W.drewN n)=.ok (.pointer (some ⟨g n2,0,none⟩)) (W.drewN n)) ?_ ?_
     ·
      have hX:=(HB.out.trans ((hB5.out.1.mono (by have:=HB.out.size;omega)))).setCell (p:=⟨w1.heap.size,0,none⟩) (by simpa using hwz) (.int .i64 n1) |>.setCell (p:=⟨w1.heap.size,1,none⟩) (by simpa using hwz) (.int .i64 n2)
      exact ⟨(HM.out.below hX).cells.1,Blk.cell (Blk.set (Blk.set hB5.out.2 0 (.int .i64 n1)) 1 (.int .i64 n2)) 1,hX,fun n=>HLK.out _ (below_drewN hX n) _ HF.out.2⟩
     ·
      rintro W ⟨v0,v1,HBW,hl⟩
      clear x3 x4 x5 hB5 y0 y1 yf c0 c1 c2 c3 c4 c5 cf
      go_big_quiet (fail)
      go_wp2_with fail
      go_ret
      exact ⟨by rw [HF.out.1];rfl,below_drewN HBW.out _⟩
  ·
   have HF:=Lib.hid (HM.out.ok.firstK_other hh hc)
   have hcc:decide (k2=X.cur)=false:=decide_eq_false hc
   have hl:=fun n=>HLK.out _ (below_drewN HB.out n) _ hm
   clear hh hb hM1 hb1 hB hM2 hW1 hm
   go_wp2_with fail
   rw [← HW1.out]
   clear HW1
   go_big_quiet (fail)
   go_wp2_with fail
   go_big_quiet (fail)
   go_wp2_with fail
   go_ret
   exact ⟨by rw [HF.out];rfl,below_drewN (below_drewN HB.out _) _⟩
end Go.Proofs.YtefekboacghnjaaGreat
namespace Go.Proofs.YtefekboacghnjaaGreat
open Go.RowKit Go.Maps
theorem at_end {w W:World} {q bm bt:Nat} {S:List Nat} {g:Int→Nat} {X:QS} {K:Int} (h:QMem w q bm bt S g X K) (hB:Below w.heap.size w W) {c:Int} (hc:c = -1∨∃ x,x ∈ X.L∧x.id=c) :
  QTurned w (qblocks q bm S g X) q (X.at_ c) K (W.setCell ⟨q,2,none⟩ (.int .i64 c)) (qblocks q bm S g X):=by
 have h1:=h.below hB
 have hb:Blk (W.setCell ⟨q,2,none⟩ (.int .i64 c)) q (qcells bm bt (X.at_ c).cur (X.at_ c).mn (loadL (X.at_ c).L) (X.at_ c).over) 97:=Blk.set h1.blk 2 _
 exact ⟨⟨bm,bt,S,g,h1.turn rfl (h1.ok.at_ hc) hb (fun b _ hne=>Below.heap_setCell _ _ _ _ hne),rfl⟩,(Turns.of_below (S:=qblocks q bm S g X) hB).setCell (.inl (by simp [qblocks])) _,fun _ h=>.inl h⟩
theorem at_same {w W:World} {q bm bt:Nat} {S:List Nat} {g:Int→Nat} {X:QS} {K:Int} (h:QMem w q bm bt S g X K) (hB:Below w.heap.size w W):QTurned w (qblocks q bm S g X) q X K W (qblocks q bm S g X) :=
 ⟨⟨bm,bt,S,g,h.below hB,rfl⟩,Turns.of_below hB,fun _ h=>.inl h⟩
theorem QMem.look {w W:World} {q bm bt:Nat} {S:List Nat} {g:Int→Nat} {X:QS} {K:Int} (h:QMem w q bm bt S g X K) (hW:Below w.heap.size w W) (i:Int) (h1:-9223372036854775808≤i) (h2:i≤9223372036854775807) :
  (Instr.lookup 93 (.map (some bm)) (.int .i64 i) false).run Tryz.prog W=.ok (match X.get i with | none=>.pointer none | some e=>.pointer (some ⟨g e.id,0,none⟩)) W:=by
 have:=(h.below hW).map.look (k:=i) (wf64 h1 h2)
 rw [this]
 cases hg:X.get i with
 | none =>
  rw [place_out (QS.get_none hg)]
  rfl
 | some e =>
  obtain ⟨he,rfl⟩:=QS.get_some hg
  rw [place_in he]
  unfold ptrV
  rw [if_neg (by omega)]
  rfl
theorem QS.ok.cur_in {X:QS} (h:X.ok):-9223372036854775808≤X.cur∧X.cur≤9223372036854775807:=by
 rcases h.cur with e | ⟨x,hx,e⟩
 · omega
 ·
  have:=(h.ents x hx).i1
  have:=(h.ents x hx).i2
  omega
set_option maxRecDepth 100000 in
set_option maxHeartbeats 8000000 in
theorem qpick_any {w:World} {q:Nat} {F:List Nat} {X:QS} {K:Int} (h:QAt w q F X K) (gran:Int) (hg1:-9223372036854775808≤gran) (hg2:gran≤9223372036854775807) :
  Calls Tryz.prog 48 #[.pointer (some ⟨q,0,none⟩),.int .i64 gran] w fun e w'=>e=.returned (.int .i64 (X.pickI gran))∧Hid (QTurned w F q (pickQ X gran) K w' F):=by
 obtain ⟨bm,bt,S,g,hM,rfl⟩:=h.ex
 have MF:=Lib.hid (qfirst_any hM)
 have HM:=Lib.hid hM
 have hci:=hM.ok.cur_in
 obtain ⟨cu,hcu⟩:∃ cu,cu=X.cur:=⟨_,rfl⟩
 have HCU:=Lib.hid hcu
 rw [← hcu] at hci
 have HOK:=Lib.hid (hM.ok.pickI_ok gran)
 have HLK:=Lib.hid fun (W:World) (hW:Below w.heap.size w W) (n:Nat)=>hM.look (below_drewN hW n) cu hci.1 hci.2
 have HQ:Hid (∀ W,Below w.heap.size w W→W.cell? ⟨q,0,none⟩=some (.map (some bm))∧W.cell? ⟨q,2,none⟩=some (.int .i64 cu)∧∀ j,W.frozen? ⟨q,j,none⟩=false):=Lib.hid fun W hW=>by
  have:=(hM.below hW).cells
  exact ⟨this.1,by rw [hcu];exact this.2.2.1,this.2.2.2.2.2.2⟩
 have HEN:Hid (∀ W,Below w.heap.size w W→∀ x,x ∈ X.L→W.cell? ⟨g x.id,0,none⟩=some (.int .i64 x.id)):=Lib.hid fun W hW x hx=>Blk.cell ((hM.below hW).ents x hx) 0
 have HNR:Hid (∀ W,Below w.heap.size w W→∀ x,x ∈ X.L→∀ y,y ∈ X.L→Calls Tryz.prog 86 #[.pointer (some ⟨g x.id,0,none⟩),.pointer (some ⟨g y.id,0,none⟩),.int .i64 gran] W fun r w'=>r=.returned (.bool (nearB x.v y.v gran))∧Below W.heap.size W w'):=Lib.hid fun W hW x hx y hy =>
  qnear_any (g x.id) (g y.id) x y gran hg1 hg2 (hM.ok.ents y hy).v1 (hM.ok.ents y hy).v2 W ((hM.below hW).ents x hx) ((hM.below hW).ents y hy)
 unfold pickQ
 cases hf:X.firstK with
 | none =>
  have HP:Hid (X.pickI gran=cu):=Lib.hid (by unfold QS.pickI;rw [hf];exact hcu.symm)
  rw [hf] at MF
  replace MF:Hid (Calls Tryz.prog 85 #[.pointer (some ⟨q,0,none⟩)] w fun e w'=>e=.returned (.pointer none)∧Below w.heap.size w w'):=MF
  rw [HP.out]
  clear h hM hf hci hcu HOK HNR HEN
  go_enter Tryz.func48,Tryz.ntmps48
  go_wp2_with fail
  refine MF.out.mono ?_
  rintro e w1 ⟨rfl,hb⟩
  obtain ⟨c0,c2,cf⟩:=HQ.out w1 hb
  have hl:=HLK.out w1 hb
  have HB:=Lib.hid hb
  clear hb MF HQ HLK
  go_wp2_with fail
  go_big_quiet (fail)
  go_wp2_with fail
  all_goals
   go_ret
   refine ⟨rfl,?_⟩
   have:=at_same HM.out (below_drewN HB.out nq)
   rw [HCU.out]
   exact this
 | some k =>
  obtain ⟨x,hx,hxi,hxv⟩:=HM.out.ok.first_ent hf
  rw [hf] at MF
  replace MF:Hid (Calls Tryz.prog 85 #[.pointer (some ⟨q,0,none⟩)] w fun e w'=>e=.returned (.pointer (some ⟨g x.id,0,none⟩))∧Below w.heap.size w w'):=by
   rw [hxi];exact MF
  cases hgc:X.get X.cur with
  | none =>
   have HP:Hid (X.pickI gran=x.id):=Lib.hid (by unfold QS.pickI;rw [hf,hgc,hxi])
   rw [hcu,hgc] at HLK
   rw [HP.out] at HOK ⊢
   rw [← hcu] at HLK
   have HE1:=Lib.hid fun W (hW:Below w.heap.size w W)=>HEN.out W hW x hx
   clear h hM hf hci hcu HNR HEN hx hxi hxv hgc
   go_enter Tryz.func48,Tryz.ntmps48
   go_wp2_with fail
   refine MF.out.mono ?_
   rintro e w1 ⟨rfl,hb⟩
   obtain ⟨c0,c2,cf⟩:=HQ.out w1 hb
   have hl:=HLK.out w1 hb
   have he:=HE1.out w1 hb
   have HB:=Lib.hid hb
   clear hb MF HQ HLK HE1
   go_wp2_with fail
   go_big_quiet (fail)
   go_wp2_with fail
   go_ret
   exact ⟨rfl,at_end HM.out (below_drewN HB.out nq) HOK.out⟩
  | some c =>
   obtain ⟨hc,hci2⟩:=QS.get_some hgc
   have HE1:Hid (∀ W,Below w.heap.size w W→(W.cell? ⟨q,0,none⟩=some (.map (some bm))∧W.cell? ⟨q,2,none⟩=some (.int .i64 cu)∧∀ j,W.frozen? ⟨q,j,none⟩=false)∧W.cell? ⟨g x.id,0,none⟩=some (.int .i64 x.id)):=Lib.hid fun W hW=>⟨HQ.out W hW,HEN.out W hW x hx⟩
   obtain ⟨nb,hnb⟩:∃ nb,nb=nearB c.v x.v gran:=⟨_,rfl⟩
   have HNB:Hid (X.pickI gran=if nb then cu else x.id):=Lib.hid (by unfold QS.pickI;rw [hf,hgc,hnb,hxv,hcu,hxi])
   have HN1:Hid (∀ W,Below w.heap.size w W→Calls Tryz.prog 86 #[.pointer (some ⟨g c.id,0,none⟩),.pointer (some ⟨g x.id,0,none⟩),.int .i64 gran] W fun r w'=>r=.returned (.bool nb)∧Hid (Below w.heap.size w w')):=Lib.hid fun W hW=>(HNR.out W hW c hc x hx).mono fun r w' hp=>⟨by rw [hnb];exact hp.1,hW.trans (hp.2.mono hW.size)⟩
   rw [hcu,hgc] at HLK
   rw [← hcu] at HLK
   clear h hM hf hci hcu HNR HEN hx hxi hxv hgc HQ hc hci2 hnb
   cases nb
   ·
    replace HNB:Hid (X.pickI gran=x.id):=HNB
    rw [HNB.out] at HOK ⊢
    go_enter Tryz.func48,Tryz.ntmps48
    go_wp2_with fail
    refine MF.out.mono ?_
    rintro e w1 ⟨rfl,hb⟩
    obtain ⟨⟨c0,c2,cf⟩,he⟩:=HE1.out w1 hb
    have hl:=HLK.out w1 hb
    have HB:=Lib.hid hb
    clear hb MF HLK
    go_wp2_with fail
    go_big_quiet (fail)
    go_wp2_with fail
    refine (HN1.out _ (below_drewN HB.out nq)).mono ?_
    rintro e w5 ⟨rfl,HB5⟩
    obtain ⟨⟨d0,d2,df⟩,de⟩:=HE1.out w5 HB5.out
    clear c0 c2 cf he hl
    go_wp2_with fail
    go_ret
    exact ⟨rfl,at_end HM.out HB5.out HOK.out⟩
   ·
    replace HNB:Hid (X.pickI gran=cu):=HNB
    rw [HNB.out]
    go_enter Tryz.func48,Tryz.ntmps48
    go_wp2_with fail
    refine MF.out.mono ?_
    rintro e w1 ⟨rfl,hb⟩
    obtain ⟨⟨c0,c2,cf⟩,he⟩:=HE1.out w1 hb
    have hl:=HLK.out w1 hb
    have HB:=Lib.hid hb
    clear hb MF HLK
    go_wp2_with fail
    go_big_quiet (fail)
    go_wp2_with fail
    refine (HN1.out _ (below_drewN HB.out nq)).mono ?_
    rintro e w5 ⟨rfl,HB5⟩
    obtain ⟨⟨d0,d2,df⟩,de⟩:=HE1.out w5 HB5.out
    clear c0 c2 cf he hl
    go_wp2_with fail
    go_ret
    refine ⟨rfl,?_⟩
    have:=at_same HM.out HB5.out
    show Hid (QTurned _ _ _ (X.at_ cu) _ _ _)
    rw [HCU.out]
    exact this
set_option maxRecDepth 100000 in
set_option maxHeartbeats 8000000 in
theorem qyield_any {w:World} {q:Nat} {F:List Nat} {X:QS} {K:Int} (h:QAt w q F X K) (gran:Int) (hg1:-9223372036854775808≤gran) (hg2:gran≤9223372036854775807) :
  Calls Tryz.prog 70 #[.pointer (some ⟨q,0,none⟩),.int .i64 gran] w fun e w'=>e=.returned (.int .i64 (X.yieldI gran))∧Hid (QTurned w F q (yieldQ X gran) K w' F):=by
 obtain ⟨bm,bt,S,g,hM,rfl⟩:=h.ex
 have MF:=Lib.hid (qfirst_any hM)
 have HM:=Lib.hid hM
 have hci:=hM.ok.cur_in
 obtain ⟨cu,hcu⟩:∃ cu,cu=X.cur:=⟨_,rfl⟩
 rw [← hcu] at hci
 have HOK:=Lib.hid (hM.ok.yieldI_ok gran)
 have HLK:=Lib.hid fun (W:World) (hW:Below w.heap.size w W) (n:Nat)=>hM.look (below_drewN hW n) cu hci.1 hci.2
 have HQ:Hid (∀ W,Below w.heap.size w W→W.cell? ⟨q,0,none⟩=some (.map (some bm))∧W.cell? ⟨q,2,none⟩=some (.int .i64 cu)∧∀ j,W.frozen? ⟨q,j,none⟩=false):=Lib.hid fun W hW=>by
  have:=(hM.below hW).cells
  exact ⟨this.1,by rw [hcu];exact this.2.2.1,this.2.2.2.2.2.2⟩
 have HEN:Hid (∀ W,Below w.heap.size w W→∀ x,x ∈ X.L→W.cell? ⟨g x.id,0,none⟩=some (.int .i64 x.id)):=Lib.hid fun W hW x hx=>Blk.cell ((hM.below hW).ents x hx) 0
 have HNR:Hid (∀ W,Below w.heap.size w W→∀ x,x ∈ X.L→∀ y,y ∈ X.L→Calls Tryz.prog 86 #[.pointer (some ⟨g x.id,0,none⟩),.pointer (some ⟨g y.id,0,none⟩),.int .i64 gran] W fun r w'=>r=.returned (.bool (nearB x.v y.v gran))∧Below W.heap.size W w'):=Lib.hid fun W hW x hx y hy =>
  qnear_any (g x.id) (g y.id) x y gran hg1 hg2 (hM.ok.ents y hy).v1 (hM.ok.ents y hy).v2 W ((hM.below hW).ents x hx) ((hM.below hW).ents y hy)
 have HPK:Hid (∀ W,Below w.heap.size w W→Calls Tryz.prog 48 #[.pointer (some ⟨q,0,none⟩),.int .i64 gran] W fun e w'=>e=.returned (.int .i64 (X.pickI gran))∧Hid (QTurned w (qblocks q bm S g X) q (pickQ X gran) K w' (qblocks q bm S g X))):=Lib.hid fun W hW =>
  (qpick_any (h.below hW) gran hg1 hg2).mono fun e w' hp=>⟨hp.1,(at_same hM hW).trans hp.2.out⟩
 unfold yieldQ
 unfold pickQ at HPK
 cases hgc:X.get X.cur with
 | none =>
  have HY:Hid (X.yieldI gran=X.pickI gran):=Lib.hid (by
   unfold QS.yieldI
   rw [hgc]
   cases X.firstK <;> rfl)
  rw [HY.out]
  rw [hcu,hgc] at HLK
  rw [← hcu] at HLK
  obtain ⟨ov,hov⟩:∃ ov,ov=ptrOf g X.firstK:=⟨_,rfl⟩
  rw [← hov] at MF
  clear h hM hci hcu HNR HEN hgc hov HOK
  go_enter Tryz.func70,Tryz.ntmps70
  go_wp2_with fail
  refine MF.out.mono ?_
  rintro e w1 ⟨rfl,hb⟩
  obtain ⟨c0,c2,cf⟩:=HQ.out w1 hb
  have hl:=HLK.out w1 hb
  have HB:=Lib.hid hb
  clear hb MF HQ HLK
  go_wp2_with fail
  go_big_quiet (fail)
  go_wp2_with fail
  refine (HPK.out _ (below_drewN HB.out nq)).mono ?_
  rintro e w5 ⟨rfl,HT⟩
  go_wp2_with fail
  go_ret
  exact ⟨rfl,HT.out⟩
 | some c =>
  obtain ⟨hc,hci2⟩:=QS.get_some hgc
  rw [hcu,hgc] at HLK
  rw [← hcu] at HLK
  cases hf:X.firstK with
  | none =>
   have HY:Hid (X.yieldI gran=X.pickI gran):=Lib.hid (by
    unfold QS.yieldI
    rw [hf])
   rw [HY.out]
   rw [hf] at MF
   replace MF:Hid (Calls Tryz.prog 85 #[.pointer (some ⟨q,0,none⟩)] w fun e w'=>e=.returned (.pointer none)∧Below w.heap.size w w'):=MF
   clear h hM hci hcu HNR HEN hgc hf HOK hc hci2
   go_enter Tryz.func70,Tryz.ntmps70
   go_wp2_with fail
   refine MF.out.mono ?_
   rintro e w1 ⟨rfl,hb⟩
   obtain ⟨c0,c2,cf⟩:=HQ.out w1 hb
   have hl:=HLK.out w1 hb
   have HB:=Lib.hid hb
   clear hb MF HQ HLK
   go_wp2_with fail
   go_big_quiet (fail)
   go_wp2_with fail
   refine (HPK.out _ (below_drewN HB.out nq)).mono ?_
   rintro e w5 ⟨rfl,HT⟩
   go_wp2_with fail
   go_ret
   exact ⟨rfl,HT.out⟩
  | some k =>
   obtain ⟨x,hx,hxi,hxv⟩:=HM.out.ok.first_ent hf
   rw [hf] at MF
   replace MF:Hid (Calls Tryz.prog 85 #[.pointer (some ⟨q,0,none⟩)] w fun e w'=>e=.returned (.pointer (some ⟨g x.id,0,none⟩))∧Below w.heap.size w w'):=by
    rw [hxi];exact MF
   have HE1:Hid (∀ W,Below w.heap.size w W→(W.cell? ⟨q,0,none⟩=some (.map (some bm))∧W.cell? ⟨q,2,none⟩=some (.int .i64 cu)∧∀ j,W.frozen? ⟨q,j,none⟩=false)∧W.cell? ⟨g x.id,0,none⟩=some (.int .i64 x.id)):=Lib.hid fun W hW=>⟨HQ.out W hW,HEN.out W hW x hx⟩
   obtain ⟨nb,hnb⟩:∃ nb,nb=nearB x.v c.v gran:=⟨_,rfl⟩
   have HNB:Hid (X.yieldI gran=if nb then x.id else X.pickI gran):=Lib.hid (by unfold QS.yieldI;rw [hf,hgc,hnb,hxv,hxi])
   have HN1:Hid (∀ W,Below w.heap.size w W→Calls Tryz.prog 86 #[.pointer (some ⟨g x.id,0,none⟩),.pointer (some ⟨g c.id,0,none⟩),.int .i64 gran] W fun r w'=>r=.returned (.bool nb)∧Hid (Below w.heap.size w w')):=Lib.hid fun W hW=>(HNR.out W hW x hx c hc).mono fun r w' hp=>⟨by rw [hnb];exact hp.1,hW.trans (hp.2.mono hW.size)⟩
   clear h hM hf hci hcu HNR HEN hx hxi hxv hgc HQ hc hci2 hnb
   cases nb
   ·
    replace HNB:Hid (X.yieldI gran=X.pickI gran):=HNB
    rw [HNB.out]
    go_enter Tryz.func70,Tryz.ntmps70
    go_wp2_with fail
    refine MF.out.mono ?_
    rintro e w1 ⟨rfl,hb⟩
    obtain ⟨⟨c0,c2,cf⟩,he⟩:=HE1.out w1 hb
    have hl:=HLK.out w1 hb
    have HB:=Lib.hid hb
    clear hb MF HLK
    go_wp2_with fail
    go_big_quiet (fail)
    go_wp2_with fail
    refine (HN1.out _ (below_drewN HB.out nq)).mono ?_
    rintro e w5 ⟨rfl,HB5⟩
    go_wp2_with fail
    refine (HPK.out _ HB5.out).mono ?_
    rintro e w6 ⟨rfl,HT⟩
    go_wp2_with fail
    go_ret
    exact ⟨rfl,HT.out⟩
   ·
    replace HNB:Hid (X.yieldI gran=x.id):=HNB
    rw [HNB.out] at HOK ⊢
    go_enter Tryz.func70,Tryz.ntmps70
    go_wp2_with fail
    refine MF.out.mono ?_
    rintro e w1 ⟨rfl,hb⟩
    obtain ⟨⟨c0,c2,cf⟩,he⟩:=HE1.out w1 hb
    have hl:=HLK.out w1 hb
    have HB:=Lib.hid hb
    clear hb MF HLK
    go_wp2_with fail
    go_big_quiet (fail)
    go_wp2_with fail
    refine (HN1.out _ (below_drewN HB.out nq)).mono ?_
    rintro e w5 ⟨rfl,HB5⟩
    obtain ⟨⟨d0,d2,df⟩,de⟩:=HE1.out w5 HB5.out
    clear c0 c2 cf he hl
    go_wp2_with fail
    go_ret
    exact ⟨rfl,at_end HM.out HB5.out HOK.out⟩
end Go.Proofs.YtefekboacghnjaaGreat
