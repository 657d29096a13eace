/-
  runq.Queue: how memory holds it while one entity is put anew.
  runq.Queue: Weigh.
  runq.Queue: Ents.
-/
import Derived.Test.YtefekboacghnjaaGreatMf
import Derived.WalkMore
namespace Go.Proofs.YtefekboacghnjaaGreat
open Go.RowKit Go.Maps
structure QRaw (w0:World) (q bm bt:Nat) (S0:List Nat) (g:Int→Nat) (X:QS) (w:World) (S:List Nat) (ks:List (Int × Int)) (K:Int) (ld:Nat) (over:Bool) (ee:En):Prop where
  blk:Blk w q (qcells bm bt X.cur X.mn ld over) 97
  map:MapP w bm X.L.length (place X.L g)
  ents:∀ x,x ∈ X.L→x.id≠ee.id→Blk w (g x.id) (ecells x) 34
  ent:Blk w (g ee.id) (ecells ee) 34
  tree:TreeAt w bt S ks K
  turns:Turns (qblocks q bm S0 g X) w0 w
  sub:∀ b,b ∈ S→b ∈ S0∨w0.heap.size≤b
  mem:∃ x,x ∈ X.L∧x.id=ee.id
section
variable {w0 w w':World} {q bm bt:Nat} {S0 S S':List Nat} {g:Int→Nat} {X X':QS} {ks ks':List (Int × Int)} {K K':Int} {ld ld':Nat} {over over':Bool} {e ee ee':En}
theorem QMem.raw (h:QMem w q bm bt S g X K) (he:e ∈ X.L):QRaw w q bm bt S g X w S (ksOf X.L) K (loadL X.L) X.over e :=
  ⟨h.blk,h.map,fun x hx _=>h.ents x hx,h.ents e he,h.tree,Turns.refl _ _,fun _ hb=>.inl hb,⟨e,he,rfl⟩⟩
theorem QRaw.below (h:QRaw w0 q bm bt S0 g X w S ks K ld over ee) (hb:Below w.heap.size w w'):QRaw w0 q bm bt S0 g X w' S ks K ld over ee :=
  ⟨h.blk.below hb h.blk.lt,h.map.of (hb.block _ h.map.lt),fun x hx hn=>(h.ents x hx hn).below hb (h.ents x hx hn).lt,h.ent.below hb h.ent.lt,h.tree.below hb,h.turns.below hb h.turns.size,h.sub,h.mem⟩
theorem QRaw.ent_mem (h:QRaw w0 q bm bt S0 g X w S ks K ld over ee):g ee.id ∈ qblocks q bm S0 g X:=by
  obtain ⟨x,hx,hi⟩:=h.mem
  simp only [qblocks,List.mem_cons,List.mem_append,List.mem_map]
  exact .inr (.inr (.inr ⟨x,hx,by rw [hi]⟩))
theorem QRaw.tree_turn (h:QRaw w0 q bm bt S0 g X w S ks K ld over ee) (hT:TreeTurned w S bt ks' K' w' S'):QRaw w0 q bm bt S0 g X w' S' ks' K' ld over ee :=
  ⟨h.blk.turns hT.turns (h.tree.not h.blk (by simp) (by simp)),h.map.of (hT.turns.block _ h.map.lt (h.tree.not_map h.map)),fun x hx hn=>(h.ents x hx hn).turns hT.turns (h.tree.not (h.ents x hx hn) (by simp) (by simp)),
    h.ent.turns hT.turns (h.tree.not h.ent (by simp) (by simp)),hT.at_,h.turns.then hT.turns (fun b hb hlt=>by
      rcases h.sub b hb with e | e
      · simp [qblocks,e]
      · omega),fun b hb=>by
    rcases hT.sub b hb with e | e
    · exact h.sub b e
    · exact .inr (Nat.le_trans h.turns.size e),h.mem⟩
theorem QRaw.mono (h:QRaw w0 q bm bt S0 g X w S ks K ld over ee) (hK:K≤K'):QRaw w0 q bm bt S0 g X w S ks K' ld over ee:=⟨h.blk,h.map,h.ents,h.ent,h.tree.mono hK,h.turns,h.sub,h.mem⟩
theorem QRaw.set_ent (h:QRaw w0 q bm bt S0 g X w S ks K ld over ee) (hi:ee'.id=ee.id) (hb:Blk w' (g ee.id) (ecells ee') 34) (ho:∀ b,b≠g ee.id→w'.heap[b]?=w.heap[b]?) (ht:Turns [g ee.id] w w'):QRaw w0 q bm bt S0 g X w' S ks K ld over ee':=by
  refine ⟨h.blk.of (ho q (Blk.apart h.blk h.ent (by simp))),h.map.of (ho bm (h.map.not_blk h.ent)),fun x hx hn=>?_,by rw [hi];exact hb,h.tree.of (fun b hb=>ho b (fun e=>h.tree.not h.ent (by simp) (by simp) (e ▸ hb))),h.turns.then ht (fun b hb _=>by
    rw [List.mem_singleton] at hb
    subst hb
    exact h.ent_mem),h.sub,by rw [hi];exact h.mem⟩
  rw [hi] at hn
  have hx1:=h.ents x hx hn
  exact hx1.of (ho _ (Blk.apart hx1 h.ent (by simp;intro h;exact absurd h hn)))
theorem QRaw.set_q (h:QRaw w0 q bm bt S0 g X w S ks K ld over ee) (hb:Blk w' q (qcells bm bt X.cur X.mn ld' over') 97) (ho:∀ b,b≠q→w'.heap[b]?=w.heap[b]?) (ht:Turns [q] w w'):QRaw w0 q bm bt S0 g X w' S ks K ld' over' ee :=
  ⟨hb,h.map.of (ho bm (h.map.not_blk h.blk)),fun x hx hn=>(h.ents x hx hn).of (ho _ (Blk.apart (h.ents x hx hn) h.blk (by simp))),h.ent.of (ho _ (Blk.apart h.ent h.blk (by simp))),h.tree.of (fun b hb=>ho b (fun e=>h.tree.not h.blk (by simp) (by simp) (e ▸ hb))),h.turns.then ht (fun b hb _=>by
    rw [List.mem_singleton] at hb
    subst hb
    simp [qblocks]),h.sub,h.mem⟩
theorem setL_blocks (L:List En) (e:En) (g:Int→Nat):(setL L e).map (fun x=>g x.id)=L.map fun x=>g x.id:=by
  have:=congrArg (List.map g) (setL_ids L e)
  rw [List.map_map,List.map_map] at this
  exact this
theorem QRaw.done (h:QRaw w0 q bm bt S0 g X w S ks K ld over ee) (hL:X'.L=setL X.L ee) (hc:X'.cur=X.cur) (hm:X'.mn=X.mn) (ho:X'.over=over) (hl:ld=loadL X'.L) (hk:ks=ksOf X'.L) (hok:X'.ok) (k1:1≤K) (k2:K≤1000000000000000) :
    QTurned w0 (qblocks q bm S0 g X) q X' K w (qblocks q bm S g X'):=by
  refine ⟨⟨bm,bt,S,g,⟨by rw [hc,hm,ho,← hl];exact h.blk,by rw [hL,setL_len,place_set];exact h.map,fun x hx=>?_,by rw [← hk];exact h.tree,hok,k1,k2⟩,rfl⟩,h.turns,fun b hb=>?_⟩
  · rw [hL] at hx
    rcases setL_mem hx with rfl | ⟨h1,h2⟩
    · exact h.ent
    · exact h.ents x h1 h2
  · simp only [qblocks,List.mem_cons,List.mem_append] at hb
    rcases hb with rfl | rfl | hb | hb
    · exact .inl (by simp [qblocks])
    · exact .inl (by simp [qblocks])
    · rcases h.sub b hb with e | e
      · exact .inl (by simp [qblocks,e])
      · exact .inr e
    · rw [hL,setL_blocks] at hb
      refine .inl ?_
      simp only [qblocks,List.mem_cons,List.mem_append]
      exact .inr (.inr (.inr hb))
end
/-! vrun -/
theorem vcheck_ok (wt rem:Nat) (h1:2≤wt) (h2:wt≤262144) (hr:rem<wt) (w:World) :
    Calls Tryz.prog 114 #[.int .u64 wt,.int .u64 rem] w fun e w'=>e=.returned (.int .i64 0)∧w=w':=by
  have z1:decide ((wt:Int)<2)=false:=decide_eq_false (by omega)
  have z2:decide ((262144:Int)<(wt:Int))=false:=decide_eq_false (by omega)
  have z3:decide ((wt:Int)≤(rem:Int))=false:=decide_eq_false (by omega)
  have z4:decide (wt≤rem)=false:=decide_eq_false (by omega)
  go_enter Tryz.func114,Tryz.ntmps114
  go_wp2_with fail
  go_ret
  exact ⟨rfl,rfl⟩
set_option maxRecDepth 100000 in
theorem vcharge_any (wt rem ns:Nat) (h1:2≤wt) (h2:wt≤262144) (hr:rem<wt) (w:World) :
    Calls Tryz.prog 87 #[.int .u64 wt,.int .u64 rem,.int .u64 ns] w fun e w'=>e=.returned (if 1000000000<ns then .tuple #[.int .i64 0,.int .u64 0,.int .i64 8] else .tuple #[.int .i64 (((rem+ns*1024) / wt:Nat):Int),.int .u64 (((rem+ns*1024) % wt:Nat):Int),.int .i64 0])∧Below w.heap.size w w':=by
  have MC:=Lib.hid fun W=>vcheck_ok wt rem h1 h2 hr W
  by_cases hn:1000000000<ns
  · rw [if_pos hn]
    have z1:decide ((ns:Int)≤1000000000)=false:=decide_eq_false (by omega)
    go_enter Tryz.func87,Tryz.ntmps87
    go_wp2_with fail
    go_step3
    go_wp2_with (go_at_call 114;refine (MC.out _).mono ?_;rintro r w2 ⟨rfl,rfl⟩)
    go_step3
    go_wp2_with fail
    rw [Exit.noGoto_ret]
    refine bodyPost_ret (v:=.tuple #[.int .i64 0,.int .u64 0,.int .i64 8]) (by simp [results,Tryz.results87,go_sem]) rfl ?_
    exact ⟨rfl,Below.refl _ _⟩
  · rw [if_neg hn]
    have z1:decide ((ns:Int)≤1000000000)=true:=decide_eq_true (by omega)
    obtain ⟨p,hp⟩:∃ p,p=rem+ns*1024:=⟨_,rfl⟩
    have e1:IntKind.u64.wrap ((ns:Int)*1024)=((ns*1024:Nat):Int):=by rw [IntKind.wrap_u64];omega
    have e2:IntKind.u64.wrap ((rem:Int)+((ns*1024:Nat):Int))=(p:Int):=by rw [IntKind.wrap_u64];omega
    have e2':IntKind.u64.wrap ((rem:Int)+((ns:Int)*1024))=(p:Int):=by rw [IntKind.wrap_u64];omega
    rw [← hp]
    have hpb:p<1024000262144:=by omega
    have hd:p / wt≤p:=Nat.div_le_self _ _
    have w0:(wt == 0)=false:=by rw [beq_eq_false_iff_ne];omega
    clear hp
    go_enter Tryz.func87,Tryz.ntmps87
    go_wp2_with fail
    go_step3
    go_wp2_with (go_at_call 114;refine (MC.out _).mono ?_;rintro r w2 ⟨rfl,rfl⟩)
    go_step3
    go_wp2_with fail
    go_big_quiet (fail)
    go_wp2_with fail
    rw [Exit.noGoto_ret]
    have e3:wrap64 (IntKind.u64.wrap ((p:Int) / (wt:Int)))=(p:Int) / (wt:Int):=by
      have h3:(p:Int) / (wt:Int)=((p / wt:Nat):Int):=rfl
      rw [h3]
      clear h3
      generalize p / wt=d at *
      unfold wrap64
      rw [IntKind.wrap_u64]
      omega
    refine bodyPost_ret (v:=.tuple #[.int .i64 ((p / wt:Nat):Int),.int .u64 ((p % wt:Nat):Int),.int .i64 0]) (by simp [results,Tryz.results87,go_sem];exact e3) rfl ?_
    exact ⟨rfl,below_drewN (Below.refl _ _) _⟩
end Go.Proofs.YtefekboacghnjaaGreat
namespace Go.Proofs.YtefekboacghnjaaGreat
open Go.RowKit Go.Maps
theorem weighed_okQ {e:En} (he:e.ok) {w:Nat} (h1:2≤w) (h2:w≤262144):(weighed e w).ok∧mdQ e.rem w e.wt<w:=by
  have hr:=he.r
  have hw:=he.w1
  have hlt:e.rem*w<w*e.wt:=by rw [Nat.mul_comm w];exact Nat.mul_lt_mul_of_pos_right hr (by omega)
  have h3:e.rem*w / e.wt<w:=(Nat.div_lt_iff_lt_mul (by omega)).2 hlt
  have h4:mdQ e.rem w e.wt<w:=by
    unfold mdQ
    split
    · exact h3
    · omega
  exact ⟨⟨he.i1,he.i2,h1,h2,he.v1,he.v2,h4⟩,h4⟩
set_option maxRecDepth 100000 in
set_option maxHeartbeats 16000000 in
theorem qweigh_any {w:World} {q:Nat} {F:List Nat} {X:QS} {K:Int} (h:QAt w q F X K) (i:Int) (i1:-9223372036854775808≤i) (i2:i≤9223372036854775807) (wn:Nat) (hwn:wn<18446744073709551616) :
    Calls Tryz.prog 67 #[.pointer (some ⟨q,0,none⟩),.int .i64 i,.int .u64 wn] w fun r w'=>∃ F',r=.returned (.int .i64 (weighC X i wn))∧Hid (QTurned w F q (weighQ X i wn) K w' F'):=by
  obtain ⟨bm,bt,S,g,hM,rfl⟩:=h.ex
  have hk1:=hM.k1
  have hk2:=hM.k2
  have hl:=hM.look (Below.refl _ _) i i1 i2
  obtain ⟨c0,c1,c2,c3,c4,c5,cf⟩:=hM.cells
  have MM:=Lib.hid fun W=>qmay_any wn hwn W
  have HS:=Lib.hid (at_same hM (Below.refl _ _))
  cases hg:X.get i with
  | none =>
    have hq:weighQ X i wn=X:=by unfold weighQ;rw [hg]
    have hc:weighC X i wn=12:=if_neg (QS.get_none hg)
    rw [hg] at hl
    rw [hq,hc]
    clear hM hg hq hc h
    go_enter Tryz.func67,Tryz.ntmps67
    go_wp2_with fail
    go_ret
    exact ⟨rfl,_,HS.out⟩
  | some e =>
    obtain ⟨he,rfl⟩:=QS.get_some hg
    have hm:e.id ∈ X.L.map (·.id):=List.mem_map.2 ⟨e,he,rfl⟩
    rw [hg] at hl
    by_cases k1:wn<2∨262144<wn
    · have hq:weighQ X e.id wn=X:=by unfold weighQ;rw [hg];exact if_pos k1
      have hc:weighC X e.id wn=4:=by unfold weighC;rw [if_pos hm,if_pos k1]
      rw [show decide (2≤wn∧wn≤262144)=false from decide_eq_false (by omega)] at MM
      rw [hq,hc]
      clear hM hg hq hc h hm
      go_enter Tryz.func67,Tryz.ntmps67
      go_wp2_with (go_at_call 79;refine (MM.out _).mono ?_;rintro r w2 ⟨rfl,rfl⟩)
      go_ret
      exact ⟨_,rfl,HS.out⟩
    have hq:weighQ X e.id wn=X.set (weighed e wn):=by unfold weighQ;rw [hg];exact if_neg k1
    have hc:weighC X e.id wn=0:=by unfold weighC;rw [if_pos hm,if_neg k1]
    rw [show decide (2≤wn∧wn≤262144)=true from decide_eq_true (by omega)] at MM
    have hok:=weighed_okQ (hM.ok.ents e he) (w:=wn) (by omega) (by omega)
    have heo:=hM.ok.ents e he
    have hR:=hM.raw he
    have hBe:=hM.ents e he
    have y1:w.cell? ⟨g e.id,1,none⟩=some (.int .u64 e.wt):=Blk.cell hBe 1
    have y3:w.cell? ⟨g e.id,3,none⟩=some (.int .u64 e.rem):=Blk.cell hBe 3
    obtain ⟨ld,hld⟩:∃ ld,ld=loadL X.L:=⟨_,rfl⟩
    rw [← hld] at hR c4
    have MD:=Lib.hid fun W (hW:Below w.heap.size w W)=>(mulDiv_any e.rem wn e.wt (by have:=heo.r;have:=heo.w2;omega) hwn (by have:=heo.w2;omega) W).mono (R':=fun r w5=>∃ a b,r=.returned (.tuple #[.int .u64 (mdQ e.rem wn e.wt:Nat),a,b])∧(w5.cell? ⟨g e.id,3,none⟩=some (.int .u64 e.rem)∧w5.cell? ⟨g e.id,1,none⟩=some (.int .u64 e.wt)∧(∀ j,w5.frozen? ⟨g e.id,j,none⟩=false)∧w5.cell? ⟨q,4,none⟩=some (.int .u64 (ld:Nat))∧∀ j,w5.frozen? ⟨q,j,none⟩=false)∧Hid (QRaw w q bm bt S g X w5 S (ksOf X.L) K ld X.over e)) fun r w5 hp=>by
      have hB:=hW.trans (hp.2.mono hW.size)
      have hr:=hR.below hB
      exact ⟨_,_,hp.1,⟨Blk.cell hr.ent 3,Blk.cell hr.ent 1,Blk.frozen hr.ent,Blk.cell hr.blk 4,Blk.frozen hr.blk⟩,hr⟩
    have HM:=Lib.hid (And.intro hM he)
    have HLD:=Lib.hid hld
    have HOK:=Lib.hid hok
    have hne:=Lib.hid (show q≠g e.id from Blk.apart hM.blk hBe (by simp))
    rw [hq,hc]
    clear hM hg hq hc h hm he heo hR hBe hld hok HS
    go_enter Tryz.func67,Tryz.ntmps67
    go_wp2_with (go_at_call 79;refine (MM.out _).mono ?_;rintro r w2 ⟨rfl,rfl⟩)
    go_region_with (go_at_call 96;refine (MD.out _ (by first | exact (Below.refl _ _).drew | exact Below.refl _ _)).mono ?_;rintro r w5 ⟨a,b,rfl,⟨z3,z1,zf,x4,xf⟩,HR⟩)
    all_goals
      go_wp2_with fail
      refine wp_world (fun W=>(W.cell? ⟨g e.id,1,none⟩=some (.int .u64 e.wt)∧(∀ j,W.frozen? ⟨g e.id,j,none⟩=false)∧W.cell? ⟨q,4,none⟩=some (.int .u64 (ld:Nat))∧∀ j,W.frozen? ⟨q,j,none⟩=false)∧Hid (QRaw w q bm bt S g X W S (ksOf X.L) K ld X.over { e with rem:=mdQ e.rem wn e.wt })) ?_ ?_
      · have hb:=Blk.set HR.out.ent 3 (.int .u64 (mdQ e.rem wn e.wt:Nat))
        have hr:=HR.out.set_ent (ee':={ e with rem:=mdQ e.rem wn e.wt }) rfl hb (fun b hb=>Below.heap_setCell _ _ _ _ hb) ((Turns.refl _ _).setCell (.inl (by simp)) _)
        exact ⟨⟨Blk.cell hr.ent 1,Blk.frozen hr.ent,Blk.cell hr.blk 4,Blk.frozen hr.blk⟩,hr⟩
      rintro W ⟨⟨v1,vf,v4,vq⟩,HR2⟩
      clear z3 z1 zf x4 xf HR c0 c1 c2 c3 c4 c5 cf y1 y3 hl
      have hw2:=HM.out.1.ok.ents e HM.out.2
      have hlw:=load_less HM.out.1.ok.ids HM.out.2
      have hlb:=HM.out.1.ok.load
      have hle:=HLD.out
      have e1:IntKind.u64.wrap ((ld:Int)+IntKind.u64.wrap ((wn:Int) - (e.wt:Int)))=((ld - e.wt+wn:Nat):Int):=by
        rw [IntKind.wrap_u64,IntKind.wrap_u64]
        omega
      have HL2:=Lib.hid (show loadL (setL X.L (weighed e wn))=ld - e.wt+wn by
        have:=load_set (e':=weighed e wn) HM.out.1.ok.ids HM.out.2 rfl
        have h2:(weighed e wn).wt=wn:=rfl
        omega)
      generalize ld - e.wt+wn=ld' at *
      clear hlw hlb hle hw2
      go_still_tail 13,(by kernel_rfl)
      change wpList _ _ _ _ _ (W.drew)
      go_wp2_with fail
      go_ret
      have hr1:=HR2.out.below ((Below.refl _ _).drew)
      have hq4:=Blk.set hr1.blk 4 (.int .u64 (ld':Nat))
      have hr2:=hr1.set_q (over':=X.over) hq4 (fun b hb=>Below.heap_setCell _ _ _ _ hb) ((Turns.refl _ _).setCell (.inl (by simp)) _)
      have hb2:=Blk.set hr2.ent 1 (.int .u64 (wn:Nat))
      have hr3:=hr2.set_ent (ee':=weighed e wn) rfl hb2 (fun b hb=>Below.heap_setCell _ _ _ _ hb) ((Turns.refl _ _).setCell (.inl (by simp)) _)
      exact ⟨_,rfl,hr3.done (X':=X.set (weighed e wn)) rfl rfl rfl rfl HL2.out.symm (ksOf_set_same (e':=weighed e wn) HM.out.1.ok.ids HM.out.2 rfl).symm (HM.out.1.ok.set HOK.out.1) hk1 hk2⟩
end Go.Proofs.YtefekboacghnjaaGreat
namespace Go.Proofs.YtefekboacghnjaaGreat
open Go.RowKit Go.Maps
def ecl (e:En):List Value:=[.int .i64 e.id,.int .u64 e.wt,.int .i64 e.v,.int .u64 e.rem]
theorem infoE:(Tryz.prog.info? 34).map (fun i=>(i.zero,i.size,i.bytes))=some (some (.agg zeroE),4,32):=by kernel_rfl
theorem cell_ent_new (w:World) (a b c d:Value) (t:TypeId):∀ j u,[a,b,c,d][j]?=some u→(w.alloc (.cells #[a,b,c,d] t)).cell? ((⟨w.heap.size,0,none⟩:Addr).add j)=some u:=by
  intro j u hj
  match j,hj with
  | 0,hj=>simp at hj;subst hj;simp [go_sem,Addr.add]
  | 1,hj=>simp at hj;subst hj;simp [go_sem,Addr.add]
  | 2,hj=>simp at hj;subst hj;simp [go_sem,Addr.add]
  | 3,hj=>simp at hj;subst hj;simp [go_sem,Addr.add]
  | j+4,hj=>simp at hj
theorem flat_at {α:Type} (cells:α→List Value) (k:Nat) (hk:∀ d,(cells d).length=k):∀ (F:List α) (j i:Nat),i<k→(F.flatMap cells)[j*k+i]?=(F[j]?).bind fun d=>(cells d)[i]?
  | [],j,i,_=>by simp
  | d::F,0,i,hi=>by
    rw [List.flatMap_cons,Nat.zero_mul,Nat.zero_add,List.getElem?_append_left (by rw [hk];exact hi)]
    rfl
  | d::F,j+1,i,hi=>by
    have e:(j+1)*k+i=k+(j*k+i):=by rw [Nat.add_mul];omega
    rw [List.flatMap_cons,e,List.getElem?_append_right (by rw [hk];omega),hk,show k+(j*k+i) - k=j*k+i by omega,flat_at cells k hk F j i hi]
    rfl
theorem row_cells {w:World} {base:Nat} {e:TypeId} {k n:Nat} {v:Value} {xs:List Value} (h:w.ownsRow base e k v n xs) :
    (v=.slice none 0 0∧n=0)∨∃ g c,v=.slice (some ⟨g,0,none⟩) n c∧base≤g∧g<w.heap.size∧n≤9223372036854775807∧∀ i,i<n*k→w.cell? ⟨g,i,none⟩=xs[i]?:=by
  rcases h.2 with h0 | ⟨g,cap,cur,rfl,hbase,hgb,r1,r2,r3,r4⟩
  · exact .inl h0
  · refine .inr ⟨g,cap,rfl,hbase,(Array.getElem?_eq_some_iff.1 hgb).1,by unfold maxLen at r2;omega,fun i hi=>?_⟩
    have:w.cell? ⟨g,i,none⟩=cur[i]?:=by simp [World.cell?,hgb]
    rw [this,← r4,List.getElem?_take_of_lt hi,Array.getElem?_toList]
theorem ents_len (X:QS):X.ents.length=(ksOf X.L).length:=by simp [QS.ents]
theorem QS.ok.ents_at {X:QS} (h:X.ok) {j:Nat} (hj:j<(ksOf X.L).length):∃ e,e ∈ X.L∧(ksOf X.L)[j]?=some e.key∧X.ents[j]?=some e:=by
  obtain ⟨e,he,hk⟩:=ksOf_ent (List.getElem_mem hj)
  refine ⟨e,he,by rw [List.getElem?_eq_getElem hj,hk],?_⟩
  unfold QS.ents
  rw [List.getElem?_map,List.getElem?_eq_getElem hj,← hk]
  have:X.get e.key.2=some e:=h.get he
  simp only [Option.map_some,this,Option.getD_some]
set_option maxRecDepth 100000 in
set_option maxHeartbeats 16000000 in
theorem qents_any {w:World} {q:Nat} {F:List Nat} {X:QS} {K:Int} (h:QAt w q F X K) :
    Calls Tryz.prog 75 #[.pointer (some ⟨q,0,none⟩)] w fun r w'=>∃ v,r=.returned v∧Hid (w'.ownsRow w.heap.size 34 4 v X.ents.length (X.ents.flatMap ecl)∧Below w.heap.size w w'):=by
  obtain ⟨bm,bt,S,g,hM,rfl⟩:=h.ex
  obtain ⟨c0,c1,c2,c3,c4,c5,cf⟩:=hM.cells
  obtain ⟨i0,hi,iz0,iz1,iz2⟩:=info_parts infoE
  have hlen:(ksOf X.L).length≤128:=Nat.le_trans (ksOf_len _) hM.ok.len
  have MW:=Lib.hid (twalk_any bt S (ksOf X.L) K w hM.tree (by omega))
  have HM:=Lib.hid hM
  rw [ents_len]
  obtain ⟨n,hn⟩:∃ n,n=(ksOf X.L).length:=⟨_,rfl⟩
  rw [← hn] at MW hlen ⊢
  have HN:=Lib.hid hn
  clear hM h hn
  go_enter Tryz.func75,Tryz.ntmps75
  go_wp2_with fail
  refine MW.out.mono ?_
  rintro r w1 ⟨v1,rfl,HR⟩
  have hz1:=HR.out.2.size
  have hrow:=HR.out.1
  obtain ⟨A,c,rfl,hA⟩:∃ A c,v1=.slice A n c∧∀ j e,j<n→(ksOf X.L)[j]?=some e→∃ b,A=some ⟨b,0,none⟩∧b<w1.heap.size∧w1.cell? ⟨b,j*2,none⟩=some (.int .i64 e.1)∧w1.cell? ⟨b,j*2+1,none⟩=some (.int .i64 e.2):=by
    rcases row_cells hrow with ⟨rfl,h0⟩ | ⟨b,c,rfl,_,hb,_,hc⟩
    · exact ⟨none,0,by rw [h0],fun j e hj=>by omega⟩
    · refine ⟨_,c,rfl,fun j e hj he=>⟨b,rfl,hb,?_,?_⟩⟩
      · have:=flat_at kcells 2 (fun _=>rfl) (ksOf X.L) j 0 (by omega)
        rw [hc (j*2) (by omega)]
        rw [Nat.add_zero] at this
        rw [this,he]
        rfl
      · have:=flat_at kcells 2 (fun _=>rfl) (ksOf X.L) j 1 (by omega)
        rw [hc (j*2+1) (by omega),this,he]
        rfl
  have HA:=Lib.hid hA
  clear hrow hA MW c0 c1 c2 c3 c4 c5 cf
  go_wp2_with fail
  go_loopw [3,14] (fun v s14 wr=>∃ k:Nat,k≤n∧s14=.int .i64 k∧wr.ownsRow w1.heap.size 34 4 v k ((X.ents.take k).flatMap ecl)∧Below w1.heap.size w1 wr) (fun _ s14 _=>n - (intOf s14).toNat)
  case atStart=>exact ⟨0,by omega,rfl,by simpa using World.ownsRow_nil _ _ _ _,Below.refl _ _⟩
  case round =>
    obtain ⟨k,hk,rfl,hown,hB⟩:=hrel
    by_cases hgo:k<n
    · obtain ⟨e,he,hek,hee⟩:=HM.out.ok.ents_at (j:=k) (by rw [← HN.out];exact hgo)
      obtain ⟨b,rfl,hbl,b0',b1'⟩:=HA.out k e.key hgo hek
      have b0:wr.cell? ⟨b,k*2,none⟩=some (.int .i64 e.v):=(hB.cell (p:=⟨b,k*2,none⟩) hbl).trans b0'
      have b1:wr.cell? ⟨b,k*2+1,none⟩=some (.int .i64 e.id):=(hB.cell (p:=⟨b,k*2+1,none⟩) hbl).trans b1'
      have z1:decide ((k:Int)<(n:Int))=true:=decide_eq_true (by omega)
      have z2:decide (k<n)=true:=decide_eq_true hgo
      have j0:(0:Int)≤(k:Int):=Int.natCast_nonneg _
      have j1:(k:Int)<(n:Int):=by omega
      have HO:=Lib.hid (And.intro hown hB)
      have HE:=Lib.hid (And.intro he hee)
      clear he hek hee b0' b1' hown hB
      go_wp2_with fail
      refine wp_world (fun W=>(W.cell? ⟨q,0,none⟩=some (.map (some bm))∧W.cell? ⟨wr.heap.size,1,none⟩=some (.int .i64 e.id)∧W.cell? ⟨g e.id,0,none⟩=some (.int .i64 e.id)∧W.cell? ⟨g e.id,1,none⟩=some (.int .u64 e.wt)∧W.cell? ⟨g e.id,2,none⟩=some (.int .i64 e.v)∧W.cell? ⟨g e.id,3,none⟩=some (.int .u64 e.rem)) ∧
        (Instr.lookup 93 (.map (some bm)) (.int .i64 e.id) false).run Tryz.prog W.drew=.ok (.pointer (some ⟨g e.id,0,none⟩)) W.drew ∧
        Hid (W.drew.ownsRow w1.heap.size 34 4 u3 k ((X.ents.take k).flatMap ecl)∧Below w1.heap.size w1 W.drew)) ?_ ?_
      · have hBr:=HO.out.2.alloc HO.out.2.size (.cells #[.int .i64 e.v,.int .i64 e.id] 123)
        have hBw:Below w.heap.size w (wr.alloc (.cells #[.int .i64 e.v,.int .i64 e.id] 123)):=HR.out.2.trans (hBr.mono hz1)
        have hM2:=HM.out.below hBw
        have hbe:=hM2.ents e HE.out.1
        have heo:=HM.out.ok.ents e HE.out.1
        have hlk:=HM.out.look (below_drewN hBw 1) e.id (by have:=heo.i1;omega) heo.i2
        rw [HM.out.ok.get HE.out.1] at hlk
        exact ⟨⟨hM2.cells.1,Blk.cell (Blk.new wr #[.int .i64 e.v,.int .i64 e.id] 123) 1,Blk.cell hbe 0,Blk.cell hbe 1,Blk.cell hbe 2,Blk.cell hbe 3⟩,hlk,(HO.out.1.alloc _).drew,hBr.drew⟩
      · rintro W ⟨⟨c0,x1,y0,y1,y2,y3⟩,hl,HO2⟩
        clear b0 b1 HO
        have HBR:=Lib.hid HO2.out.2
        have hown:=HO2.out.1
        have hsz:=HO2.out.2.size
        go_region_law (first
          | (refine step_append_where rfl (.tmp 18) (.tmp 28) 27 rfl w1.heap.size 34 i0 _ 4 32 Tryz.underlying27 hi iz0 iz1 iz2 rfl (by decide) u3 k ((X.ents.take k).flatMap ecl) rfl (hown.alloc _) ⟨W.heap.size,0,none⟩ 1 1 (ecl e) rfl rfl (cell_ent_new W.drew _ _ _ _ _) (by simp [ecl,Value.oneCell']) (by unfold maxLen;omega) (by omega) (by have h2:=hsz;simp at h2 ⊢;omega) ?_
             intro v' w2 hown2 hgrow _))
        all_goals
          have hB2:Below w1.heap.size w1 w2:=(HBR.out.alloc (by omega) _).grown hgrow (by have h2:=hsz;simp at h2 ⊢;omega) (fun j hj=>(HO2.out.1.lt j hj).1)
          have htk:X.ents.take (k+1)=X.ents.take k++[e]:=by
            have hlt:k<X.ents.length:=by rw [ents_len,← HN.out];exact hgo
            have h2:=HE.out.2
            rw [List.getElem?_eq_getElem hlt] at h2
            have h3:X.ents[k]=e:=by injection h2
            rw [← h3]
            exact (List.take_append_getElem hlt).symm
          have HTK:=Lib.hid htk
          clear htk hown
          go_wp2_with fail
          go_roundw
          case rel=>exact ⟨k+1,by omega,by go_num,by rw [HTK.out,List.flatMap_append];simpa using hown2,hB2⟩
          case measure=>simp [intOf];omega
    · obtain rfl:k=n:=by omega
      have z1:decide ((k:Int)<(k:Int))=false:=decide_eq_false (by omega)
      rw [List.take_of_length_le (by rw [ents_len,← HN.out];omega)] at hown
      have HO:=Lib.hid (And.intro hown hB)
      clear hown hB
      go_wp2_with fail
      go_ret
      exact ⟨_,rfl,ownsRow_base HO.out.1 HR.out.2.size,HR.out.2.trans (HO.out.2.mono HR.out.2.size)⟩
end Go.Proofs.YtefekboacghnjaaGreat
