/-
  runq.Queue: Charge.
  A queue that is new since some time; dolelaw08.awake.
-/
import Derived.Test.YtefekboacghnjaaGreatMg
namespace Go.Proofs.YtefekboacghnjaaGreat
open Go.RowKit Go.Maps
theorem fadd_any (a b:Int) (ha1:-9223372036854775808≤a) (ha2:a≤9223372036854775807) (hb1:-9223372036854775808≤b) (hb2:b≤9223372036854775807) (w:World) :
    Calls Tryz.prog 88 #[.int .i64 a,.int .i64 b] w fun e w'=>∃ n,e=.returned (.tuple #[n,.bool (!overZ a b)])∧w=w':=by
  by_cases h:a+b < -9223372036854775808∨9223372036854775807<a+b
  · refine (fadd_no a b ha1 ha2 hb1 hb2 h w).mono fun e w' hp=>⟨.int .i64 0,?_,hp.2⟩
    have:overZ a b=true:=decide_eq_true (by omega)
    rw [this];exact hp.1
  · refine (fadd_yes a b ha1 ha2 hb1 hb2 (by omega) (by omega) w).mono fun e w' hp=>⟨.int .i64 (a+b),?_,hp.2⟩
    have:overZ a b=false:=decide_eq_false (by omega)
    rw [this];exact hp.1
def QRawE (w0:World) (q bm bt:Nat) (S0:List Nat) (g:Int→Nat) (X:QS) (w:World) (ks:List (Int × Int)) (K:Int) (ld:Nat) (over:Bool) (ee:En):Prop:=∃ S,QRaw w0 q bm bt S0 g X w S ks K ld over ee
theorem qraw_delete {w0 w:World} {q bm bt:Nat} {S0:List Nat} {g:Int→Nat} {X:QS} {ks:List (Int × Int)} {K K':Int} {ld:Nat} {over:Bool} {ee:En} (h:QRawE w0 q bm bt S0 g X w ks K ld over ee) (h1:1≤K) (h2:K+2*ks.length≤K') (h3:K'≤1000000000000000) (k1 k2:Int) :
    Calls Tryz.prog 89 #[.pointer (some ⟨bt,0,none⟩),keyV (k1,k2)] w fun r w5=>∃ bb,r=.returned (.bool bb)∧(w5.cell? ⟨g ee.id,2,none⟩=some (.int .i64 ee.v)∧w5.cell? ⟨g ee.id,3,none⟩=some (.int .u64 ee.rem)∧(∀ j,w5.frozen? ⟨g ee.id,j,none⟩=false)∧w5.cell? ⟨q,1,none⟩=some (.pointer (some ⟨bt,0,none⟩)))∧Hid (QRawE w0 q bm bt S0 g X w5 (ks.filter (fun y=>decide (y≠(k1,k2)))) K' ld over ee):=by
  obtain ⟨S,hR⟩:=h
  refine (delete_any bt S ks K k1 k2 w hR.tree h1 (by omega)).mono fun r w5 hp=>?_
  obtain ⟨S',hr,hT⟩:=hp
  have h5:=(hR.tree_turn hT).mono h2
  exact ⟨_,hr,⟨Blk.cell h5.ent 2,Blk.cell h5.ent 3,Blk.frozen h5.ent,Blk.cell h5.blk 1⟩,S',h5⟩
theorem qraw_insert {w0 w:World} {q bm bt:Nat} {S0:List Nat} {g:Int→Nat} {X:QS} {ks:List (Int × Int)} {K K':Int} {ld:Nat} {over:Bool} {ee:En} (h:QRawE w0 q bm bt S0 g X w ks K ld over ee) (h1:1≤K) (h2:K+ks.length+1≤K') (h3:K'≤1000000000000000) (k1 k2:Int) :
    Calls Tryz.prog 81 #[.pointer (some ⟨bt,0,none⟩),keyV (k1,k2)] w fun r w5=>∃ bb,r=.returned (.bool bb)∧Hid (QRawE w0 q bm bt S0 g X w5 (insK (k1,k2) ks) K' ld over ee):=by
  obtain ⟨S,hR⟩:=h
  refine (insert_any bt S ks K k1 k2 w hR.tree h1 (by omega)).mono fun r w5 hp=>?_
  obtain ⟨S',hr,hT⟩:=hp
  exact ⟨_,hr,S',(hR.tree_turn hT).mono h2⟩
theorem qraw_key {w0 w:World} {q bm bt:Nat} {S0:List Nat} {g:Int→Nat} {X:QS} {ks:List (Int × Int)} {K:Int} {ld:Nat} {over:Bool} {ee:En} (h:QRawE w0 q bm bt S0 g X w ks K ld over ee) {W:World} (hW:Below w.heap.size w W) :
    Calls Tryz.prog 82 #[.pointer (some ⟨g ee.id,0,none⟩)] W fun r w5=>r=.returned (keyV ee.key)∧w5.cell? ⟨q,1,none⟩=some (.pointer (some ⟨bt,0,none⟩))∧Hid (Below w.heap.size w w5):=by
  obtain ⟨S,hR⟩:=h
  refine (qkey_any (g ee.id) ee W (hR.below hW).ent).mono fun r w5 hp=>?_
  have hB:=hW.trans (hp.2.mono hW.size)
  exact ⟨hp.1,Blk.cell (hR.below hB).blk 1,hB⟩
theorem QRawE.below {w0 w w':World} {q bm bt:Nat} {S0:List Nat} {g:Int→Nat} {X:QS} {ks:List (Int × Int)} {K:Int} {ld:Nat} {over:Bool} {ee:En} (h:QRawE w0 q bm bt S0 g X w ks K ld over ee) (hW:Below w.heap.size w w'):QRawE w0 q bm bt S0 g X w' ks K ld over ee:=by
  obtain ⟨S,hR⟩:=h
  exact ⟨S,hR.below hW⟩
set_option maxRecDepth 100000 in
set_option maxHeartbeats 64000000 in
theorem qcharge_any {w:World} {q:Nat} {F:List Nat} {X:QS} {K:Int} (h:QAt w q F X K) (hK:K+1000≤1000000000000000) (ns:Nat) (hns:ns<18446744073709551616) :
    Calls Tryz.prog 50 #[.pointer (some ⟨q,0,none⟩),.int .u64 ns] w fun r w'=>∃ F',r=.returned (.int .i64 (chargeC X ns))∧Hid (QTurned w F q (chargeQ X ns) (K+1000) w' F'):=by
  obtain ⟨bm,bt,S,g,hM,rfl⟩:=h.ex
  have hk1:=hM.k1
  obtain ⟨c0,c1,c2,c3,c4,c5,cf⟩:=hM.cells
  have HS:=Lib.hid fun n=>QTurned.same h (below_drewN (Below.refl w.heap.size w) n) (show K≤K+1000 by omega) hK
  have HS0:=Lib.hid (QTurned.same h (Below.refl w.heap.size w) (show K≤K+1000 by omega) hK)
  by_cases k1:X.cur = -1
  · have hc:chargeC X ns=7:=if_pos k1
    have hg:X.get X.cur=none:=by
      cases hg:X.get X.cur with
      | none=>rfl
      | some e =>
        have h1:=QS.get_some hg
        have:=(hM.ok.ents e h1.1).i1
        omega
    have hq:chargeQ X ns=X:=by unfold chargeQ;rw [hg]
    rw [k1] at c2
    rw [hc,hq]
    clear hM hc hq hg h k1
    go_enter_defers Tryz.func50,Tryz.ntmps50
    go_wp2_with fail
    exact ⟨_,results_tmp rfl _ _ _,_,rfl,HS0.out⟩
  obtain ⟨e,he,hec⟩:∃ e,e ∈ X.L∧e.id=X.cur:=hM.ok.cur.resolve_left k1
  have heo:=hM.ok.ents e he
  have hget:X.get X.cur=some e:=by rw [← hec];exact hM.ok.get he
  have hl:=fun n=>hM.look (below_drewN (Below.refl w.heap.size w) n) X.cur (by have:=heo.i1;omega) (by have:=heo.i2;omega)
  rw [hget] at hl
  obtain ⟨cu,hcu⟩:∃ cu,cu=X.cur:=⟨_,rfl⟩
  rw [← hcu] at hl c2
  have z1:decide (cu = -1)=false:=decide_eq_false (by omega)
  have z0:(cu == -1)=false:=beq_eq_false_iff_ne.2 (by omega)
  have hBe:=hM.ents e he
  have y1:w.cell? ⟨g e.id,1,none⟩=some (.int .u64 e.wt):=Blk.cell hBe 1
  have y2:w.cell? ⟨g e.id,2,none⟩=some (.int .i64 e.v):=Blk.cell hBe 2
  have y3:w.cell? ⟨g e.id,3,none⟩=some (.int .u64 e.rem):=Blk.cell hBe 3
  have yf:=Blk.frozen hBe
  by_cases k2:1000000000<ns
  · have hc:chargeC X ns=8:=by unfold chargeC;rw [if_neg k1,if_pos k2]
    have hq:chargeQ X ns=X:=by unfold chargeQ;rw [hget];exact if_pos k2
    have MV:=Lib.hid fun W (hW:Below w.heap.size w W)=>(vcharge_any e.wt e.rem ns heo.w1 heo.w2 heo.r W).mono (R':=fun r w5=>r=.returned (.tuple #[.int .i64 0,.int .u64 0,.int .i64 8])∧Hid (QTurned w (qblocks q bm S g X) q X (K+1000) w5 (qblocks q bm S g X))) fun r w5 hp=>by
      rw [if_pos k2] at hp
      exact ⟨hp.1,QTurned.same h (hW.trans (hp.2.mono hW.size)) (by omega) hK⟩
    rw [hc,hq]
    clear hM hc hq hget h k1 he hec heo hBe hcu
    go_enter_defers Tryz.func50,Tryz.ntmps50
    go_wp2_with fail
    go_big_quiet (fail)
    go_wp2_with fail
    refine wp_region_noPanic ?_
    go_region_with (go_at_call 87;refine (MV.out _ (by first | exact (below_drewN (Below.refl _ _) _).drew | exact below_drewN (Below.refl _ _) _)).mono ?_;rintro r w5 ⟨rfl,HT⟩)
    all_goals
      refine NoPanic.normal ?_
      go_wp2_with fail
      exact ⟨_,results_tmp rfl _ _ _,_,rfl,HT.out⟩
  have hc:chargeC X ns=0:=by unfold chargeC;rw [if_neg k1,if_neg k2]
  obtain ⟨d,hd⟩:∃ d,d=(e.rem+ns*1024) / e.wt:=⟨_,rfl⟩
  obtain ⟨rm,hrm⟩:∃ rm,rm=(e.rem+ns*1024) % e.wt:=⟨_,rfl⟩
  have hdb:(d:Int)≤9223372036854775807:=by
    have h1:d≤e.rem+ns*1024:=by rw [hd];exact Nat.div_le_self _ _
    have:=heo.r
    have:=heo.w2
    omega
  obtain ⟨ov,hov⟩:∃ ov,ov=overZ e.v (d:Int):=⟨_,rfl⟩
  have hq:chargeQ X ns=({ X.set (charged e ns) with over:=X.over || ov }).raise:=by unfold chargeQ;rw [hget,hov,hd];exact if_neg k2
  obtain ⟨ld,hld⟩:∃ ld,ld=loadL X.L:=⟨_,rfl⟩
  obtain ⟨xo,hxo⟩:∃ xo,xo=X.over:=⟨_,rfl⟩
  have hR:=hM.raw he
  rw [← hld,← hxo] at hR
  rw [← hxo] at c5 hq
  have hck:(charged e ns).v=satZ e.v (d:Int):=by rw [hd];rfl
  have hcr:(charged e ns).rem=rm:=hrm.symm
  have MV:=Lib.hid fun W (hW:Below w.heap.size w W)=>(vcharge_any e.wt e.rem ns heo.w1 heo.w2 heo.r W).mono (R':=fun r w5=>r=.returned (.tuple #[.int .i64 (d:Int),.int .u64 (rm:Nat),.int .i64 0])∧(w5.cell? ⟨g e.id,2,none⟩=some (.int .i64 e.v)∧w5.cell? ⟨q,5,none⟩=some (.bool xo)∧(∀ j,w5.frozen? ⟨q,j,none⟩=false))∧Hid (QRaw w q bm bt S g X w5 S (ksOf X.L) K ld xo e)) fun r w5 hp=>by
    rw [if_neg k2,← hd,← hrm] at hp
    have hr:=hR.below (hW.trans (hp.2.mono hW.size))
    exact ⟨hp.1,⟨Blk.cell hr.ent 2,Blk.cell hr.blk 5,Blk.frozen hr.blk⟩,hr⟩
  have MA:=Lib.hid fun W=>fadd_any e.v (d:Int) heo.v1 heo.v2 (by omega) hdb W
  rw [← hov] at MA
  have MS:=Lib.hid fun W=>fsat_any e.v (d:Int) heo.v1 heo.v2 (by omega) hdb W
  have hokc:(charged e ns).ok:=⟨heo.i1,heo.i2,heo.w1,heo.w2,by rw [hck];exact satZ_lo _ _,by rw [hck];exact satZ_hi _ _,Nat.mod_lt _ (by have:=heo.w1;omega)⟩
  have HOKC:=Lib.hid hokc
  have HCH:Hid ((charged e ns).v=satZ e.v (d:Int)∧(charged e ns).rem=rm∧(charged e ns).id=e.id∧(charged e ns).wt=e.wt):=Lib.hid ⟨hck,hcr,rfl,rfl⟩
  obtain ⟨e',he'⟩:∃ e',e'=charged e ns:=⟨_,rfl⟩
  rw [← he'] at HCH HOKC hq
  have hlen:(ksOf X.L).length≤128:=Nat.le_trans (ksOf_len _) hM.ok.len
  have hlen2:((ksOf X.L).filter (fun y=>decide (y≠(e.v,e.id)))).length≤128:=Nat.le_trans (List.length_filter_le _ _) hlen
  have HM:=Lib.hid (And.intro hM he)
  have HLD:=Lib.hid (And.intro hld (And.intro hxo (And.intro hlen hlen2)))
  obtain ⟨sv,hsv⟩:∃ sv,sv=satZ e.v (d:Int):=⟨_,rfl⟩
  rw [← hsv] at MS HCH
  have HE2:Hid (e'=⟨e.id,e.wt,sv,rm⟩):=by
    obtain ⟨h1,h2,h3,h4⟩:=HCH.out
    cases e'
    simp only at h1 h2 h3 h4
    rw [h1,h2,h3,h4]
    exact rfl
  rw [hc,hq]
  clear hM hc hq hget h k1 he hec heo hBe hcu hd hrm hdb hov hld hxo hR hck hcr hokc he' hlen hlen2 hsv HS HS0
  obtain ⟨oo,hoo⟩:∃ oo,oo=(xo || ov):=⟨_,rfl⟩
  have HOO:=Lib.hid hoo
  rw [← hoo]
  clear hoo
  cases xo
  all_goals
    go_enter_defers Tryz.func50,Tryz.ntmps50
    go_wp2_with fail
    go_big_quiet (fail)
    go_wp2_with fail
    refine wp_region_noPanic ?_
    go_region_with (go_at_call 87;refine (MV.out _ (by first | exact (below_drewN (Below.refl _ _) _).drew | exact below_drewN (Below.refl _ _) _)).mono ?_;rintro r w5 ⟨rfl,⟨x2,x5,xf⟩,HR⟩)
  all_goals
    refine NoPanic.normal ?_
    clear c0 c1 c2 c3 c4 c5 cf hl y1 y2 y3 yf
    go_wp2_with (go_at_call 88;refine (MA.out _).mono ?_;rintro r w2 ⟨n,rfl,rfl⟩)
  all_goals
    refine wp_world (fun W=>W.cell? ⟨q,1,none⟩=some (.pointer (some ⟨bt,0,none⟩))∧Hid (QRawE w q bm bt S g X W (ksOf X.L) K ld oo e)) ?_ ?_
    · have hb:Blk (w5.setCell ⟨q,5,none⟩ (.bool oo)) q (qcells bm bt X.cur X.mn ld oo) 97:=Blk.set HR.out.blk 5 (.bool oo)
      have hr:=HR.out.set_q hb (fun b hb=>Below.heap_setCell _ _ _ _ hb) ((Turns.refl _ _).setCell (.inl (by simp)) _)
      first
      | (obtain rfl:oo=ov:=HOO.out
         exact ⟨Blk.cell hr.blk 1,S,hr⟩)
      | (obtain rfl:oo=true:=HOO.out
         exact ⟨Blk.cell hr.blk 1,S,hr⟩)
  all_goals
    rintro W2 ⟨x1,HR2⟩
    clear x2 x5 xf HR
    have MK:=Lib.hid fun W (hW:Below W2.heap.size W2 W)=>qraw_key HR2.out hW
    have MD:=Lib.hid fun W (hW:Below W2.heap.size W2 W)=>qraw_delete (HR2.out.below hW) hk1 (show K+2*(ksOf X.L).length≤K+256 by have:=HLD.out.2.2.1;omega) (by omega) e.v e.id
    refine wp_region_noPanic ?_
    go_region_with (first | (go_at_call 82;refine (MK.out _ (by first | exact (Below.refl _ _).drew | exact Below.refl _ _)).mono ?_;rintro r w3 ⟨rfl,x1,HB3⟩) | (go_at_call 89;refine (MD.out _ (by first | exact HB3.out | exact HB3.out.drew)).mono ?_;rintro r w6 ⟨bb,rfl,⟨y2,y3,yf,x1⟩,HR6⟩))
  all_goals
    refine NoPanic.normal ?_
    clear MK MD HR2
    go_wp2_with fail
    refine (MS.out _).mono ?_
    rintro r w7 ⟨rfl,hb7⟩
    obtain ⟨S7,hR7⟩:=HR6.out.below hb7
    have z2:w7.cell? ⟨g e.id,2,none⟩=some (.int .i64 e.v):=Blk.cell hR7.ent 2
    have z3:w7.cell? ⟨g e.id,3,none⟩=some (.int .u64 e.rem):=Blk.cell hR7.ent 3
    have zf:=Blk.frozen hR7.ent
    have HR7:=Lib.hid hR7
    clear y2 y3 yf x1 HR6 hb7 hR7
    go_wp2_with fail
    refine wp_world (fun W=>W.cell? ⟨q,1,none⟩=some (.pointer (some ⟨bt,0,none⟩))∧Hid (QRawE w q bm bt S g X W ((ksOf X.L).filter (fun y=>decide (y≠(e.v,e.id)))) (K+256) ld oo ⟨e.id,e.wt,sv,rm⟩)) ?_ ?_
    · have hb:=Blk.set (Blk.set HR7.out.ent 2 (.int .i64 sv)) 3 (.int .u64 (rm:Nat))
      have hr:=HR7.out.set_ent (ee':=⟨e.id,e.wt,sv,rm⟩) rfl hb (fun b hb=>(Below.heap_setCell _ _ _ _ hb).trans (Below.heap_setCell _ _ _ _ hb)) (((Turns.refl _ _).setCell (.inl (by simp)) _).setCell (.inl (by simp)) _)
      exact ⟨Blk.cell hr.blk 1,_,hr⟩
  all_goals
    rintro W3 ⟨x1,HR3⟩
    clear z2 z3 zf HR7
    have MK:=Lib.hid fun W (hW:Below W3.heap.size W3 W)=>qraw_key HR3.out hW
    have MI:=Lib.hid fun W (hW:Below W3.heap.size W3 W)=>qraw_insert (HR3.out.below hW) (by omega) (show K+256+((ksOf X.L).filter (fun y=>decide (y≠(e.v,e.id)))).length+1≤K+1000 by have:=HLD.out.2.2.2;omega) (by omega) sv e.id
    refine wp_region_noPanic ?_
    go_region_with (first | (go_at_call 82;refine (MK.out _ (by first | exact (Below.refl _ _).drew | exact Below.refl _ _)).mono ?_;rintro r w8 ⟨rfl,x1,HB8⟩) | (go_at_call 81;refine (MI.out _ (by first | exact HB8.out | exact HB8.out.drew)).mono ?_;rintro r w9 ⟨b2,rfl,HR9⟩))
  all_goals
    refine NoPanic.normal ?_
    clear MK MI HR3
    go_wp2_with fail
    obtain ⟨S9,hR9⟩:=HR9.out
    rw [← HE2.out] at hR9
    have hqt:=hR9.done (X':={ X.set e' with over:=oo }) rfl rfl rfl rfl (by
      have h1:=load_set (e':=e') HM.out.1.ok.ids HM.out.2 HCH.out.2.2.1
      have h2:=HLD.out.1
      have h3:=HCH.out.2.2.2
      show ld=loadL (setL X.L e')
      omega) (by
      have h1:=ksOf_set (e':=e') HM.out.1.ok.ids HM.out.2 HCH.out.2.2.1
      show _=ksOf (setL X.L e')
      rw [h1,show e'.key=(sv,e.id) by rw [HE2.out];rfl]
      rfl) (by
      have h1:=HM.out.1.ok.set HOKC.out
      exact ⟨h1.ents,h1.ids,h1.len,h1.cur,h1.m1,h1.m2⟩) (by omega) hK
    refine leaves_cons (f:=80) (args:=#[.pointer (some ⟨q,0,none⟩)]) (by simp) (by simp [go_sem]) ?_
    refine (raise_d _ hqt.at_).mono ?_
    rintro r u' w10 ⟨rfl,rfl,hRR⟩
    exact ⟨_,results_tmp rfl _ _ _,_,rfl,hqt.trans hRR.out⟩
end Go.Proofs.YtefekboacghnjaaGreat
namespace Go.Proofs.YtefekboacghnjaaGreat
open Go.RowKit Go.Maps
section
variable {w0 w w':World} {q:Nat} {X X':QS} {K K':Int}
end
end Go.Proofs.YtefekboacghnjaaGreat
