/-
  doleref08: Put.
  doleref08: Drop.
-/
import Derived.Test.YtefekboacghnjaaGreatPd
namespace Go.Proofs.YtefekboacghnjaaGreat
open Go.RowKit Go.Maps
theorem putL (X:QS) (e:En):(putQ X e).cur=X.cur∧(putQ X e).over=X.over:=by
 unfold putQ
 split <;> exact ⟨rfl,rfl⟩
set_option maxRecDepth 100000 in
set_option maxHeartbeats 3000000 in
theorem rput_any (A:Option Addr) (c:Nat) (X:QS) (e:En) (he:e.num) (w:World) (hA:RQ w w.heap.size A c X.L) (hl:X.L.length≤128) :
  Calls Tryz.prog 63 #[rqV A X.L.length c X.cur X.mn X.over,enV e] w fun r w'=>∃ A' c',r=.returned (.tuple #[rqV A' (putQ X e).L.length c' X.cur (putQ X e).mn X.over,.int .i64 (putC X e)])∧Hid (RqRes w w' A A' c' (putQ X e).L):=by
 by_cases hgood:¬(e.id<0)∧(2≤e.wt∧e.wt≤262144)∧¬(e.wt≤e.rem)∧fnd X.L e.id=none∧X.L.length<128
 ·
  refine (rput_good A c X e he w hA hgood.2.2.2.2 hgood.1 hgood.2.1 hgood.2.2.1 hgood.2.2.2.1).mono fun r w' hp=>?_
  obtain ⟨A',c',h1,h2⟩:=hp
  exact ⟨A',c',h1,h2.out.1⟩
 obtain ⟨L,cur,mn,fl⟩:=X
 dsimp only at hA hl hgood ⊢
 have HG:=Lib.hid hgood
 clear hgood
 obtain ⟨i0,hi,iz0,iz1,iz2⟩:=info_parts infoEn
 have HA:=Lib.hid hA
 obtain ⟨n,hn⟩:∃ n,n=L.length:=⟨_,rfl⟩
 have HN:=Lib.hid hn
 obtain ⟨W3,hW3,hb3,hs3,m1,m2,m3⟩:=rboxes3 w #[.slice A n c,.int .i64 cur,.int .i64 mn,.bool fl] #[.int .i64 e.id,.int .u64 e.wt,.int .i64 e.v,.int .u64 e.rem] #[.slice none 0 0,.int .i64 0,.int .i64 0,.bool false] 29 34 29
 have MF:=rfind_any A c L cur mn fl e.id W3 ((hA.1.below hb3).mono (by omega)) (by omega)
 rw [← hn] at MF
 have MF:=Lib.hid MF
 have MM:=Lib.hid fun W=>rmay_any e.wt he.w2 W
 have HW3:=Lib.hid hW3
 have HM:=Lib.hid (And.intro m1 (And.intro m2 m3))
 have HB3:=Lib.hid (And.intro hb3 hs3)
 have x0:W3.cell? ⟨w.heap.size,0,none⟩=some (.slice A n c):=Blk.cell m1 0
 have x1:W3.cell? ⟨w.heap.size,1,none⟩=some (.int .i64 cur):=Blk.cell m1 1
 have x2:W3.cell? ⟨w.heap.size,2,none⟩=some (.int .i64 mn):=Blk.cell m1 2
 have x3:W3.cell? ⟨w.heap.size,3,none⟩=some (.bool fl):=Blk.cell m1 3
 have y0:W3.cell? ⟨w.heap.size+1,0,none⟩=some (.int .i64 e.id):=Blk.cell m2 0
 have y1:W3.cell? ⟨w.heap.size+1,1,none⟩=some (.int .u64 e.wt):=Blk.cell m2 1
 have y3:W3.cell? ⟨w.heap.size+1,3,none⟩=some (.int .u64 e.rem):=Blk.cell m2 3
 have r0:W3.cell? ⟨w.heap.size+2,0,none⟩=some (.slice none 0 0):=Blk.cell m3 0
 have r1:W3.cell? ⟨w.heap.size+2,1,none⟩=some (.int .i64 0):=Blk.cell m3 1
 have r2:W3.cell? ⟨w.heap.size+2,2,none⟩=some (.int .i64 0):=Blk.cell m3 2
 have r3:W3.cell? ⟨w.heap.size+2,3,none⟩=some (.bool false):=Blk.cell m3 3
 have fr:=Blk.frozen m3
 have HSAME:Hid (∀ z,putC ⟨L,cur,mn,fl⟩ e=z→z≠0→putQ ⟨L,cur,mn,fl⟩ e=⟨L,cur,mn,fl⟩):=Lib.hid fun z hz h0=>if_neg (by rw [hz];exact h0)
 have hlp:n≤128:=by omega
 clear hW3 m1 m2 m3 hb3 hs3 hA hl hn
 have hiv:=he.i1
 have hwb:=he.w2
 by_cases c1:e.id<0
 ·
  have hc:putC ⟨L,cur,mn,fl⟩ e=1:=if_pos c1
  rw [HSAME.out 1 hc (by decide),hc]
  dsimp only
  rw [← HN.out]
  have d1:decide (e.id<0)=true:=decide_eq_true c1
  clear c1 hc
  clear r0 r1 r2 r3 x0 x1 x2 x3 y0 y1 y3 fr
  go_enter Tryz.func63,Tryz.ntmps63
  go_wp2_with fail
  refine bodyPost_ret (v:=.tuple #[rqV A n c cur mn fl,.int .i64 1]) (by simp [results,Tryz.results63,go_sem]) rfl ⟨A,c,rfl,?_⟩
  exact RqRes.same HA.out ((((Below.refl _ _).alloc (Nat.le_refl _) _).alloc (by simp) _).alloc (by simp;omega) _)
 ·
  have d1:decide (e.id<0)=false:=decide_eq_false c1
  by_cases c2:2≤e.wt∧e.wt≤262144
  ·
   rw [decide_eq_true c2] at MM
   have c2':¬ (e.wt<2∨262144<e.wt):=by omega
   by_cases c3:e.wt≤e.rem
   ·
    have hc:putC ⟨L,cur,mn,fl⟩ e=1:=by
     unfold putC
     rw [if_neg c1,if_neg c2',if_pos c3]
    rw [HSAME.out 1 hc (by decide),hc]
    dsimp only
    rw [← HN.out]
    have d3:decide ((e.wt:Int)≤(e.rem:Int))=true:=decide_eq_true (by omega)
    have d3':decide (e.wt≤e.rem)=true:=decide_eq_true c3
    clear hc c2 c2' c3
    go_enter Tryz.func63,Tryz.ntmps63
    go_wp2_with fail
    rw [← HW3.out]
    refine (MM.out _).mono ?_
    rintro r w' ⟨rfl,rfl⟩
    go_wp2_with fail
    refine bodyPost_ret (v:=.tuple #[rqV A n c cur mn fl,.int .i64 1]) (by simp [results,Tryz.results63,go_sem,r0,r1,r2,r3]) rfl ⟨A,c,rfl,?_⟩
    exact RqRes.same HA.out (four_below HB3.out.1 _ (by omega) _ _ _ _)
   ·
    have d3:decide ((e.wt:Int)≤(e.rem:Int))=false:=decide_eq_false (by omega)
    have d3':decide (e.wt≤e.rem)=false:=decide_eq_false c3
    cases hf:fnd L e.id with
    | some k =>
     obtain ⟨hk,hki,_⟩:=fnd_at hf
     have hin:e.id ∈ L.map (·.id):=List.mem_map.2 ⟨L.getD k En.nil,by rw [getD_at L hk];exact List.getElem_mem _,hki⟩
     have hc:putC ⟨L,cur,mn,fl⟩ e=6:=by
      unfold putC
      rw [if_neg c1,if_neg c2',if_neg c3,if_pos hin]
     rw [HSAME.out 6 hc (by decide),hc]
     dsimp only
     rw [← HN.out]
     rw [hf,show idxZ (some k)=(k:Int) from rfl] at MF
     have k2:decide ((0:Int)≤(k:Int))=true:=decide_eq_true (Int.natCast_nonneg _)
     clear hc c2 c2' c3 hin hf hk hki
     go_enter Tryz.func63,Tryz.ntmps63
     go_wp2_with fail
     rw [← HW3.out]
     refine (MM.out _).mono ?_
     rintro r w' ⟨rfl,rfl⟩
     go_wp2_with fail
     refine MF.out.mono ?_
     rintro r w5 ⟨rfl,hb5⟩
     have k5:=HM.out.2.2.below hb5 HM.out.2.2.lt
     have l5:=HM.out.1.below hb5 HM.out.1.lt
     clear r0 r1 r2 r3 x0 x1 x2 x3 y0 y1 y3 fr
     have x0:w5.cell? ⟨w.heap.size,0,none⟩=some (.slice A n c):=Blk.cell l5 0
     have x1:w5.cell? ⟨w.heap.size,1,none⟩=some (.int .i64 cur):=Blk.cell l5 1
     have x2:w5.cell? ⟨w.heap.size,2,none⟩=some (.int .i64 mn):=Blk.cell l5 2
     have x3:w5.cell? ⟨w.heap.size,3,none⟩=some (.bool fl):=Blk.cell l5 3
     have r0:w5.cell? ⟨w.heap.size+2,0,none⟩=some (.slice none 0 0):=Blk.cell k5 0
     have r1:w5.cell? ⟨w.heap.size+2,1,none⟩=some (.int .i64 0):=Blk.cell k5 1
     have r2:w5.cell? ⟨w.heap.size+2,2,none⟩=some (.int .i64 0):=Blk.cell k5 2
     have r3:w5.cell? ⟨w.heap.size+2,3,none⟩=some (.bool false):=Blk.cell k5 3
     have fr:=Blk.frozen k5
     have H5:=Lib.hid (HB3.out.1.trans (hb5.mono HB3.out.1.size))
     clear k5 l5 hb5
     go_wp2_with fail
     refine bodyPost_ret (v:=.tuple #[rqV A n c cur mn fl,.int .i64 6]) (by simp [results,Tryz.results63,go_sem,r0,r1,r2,r3]) rfl ⟨A,c,rfl,?_⟩
     exact RqRes.same HA.out (four_below H5.out _ (by omega) _ _ _ _)
    | none =>
     have hnin:=(fnd_not hf).2
     rw [hf,show idxZ none = -1 from rfl] at MF
     by_cases c5:n=128
     ·
      have hc:putC ⟨L,cur,mn,fl⟩ e=3:=by
       unfold putC
       rw [if_neg c1,if_neg c2',if_neg c3,if_neg hnin,if_pos (by show L.length=128;rw [← HN.out];exact c5)]
      rw [HSAME.out 3 hc (by decide),hc]
      dsimp only
      rw [← HN.out]
      have d5:decide ((128:Int)≤(n:Int))=true:=decide_eq_true (by omega)
      have d5':decide (128≤n)=true:=decide_eq_true (by omega)
      clear hc c2 c2' c3 hnin hf
      have HC5:=Lib.hid c5
      clear c5
      go_enter Tryz.func63,Tryz.ntmps63
      go_wp2_with fail
      rw [← HW3.out]
      refine (MM.out _).mono ?_
      rintro r w' ⟨rfl,rfl⟩
      go_wp2_with fail
      refine MF.out.mono ?_
      rintro r w5 ⟨rfl,hb5⟩
      have k5:=HM.out.2.2.below hb5 HM.out.2.2.lt
      have l5:=HM.out.1.below hb5 HM.out.1.lt
      clear r0 r1 r2 r3 x0 x1 x2 x3 y0 y1 y3 fr
      have x0:w5.cell? ⟨w.heap.size,0,none⟩=some (.slice A n c):=Blk.cell l5 0
      have x1:w5.cell? ⟨w.heap.size,1,none⟩=some (.int .i64 cur):=Blk.cell l5 1
      have x2:w5.cell? ⟨w.heap.size,2,none⟩=some (.int .i64 mn):=Blk.cell l5 2
      have x3:w5.cell? ⟨w.heap.size,3,none⟩=some (.bool fl):=Blk.cell l5 3
      have r0:w5.cell? ⟨w.heap.size+2,0,none⟩=some (.slice none 0 0):=Blk.cell k5 0
      have r1:w5.cell? ⟨w.heap.size+2,1,none⟩=some (.int .i64 0):=Blk.cell k5 1
      have r2:w5.cell? ⟨w.heap.size+2,2,none⟩=some (.int .i64 0):=Blk.cell k5 2
      have r3:w5.cell? ⟨w.heap.size+2,3,none⟩=some (.bool false):=Blk.cell k5 3
      have fr:=Blk.frozen k5
      have H5:=Lib.hid (HB3.out.1.trans (hb5.mono HB3.out.1.size))
      clear k5 l5 hb5
      go_wp2_with fail
      refine bodyPost_ret (v:=.tuple #[rqV A n c cur mn fl,.int .i64 3]) (by simp [results,Tryz.results63,go_sem,r0,r1,r2,r3]) rfl ⟨A,c,rfl,?_⟩
      exact RqRes.same HA.out (four_below H5.out _ (by omega) _ _ _ _)
     · exact absurd ⟨c1,c2,c3,hf,by rw [← HN.out];omega⟩ HG.out
  ·
   rw [decide_eq_false c2] at MM
   have hc:putC ⟨L,cur,mn,fl⟩ e=4:=by
    unfold putC
    rw [if_neg c1,if_pos (by show e.wt<2∨262144<e.wt;omega)]
   rw [HSAME.out 4 hc (by decide),hc]
   dsimp only
   rw [← HN.out]
   clear hc c2
   go_enter Tryz.func63,Tryz.ntmps63
   go_wp2_with fail
   rw [← HW3.out]
   refine (MM.out _).mono ?_
   rintro r w' ⟨rfl,rfl⟩
   go_wp2_with fail
   refine bodyPost_ret (v:=.tuple #[rqV A n c cur mn fl,.int .i64 4]) (by simp [results,Tryz.results63,go_sem,r0,r1,r2,r3]) rfl ⟨A,c,rfl,?_⟩
   exact RqRes.same HA.out (four_below HB3.out.1 _ (by omega) _ _ _ _)
theorem rput_any2 (A:Option Addr) (c:Nat) (X:QS) (e:En) (he:e.num) (w:World) (hA:RQ w w.heap.size A c X.L) (hl:X.L.length≤128) :
  Calls Tryz.prog 63 #[rqV A X.L.length c X.cur X.mn X.over,enV e] w fun r w'=>∃ A' c',r=.returned (.tuple #[rqV A' (putQ X e).L.length c' (putQ X e).cur (putQ X e).mn (putQ X e).over,.int .i64 (putC X e)])∧Hid (RqRes w w' A A' c' (putQ X e).L∧((putQ X e).L=X.L∨∀ a,A'=some a→w.heap.size≤a.block)):=by
 rw [(putL X e).1,(putL X e).2]
 by_cases hgood:¬(e.id<0)∧(2≤e.wt∧e.wt≤262144)∧¬(e.wt≤e.rem)∧fnd X.L e.id=none∧X.L.length<128
 ·
  refine (rput_good A c X e he w hA hgood.2.2.2.2 hgood.1 hgood.2.1 hgood.2.2.1 hgood.2.2.2.1).mono fun r w' hp=>?_
  obtain ⟨A',c',h1,h2⟩:=hp
  exact ⟨A',c',h1,h2.out.1,.inr h2.out.2⟩
 ·
  refine (rput_any A c X e he w hA hl).mono fun r w' hp=>?_
  obtain ⟨A',c',h1,h2⟩:=hp
  refine ⟨A',c',h1,h2.out,.inl ?_⟩
  have hne:putC X e≠0:=by
   intro hz
   apply hgood
   unfold putC at hz
   split at hz
   · simp at hz
   split at hz
   · simp at hz
   split at hz
   · simp at hz
   split at hz
   · simp at hz
   split at hz
   · simp at hz
   rename_i a1 a2 a3 a4 a5
   refine ⟨a1,by omega,a3,?_,by omega⟩
   cases hf:fnd X.L e.id with
   | none=>rfl
   | some k =>
    obtain ⟨k1,k2,_⟩:=fnd_at hf
    exact absurd (List.mem_map.2 ⟨X.L.getD k En.nil,by rw [getD_at _ k1];exact List.getElem_mem _,k2⟩) a4
  unfold putQ
  rw [if_neg hne]
end Go.Proofs.YtefekboacghnjaaGreat
namespace Go.Proofs.YtefekboacghnjaaGreat
open Go.RowKit Go.Maps
def dropL (L:List En) (i:Int):List En:=match fnd L i with
 | none=>L
 | some k=>L.take k++L.drop (k+1)
def dropM (L:List En) (mn i:Int):Int:=match fnd L i with
 | none=>mn
 | some k=>raiseZ mn (L.take k++L.drop (k+1))
def dropU (L:List En) (cur i:Int):Int:=match fnd L i with
 | none=>cur
 | some _=>if cur=i then -1 else cur
def dropE (L:List En) (i:Int):En:=match fnd L i with
 | none=>⟨0,0,0,0⟩
 | some k=>L.getD k En.nil
def dropR (L:List En) (i:Int):Int:=match fnd L i with
 | none=>12
 | some _=>0
theorem RQ.put4 {w w9:World} {A2:Option Addr} {c2 b:Nat} {L:List En} (hB:Below w.heap.size w w9) (hq:RQ w9 w9.heap.size A2 c2 L) (hg:∀ a,A2=some a→a.block≠b) (hb:w.heap.size≤b) (u0 u1 u2 u3:Value) :
  Below w.heap.size w ((((w9.setCell ⟨b,0,none⟩ u0).setCell ⟨b,1,none⟩ u1).setCell ⟨b,2,none⟩ u2).setCell ⟨b,3,none⟩ u3)∧RQ ((((w9.setCell ⟨b,0,none⟩ u0).setCell ⟨b,1,none⟩ u1).setCell ⟨b,2,none⟩ u2).setCell ⟨b,3,none⟩ u3) ((((w9.setCell ⟨b,0,none⟩ u0).setCell ⟨b,1,none⟩ u1).setCell ⟨b,2,none⟩ u2).setCell ⟨b,3,none⟩ u3).heap.size A2 c2 L:=by
 have hs:=four_sz w9 b u0 u1 u2 u3
 have ho:∀ c,c≠b→_:=fun c h=>four_far w9 b u0 u1 u2 u3 (c:=c) h
 have hf:=four_below hB b hb u0 u1 u2 u3
 generalize (((w9.setCell ⟨b,0,none⟩ u0).setCell ⟨b,1,none⟩ u1).setCell ⟨b,2,none⟩ u2).setCell ⟨b,3,none⟩ u3=W at *
 refine ⟨hf,?_,hq.2⟩
 rcases hq.1 with h | ⟨b2,off,q1,q2,q3⟩
 · exact .inl h
 · exact .inr ⟨b2,off,q1,by omega,fun j hj=>(q3 j hj).of (ho b2 (hg _ q1))⟩
theorem flat_take (L:List En) (k:Nat):∀ (j:Nat) (u:Value),((L.take k).flatMap ecl)[j]?=some u→(L.flatMap ecl)[j]?=some u:=fun j u h=>by
 have e:L.flatMap ecl=(L.take k).flatMap ecl++(L.drop k).flatMap ecl:=by rw [← List.flatMap_append,List.take_append_drop]
 rw [e,List.getElem?_append_left (List.getElem?_eq_some_iff.1 h).1]
 exact h
theorem flat_drop (L:List En) {k:Nat} (hk:k≤L.length):∀ (j:Nat) (u:Value),((L.drop k).flatMap ecl)[j]?=some u→(L.flatMap ecl)[k*4+j]?=some u:=fun j u h=>by
 have e:L.flatMap ecl=(L.take k).flatMap ecl++(L.drop k).flatMap ecl:=by rw [← List.flatMap_append,List.take_append_drop]
 have hl:((L.take k).flatMap ecl).length=k*4:=by rw [ecl_len,List.length_take,Nat.min_eq_left hk]
 rw [e,List.getElem?_append_right (by omega),hl,Nat.add_sub_cancel_left]
 exact h
set_option maxRecDepth 100000 in
set_option maxHeartbeats 16000000 in
theorem rdrop_none (A:Option Addr) (c:Nat) (L:List En) (cur mn:Int) (fl:Bool) (i:Int) (w:World) (hA:RQ w w.heap.size A c L) (hl:L.length≤128) (hf:fnd L i=none) :
  Calls Tryz.prog 66 #[rqV A L.length c cur mn fl,.int .i64 i] w fun r w'=>r=.returned (.tuple #[rqV A L.length c cur mn fl,.agg zeroE,.int .i64 12])∧Hid (RqRes w w' A A c L):=by
 have HA:=Lib.hid hA
 obtain ⟨n,hn⟩:∃ n,n=L.length:=⟨_,rfl⟩
 obtain ⟨W3,hW3,hb3,hs3,m1,m2,m3⟩:=rboxes3 w #[.slice A n c,.int .i64 cur,.int .i64 mn,.bool fl] #[.slice none 0 0,.int .i64 0,.int .i64 0,.bool false] zeroE 29 29 34
 have MF:=rfind_any A c L cur mn fl i W3 ((hA.1.below hb3).mono (by omega)) (by omega)
 rw [← hn,hf,show idxZ none = -1 from rfl] at MF
 have MF:=Lib.hid MF
 have HW3:=Lib.hid hW3
 have HM:=Lib.hid (And.intro m1 (And.intro m2 m3))
 have HB3:=Lib.hid (And.intro hb3 hs3)
 have x0:W3.cell? ⟨w.heap.size,0,none⟩=some (.slice A n c):=Blk.cell m1 0
 have x1:W3.cell? ⟨w.heap.size,1,none⟩=some (.int .i64 cur):=Blk.cell m1 1
 have x2:W3.cell? ⟨w.heap.size,2,none⟩=some (.int .i64 mn):=Blk.cell m1 2
 have x3:W3.cell? ⟨w.heap.size,3,none⟩=some (.bool fl):=Blk.cell m1 3
 rw [← hn]
 clear hW3 m1 m2 m3 hb3 hs3 hA hn hf hl
 go_enter Tryz.func66,Tryz.ntmps66
 go_wp2_with fail
 rw [← HW3.out]
 refine MF.out.mono ?_
 rintro r w5 ⟨rfl,hb5⟩
 have k4:=HM.out.2.1.below hb5 HM.out.2.1.lt
 have k5:=HM.out.2.2.below hb5 HM.out.2.2.lt
 have l5:=HM.out.1.below hb5 HM.out.1.lt
 clear x0 x1 x2 x3
 have x0:w5.cell? ⟨w.heap.size,0,none⟩=some (.slice A n c):=Blk.cell l5 0
 have x1:w5.cell? ⟨w.heap.size,1,none⟩=some (.int .i64 cur):=Blk.cell l5 1
 have x2:w5.cell? ⟨w.heap.size,2,none⟩=some (.int .i64 mn):=Blk.cell l5 2
 have x3:w5.cell? ⟨w.heap.size,3,none⟩=some (.bool fl):=Blk.cell l5 3
 have r0:w5.cell? ⟨w.heap.size+1,0,none⟩=some (.slice none 0 0):=Blk.cell k4 0
 have r1:w5.cell? ⟨w.heap.size+1,1,none⟩=some (.int .i64 0):=Blk.cell k4 1
 have r2:w5.cell? ⟨w.heap.size+1,2,none⟩=some (.int .i64 0):=Blk.cell k4 2
 have r3:w5.cell? ⟨w.heap.size+1,3,none⟩=some (.bool false):=Blk.cell k4 3
 have e0:w5.cell? ⟨w.heap.size+2,0,none⟩=some (.int .i64 0):=Blk.cell k5 0
 have e1:w5.cell? ⟨w.heap.size+2,1,none⟩=some (.int .u64 0):=Blk.cell k5 1
 have e2:w5.cell? ⟨w.heap.size+2,2,none⟩=some (.int .i64 0):=Blk.cell k5 2
 have e3:w5.cell? ⟨w.heap.size+2,3,none⟩=some (.int .u64 0):=Blk.cell k5 3
 have fr:=Blk.frozen k4
 have fe:=Blk.frozen k5
 have H5:=Lib.hid (HB3.out.1.trans (hb5.mono HB3.out.1.size))
 clear k4 k5 l5 hb5
 go_wp2_with fail
 refine bodyPost_ret (v:=.tuple #[rqV A n c cur mn fl,.agg zeroE,.int .i64 12]) (by simp [results,Tryz.results66,go_sem,r0,r1,r2,r3,e0,e1,e2,e3]) rfl ⟨rfl,?_⟩
 exact RqRes.same HA.out (four_below (four_below H5.out _ (by omega) _ _ _ _) _ (by omega) _ _ _ _)
set_option maxRecDepth 100000 in
set_option maxHeartbeats 16000000 in
theorem rdrop_some (A:Option Addr) (c:Nat) (L:List En) (cur mn:Int) (fl:Bool) (i:Int) (w:World) (hA:RQ w w.heap.size A c L) (hl:L.length≤128) {k:Nat} (hf:fnd L i=some k) :
  Calls Tryz.prog 66 #[rqV A L.length c cur mn fl,.int .i64 i] w fun r w'=>∃ A' c',r=.returned (.tuple #[rqV A' (L.take k++L.drop (k+1)).length c' (if cur=i then -1 else cur) (raiseZ mn (L.take k++L.drop (k+1))) fl,enV (L.getD k En.nil),.int .i64 0])∧Hid (RqRes w w' A A' c' (L.take k++L.drop (k+1))):=by
 obtain ⟨i0,hi,iz0,iz1,iz2⟩:=info_parts infoEn
 have HA:=Lib.hid hA
 obtain ⟨hk,_,_⟩:=fnd_at hf
 obtain ⟨LR,hLR⟩:∃ LR,LR=L.take k++L.drop (k+1):=⟨_,rfl⟩
 obtain ⟨ln,hln⟩:∃ ln,ln=LR.length:=⟨_,rfl⟩
 obtain ⟨cu,hcu0⟩:∃ cu,cu=if cur=i then -1 else cur:=⟨_,rfl⟩
 obtain ⟨rmm,hrmm⟩:∃ rmm,rmm=raiseZ mn LR:=⟨_,rfl⟩
 obtain ⟨ee,hee⟩:∃ ee,ee=L.getD k En.nil:=⟨_,rfl⟩
 rw [← hLR,← hln,← hcu0,← hrmm,← hee]
 have HRES:=Lib.hid (And.intro hLR (And.intro hln (And.intro hcu0 (And.intro hrmm hee))))
 clear hLR hln hcu0 hrmm hee
 obtain ⟨n,hn⟩:∃ n,n=L.length:=⟨_,rfl⟩
 have HN:=Lib.hid hn
 obtain ⟨b,off,rfl,hb,hc⟩:=hA.1.at_ (by omega)
 have hcap:n≤c:=by rw [hn];exact hA.2.2
 obtain ⟨W3,hW3,hb3,hs3,m1,m2,m3⟩:=rboxes3 w #[.slice (some ⟨b,off,none⟩) n c,.int .i64 cur,.int .i64 mn,.bool fl] #[.slice none 0 0,.int .i64 0,.int .i64 0,.bool false] zeroE 29 29 34
 have MF:=rfind_any (some ⟨b,off,none⟩) c L cur mn fl i W3 ((hA.1.below hb3).mono (by omega)) (by omega)
 rw [← hn,hf,show idxZ (some k)=(k:Int) from rfl] at MF
 have MF:=Lib.hid MF
 have HW3:=Lib.hid hW3
 have HM:=Lib.hid (And.intro m1 (And.intro m2 m3))
 have HB3:=Lib.hid (And.intro hb3 hs3)
 have x0:W3.cell? ⟨w.heap.size,0,none⟩=some (.slice (some ⟨b,off,none⟩) n c):=Blk.cell m1 0
 have x1:W3.cell? ⟨w.heap.size,1,none⟩=some (.int .i64 cur):=Blk.cell m1 1
 have x2:W3.cell? ⟨w.heap.size,2,none⟩=some (.int .i64 mn):=Blk.cell m1 2
 have x3:W3.cell? ⟨w.heap.size,3,none⟩=some (.bool fl):=Blk.cell m1 3
 rw [← hn] at hk hl ⊢
 have z1:decide ((k:Int)<0)=false:=decide_eq_false (by omega)
 have j0:(0:Int)≤(k:Int):=Int.natCast_nonneg _
 have j1:(k:Int)<(n:Int):=by omega
 have j2:decide (k<n)=true:=decide_eq_true hk
 have HCC:=Lib.hid (And.intro hb (hc k (by rw [← hn];exact hk)))
 clear hW3 m1 m2 m3 hb3 hs3 hA hn hf hb hc
 go_enter Tryz.func66,Tryz.ntmps66
 go_wp2_with fail
 rw [← HW3.out]
 refine MF.out.mono ?_
 rintro r w5 ⟨rfl,hb5⟩
 have l5:=HM.out.1.below hb5 HM.out.1.lt
 clear x0 x1 x2 x3
 have x0:w5.cell? ⟨w.heap.size,0,none⟩=some (.slice (some ⟨b,off,none⟩) n c):=Blk.cell l5 0
 have hB5:=HB3.out.1.trans (hb5.mono HB3.out.1.size)
 obtain ⟨e0,e1,e2,e3⟩:=HCC.out.2.below hB5 HCC.out.1
 have H5:=Lib.hid (And.intro hB5 hb5)
 have hs5:w.heap.size+3≤w5.heap.size:=by have:=hb5.size;have:=HB3.out.2;omega
 obtain ⟨en,hen⟩:∃ en,en=L.getD k En.nil:=⟨_,rfl⟩
 rw [← hen] at e0 e1 e2 e3
 have HEN:=Lib.hid hen
 clear l5 hb5 hB5 hen
 go_wp2_with fail
 obtain ⟨w6,hw6⟩:∃ w6,w6=w5.alloc (.cells #[.int .i64 en.id,.int .u64 en.wt,.int .i64 en.v,.int .u64 en.rem] 34):=⟨_,rfl⟩
 rw [← hw6]
 have hb6:Below w5.heap.size w5 w6:=by rw [hw6];exact (Below.refl _ _).alloc (Nat.le_refl _) _
 have hk6:Blk w6 w5.heap.size #[.int .i64 en.id,.int .u64 en.wt,.int .i64 en.v,.int .u64 en.rem] 34:=by rw [hw6];exact Blk.new _ _ _
 obtain ⟨B0,hB0⟩:∃ B0,B0=w6.heap.size:=⟨_,rfl⟩
 obtain ⟨k1,hk1⟩:∃ k1,k1=k+1:=⟨_,rfl⟩
 have hk1n:k1≤n:=by omega
 have hBB:B0≤w6.heap.size:=by omega
 have hB5:w5.heap.size<B0:=by rw [hB0];exact hk6.lt
 have hBw:Below w.heap.size w w6:=H5.out.1.trans (hb6.mono H5.out.1.size)
 have hm1:=(HM.out.1.below H5.out.2 HM.out.1.lt).below hb6 (by omega)
 have hm2:=(HM.out.2.1.below H5.out.2 HM.out.2.1.lt).below hb6 (by omega)
 have hm3:=(HM.out.2.2.below H5.out.2 HM.out.2.2.lt).below hb6 (by omega)
 have HS5:Hid (∀ W,Below B0 w6 W→W.cell? ⟨w.heap.size,0,none⟩=some (.slice (some ⟨b,off,none⟩) n c)):=Lib.hid fun W hW=>Blk.cell (hm1.below hW (by omega)) 0
 have HFX:Hid (∀ W,Below B0 w6 W→∀ j,W.frozen? ⟨w.heap.size,j,none⟩=false):=Lib.hid fun W hW=>Blk.frozen (hm1.below hW (by omega))
 have HBL:Hid (∀ W,Below B0 w6 W→Below w.heap.size w W):=Lib.hid fun W hW=>hBw.trans (hW.mono (by omega))
 have hk1n':k1≤L.length:=by rw [← HN.out];exact hk1n
 have HL1:Hid (((L.take k).flatMap ecl).length=k*4):=Lib.hid (by rw [ecl_len,List.length_take,Nat.min_eq_left (by omega)])
 have HL2:Hid (((L.drop k1).flatMap ecl).length=(n - k1)*4):=Lib.hid (by rw [ecl_len,List.length_drop,← HN.out])
 have HO1:=Lib.hid (ecl_one (L.take k))
 have HO2:=Lib.hid (ecl_one (L.drop k1))
 have HSRC1:Hid (∀ W,Below w.heap.size w W→∀ (j:Nat) (u:Value),((L.take k).flatMap ecl)[j]?=some u→W.cell? ((⟨b,off,none⟩:Addr).add j)=some u):=Lib.hid fun W hW j u h=>(HA.out.1.below hW).cells j u (flat_take L k j u h)
 have HSRC2:Hid (∀ W,Below w.heap.size w W→((if c=k1 then some (⟨b,off,none⟩:Addr) else some ⟨b,off+k1*4,none⟩)=none∧n - k1=0∧c - k1=0)∨∃ ad,(if c=k1 then some (⟨b,off,none⟩:Addr) else some ⟨b,off+k1*4,none⟩)=some ad∧∀ (j:Nat) (u:Value),((L.drop k1).flatMap ecl)[j]?=some u→W.cell? (ad.add j)=some u):=Lib.hid fun W hW=>by
  right
  by_cases hck:c=k1
  ·
   rw [if_pos hck]
   refine ⟨_,rfl,fun j u h=>?_⟩
   have hnil:L.drop k1=[]:=List.drop_eq_nil_of_le (by rw [← HN.out];omega)
   rw [hnil] at h
   simp at h
  ·
   rw [if_neg hck]
   refine ⟨_,rfl,fun j u h=>?_⟩
   have:=(HA.out.1.below hW).cells _ u (flat_drop L hk1n' j u h)
   rw [addr_add] at this ⊢
   rw [← Nat.add_assoc] at this
   exact this
 obtain ⟨L',hL'⟩:∃ L',L'=L.take k++L.drop k1:=⟨_,rfl⟩
 have hLn:L'.length=n - 1:=by
  rw [hL',List.length_append,List.length_take,List.length_drop,← HN.out,Nat.min_eq_left (by omega)]
  omega
 have HOW:Hid (∀ (W:World) (v:Value),W.ownsRow B0 34 4 v (0+k+(n - k1)) ([]++(L.take k).flatMap ecl++(L.drop k1).flatMap ecl)→∃ A2 c2,v=.slice A2 (n - 1) c2∧RQ W W.heap.size A2 c2 L'∧∀ a,A2=some a→B0≤a.block):=Lib.hid fun W v h=>by
  have e1:[]++(L.take k).flatMap ecl++(L.drop k1).flatMap ecl=L'.flatMap ecl:=by rw [hL',List.nil_append,List.flatMap_append]
  rw [e1,show 0+k+(n - k1)=L'.length by omega] at h
  obtain ⟨A2,c2,q1,q2,q3⟩:=own_rq h
  rw [hLn] at q1
  exact ⟨A2,c2,q1,q2,q3⟩
 have e9:IntKind.i64.wrap ((k:Int)+1)=(k1:Int):=by rw [IntKind.wrap_i64];omega
 have j3:(k:Int)≤(c:Int):=by omega
 have j4:(0:Int)≤(k1:Int):=Int.natCast_nonneg _
 have j5:(k1:Int)≤(n:Int):=by omega
 have j6:(n:Int)≤(c:Int):=by omega
 have HM6:=Lib.hid (And.intro hm1 (And.intro hm2 (And.intro hm3 (And.intro hk6 hBw))))
 have HLL:=Lib.hid (And.intro hL' (And.intro hLn hk1))
 clear hw6 hb6 hk6 hB0 hBw hm1 hm2 hm3 hk1n' hL' hLn hk1 x0 e0 e1 e2 e3
 refine wp_region_any mixed8 ?_
 change wpAny _ _ _ _ _ _ _ w6.drew
 refine wpAny_inv0 (fun a=>a.tmps[2]?.getD undef=.pointer (some ⟨w.heap.size,0,none⟩)∧a.tmps[7]?.getD undef=.int .i64 (k:Int)∧a.tmps.size=42) ⟨rfl,rfl,rfl⟩
  (fun a0 l a W=>∃ x:Nat→Value,a=putR a0 21 13 x∧(lsd l 13=false→Below (B0) w6 W)∧(lsd l 1=true→x 22=.pointer (some ⟨w.heap.size,0,none⟩))∧(lsd l 2=true→x 23=.slice (some ⟨b,off,none⟩) n c)∧(lsd l 3=true→x 24=.int .i64 (k:Int))∧(lsd l 4=true→x 25=.slice (some ⟨b,off,none⟩) k c)∧(lsd l 6=true→x 27=.pointer (some ⟨w.heap.size,0,none⟩))∧(lsd l 7=true→x 28=.slice (some ⟨b,off,none⟩) n c)∧(lsd l 8=true→x 29=.int .i64 (k:Int))∧(lsd l 9=true→x 30=.int .i64 (k1:Int))∧(lsd l 10=true→x 31=.slice (if c=k1 then some ⟨b,off,none⟩ else some ⟨b,off+k1*4,none⟩) (n - k1) (c - k1))∧(lsd l 12=true→x 33=.pointer (some ⟨w.heap.size,0,none⟩))∧(lsd l 0=true→lsd l 5=false→W.ownsRow (B0) 34 4 (x 21) 0 [])∧(lsd l 5=true→lsd l 11=false→W.ownsRow (B0) 34 4 (x 26) (0+k) ([]++(L.take k).flatMap ecl))∧(lsd l 11=true→lsd l 13=false→W.ownsRow (B0) 34 4 (x 32) (0+k+(n - k1)) ([]++(L.take k).flatMap ecl++(L.drop k1).flatMap ecl))∧(lsd l 13=true→∃ W0,Below (B0) w6 W0∧W0.ownsRow (B0) 34 4 (x 32) (0+k+(n - k1)) ([]++(L.take k).flatMap ecl++(L.drop k1).flatMap ecl)∧W=W0.setCell ⟨w.heap.size,0,none⟩ (x 32))) ?_ ?_ ?_
 ·
  intro a0 _
  obtain ⟨x,hx⟩:=putR_start a0 21 13
  have hn:∀ {p:Prop} {j:Nat},lsd (Array.replicate 14 false) j=true→p:=fun h=>by
   rw [lsd_start] at h
   exact absurd h (by decide)
  exact ⟨x,hx,fun _=>(Below.refl _ _).drew,hn,hn,hn,hn,hn,hn,hn,hn,hn,hn,hn,hn,hn,hn⟩
 ·
  rintro a0 ⟨f2,f7,fs⟩ l a W hsz hcl ⟨x,rfl,iB,i1,i2,i3,i4,i6,i7,i8,i9,i10,i12,o0,o5,o11,iE⟩ i hir
  obtain ⟨hi14,hui,o,ho,hd⟩:=ready_of hsz hir
  have hi99:i<14:=hi14
  have E2:(putR a0 21 13 x).tmps[2]?.getD undef=.pointer (some ⟨w.heap.size,0,none⟩):=(putR_out a0 21 13 x 2 (by decide)).trans f2
  have E7:(putR a0 21 13 x).tmps[7]?.getD undef=.int .i64 (k:Int):=(putR_out a0 21 13 x 7 (by decide)).trans f7
  have EX:∀ j,21≤j→j<34→(putR a0 21 13 x).tmps[j]?.getD undef=x j:=fun j h1 h2=>putR_in a0 21 13 x j h1 h2 (by rw [fs];exact Nat.lt_trans h2 (by decide))
  have EV:∀ j,21≤j→j<34→(putR a0 21 13 x).eval (.tmp j)=x j:=fun j h1 h2=>putR_eval a0 21 13 x j h1 h2 (by rw [fs];exact Nat.lt_trans h2 (by decide))
  have ls:lsd (l.setIfInBounds i true) i=true:=lsd_self (by rw [hsz];exact hi14)
  have lo:∀ j,i≠j→lsd (l.setIfInBounds i true) j=lsd l j:=fun j h=>lsd_other h
  clear hir hsz
  generalize l.setIfInBounds i true=l' at *
  have h2_1:lsd l 2=true→lsd l 1=true:=fun h=>hcl 2 _ rfl h _ (List.mem_toArray.2 (.head _)) rfl
  have h4_2:lsd l 4=true→lsd l 2=true:=fun h=>hcl 4 _ rfl h _ (List.mem_toArray.2 (.head _)) rfl
  have h4_3:lsd l 4=true→lsd l 3=true:=fun h=>hcl 4 _ rfl h _ (List.mem_toArray.2 (.tail _ (.head _))) rfl
  have h5_0:lsd l 5=true→lsd l 0=true:=fun h=>hcl 5 _ rfl h _ (List.mem_toArray.2 (.head _)) rfl
  have h5_4:lsd l 5=true→lsd l 4=true:=fun h=>hcl 5 _ rfl h _ (List.mem_toArray.2 (.tail _ (.head _))) rfl
  have h7_6:lsd l 7=true→lsd l 6=true:=fun h=>hcl 7 _ rfl h _ (List.mem_toArray.2 (.head _)) rfl
  have h9_8:lsd l 9=true→lsd l 8=true:=fun h=>hcl 9 _ rfl h _ (List.mem_toArray.2 (.head _)) rfl
  have h10_7:lsd l 10=true→lsd l 7=true:=fun h=>hcl 10 _ rfl h _ (List.mem_toArray.2 (.head _)) rfl
  have h10_9:lsd l 10=true→lsd l 9=true:=fun h=>hcl 10 _ rfl h _ (List.mem_toArray.2 (.tail _ (.head _))) rfl
  have h11_5:lsd l 11=true→lsd l 5=true:=fun h=>hcl 11 _ rfl h _ (List.mem_toArray.2 (.head _)) rfl
  have h11_10:lsd l 11=true→lsd l 10=true:=fun h=>hcl 11 _ rfl h _ (List.mem_toArray.2 (.tail _ (.head _))) rfl
  have h13_12:lsd l 13=true→lsd l 12=true:=fun h=>hcl 13 _ rfl h _ (List.mem_toArray.2 (.head _)) rfl
  have h13_11:lsd l 13=true→lsd l 11=true:=fun h=>hcl 13 _ rfl h _ (List.mem_toArray.2 (.tail _ (.head _))) rfl
  clear hcl
  match i,ho,hd,hui,ls,lo with
  | 0,ho,hd,hui,ls,lo =>
   obtain rfl:=Option.some.inj ho
   have n5:=lsd_not h5_0 hui
   have n11:=lsd_not h11_5 n5
   have n13:=lsd_not h13_11 n11
   have hB:=iB n13
   have hsz:=hB.size
   clear EX EV
   refine wpOp_step rfl (fun K' hK=>?_)
   rw [if_pos (by rfl)]
   go_simp
   exact hK _ _ ⟨_,putR_put a0 21 13 x 21 (by decide) (by decide) _,fun _=>hB.alloc (by omega) _,lq i1 (lo 1 (by decide)),lq i2 (lo 2 (by decide)),lq i3 (lo 3 (by decide)),lq i4 (lo 4 (by decide)),lq i6 (lo 6 (by decide)),lq i7 (lo 7 (by decide)),lq i8 (lo 8 (by decide)),lq i9 (lo 9 (by decide)),lq i10 (lo 10 (by decide)),lq i12 (lo 12 (by decide)),fun _ _=>own_empty1 W _ _ (by omega),lnq (lo 5 (by decide)) n5,lnq (lo 11 (by decide)) n11,lnq (lo 13 (by decide)) n13⟩
  | 1,ho,hd,hui,ls,lo =>
   obtain rfl:=Option.some.inj ho
   have n2:=lsd_not h2_1 hui
   have n4:=lsd_not h4_2 n2
   have n5:=lsd_not h5_4 n4
   have n11:=lsd_not h11_5 n5
   have n13:=lsd_not h13_11 n11
   have hB:=iB n13
   have hsz:=hB.size
   clear EX EV
   refine wpOp_step rfl (fun K' hK=>?_)
   rw [if_pos (by rfl)]
   go_simp
   exact hK _ _ ⟨_,putR_put a0 21 13 x 22 (by decide) (by decide) _,fun _=>hB,fun _=>rfl,lq i2 (lo 2 (by decide)),lq i3 (lo 3 (by decide)),lq i4 (lo 4 (by decide)),lq i6 (lo 6 (by decide)),lq i7 (lo 7 (by decide)),lq i8 (lo 8 (by decide)),lq i9 (lo 9 (by decide)),lq i10 (lo 10 (by decide)),lq i12 (lo 12 (by decide)),fun h h5=>o0 ((lo 0 (by decide)).symm.trans h) ((lo 5 (by decide)).symm.trans h5),fun h h11=>o5 ((lo 5 (by decide)).symm.trans h) ((lo 11 (by decide)).symm.trans h11),fun h _=>o11 ((lo 11 (by decide)).symm.trans h) n13,lnq (lo 13 (by decide)) n13⟩
  | 2,ho,hd,hui,ls,lo =>
   obtain rfl:=Option.some.inj ho
   have n4:=lsd_not h4_2 hui
   have n5:=lsd_not h5_4 n4
   have n11:=lsd_not h11_5 n5
   have n13:=lsd_not h13_11 n11
   have l1:lsd l 1=true:=hd _ (List.mem_toArray.2 (.head _)) rfl
   have hB:=iB n13
   have hsz:=hB.size
   have E22:=(EX 22 (by decide) (by decide)).trans (i1 l1)
   have z0:=HS5.out W hB
   clear EX EV
   refine wpOp_step rfl (fun K' hK=>?_)
   rw [if_pos (by rfl)]
   go_simp
   exact hK _ _ ⟨_,putR_put a0 21 13 x 23 (by decide) (by decide) _,fun _=>hB,lq i1 (lo 1 (by decide)),fun _=>rfl,lq i3 (lo 3 (by decide)),lq i4 (lo 4 (by decide)),lq i6 (lo 6 (by decide)),lq i7 (lo 7 (by decide)),lq i8 (lo 8 (by decide)),lq i9 (lo 9 (by decide)),lq i10 (lo 10 (by decide)),lq i12 (lo 12 (by decide)),fun h h5=>o0 ((lo 0 (by decide)).symm.trans h) ((lo 5 (by decide)).symm.trans h5),fun h h11=>o5 ((lo 5 (by decide)).symm.trans h) ((lo 11 (by decide)).symm.trans h11),fun h _=>o11 ((lo 11 (by decide)).symm.trans h) n13,lnq (lo 13 (by decide)) n13⟩
  | 3,ho,hd,hui,ls,lo =>
   obtain rfl:=Option.some.inj ho
   have n4:=lsd_not h4_3 hui
   have n5:=lsd_not h5_4 n4
   have n11:=lsd_not h11_5 n5
   have n13:=lsd_not h13_11 n11
   have hB:=iB n13
   have hsz:=hB.size
   clear EX EV
   refine wpOp_step rfl (fun K' hK=>?_)
   rw [if_pos (by rfl)]
   go_simp
   exact hK _ _ ⟨_,putR_put a0 21 13 x 24 (by decide) (by decide) _,fun _=>hB,lq i1 (lo 1 (by decide)),lq i2 (lo 2 (by decide)),fun _=>rfl,lq i4 (lo 4 (by decide)),lq i6 (lo 6 (by decide)),lq i7 (lo 7 (by decide)),lq i8 (lo 8 (by decide)),lq i9 (lo 9 (by decide)),lq i10 (lo 10 (by decide)),lq i12 (lo 12 (by decide)),fun h h5=>o0 ((lo 0 (by decide)).symm.trans h) ((lo 5 (by decide)).symm.trans h5),fun h h11=>o5 ((lo 5 (by decide)).symm.trans h) ((lo 11 (by decide)).symm.trans h11),fun h _=>o11 ((lo 11 (by decide)).symm.trans h) n13,lnq (lo 13 (by decide)) n13⟩
  | 4,ho,hd,hui,ls,lo =>
   obtain rfl:=Option.some.inj ho
   have n5:=lsd_not h5_4 hui
   have n11:=lsd_not h11_5 n5
   have n13:=lsd_not h13_11 n11
   have l2:lsd l 2=true:=hd _ (List.mem_toArray.2 (.head _)) rfl
   have l3:lsd l 3=true:=hd _ (List.mem_toArray.2 (.tail _ (.head _))) rfl
   have hB:=iB n13
   have hsz:=hB.size
   have E23:=(EX 23 (by decide) (by decide)).trans (i2 l2)
   have E24:=(EX 24 (by decide) (by decide)).trans (i3 l3)
   clear EX EV
   refine wpOp_step rfl (fun K' hK=>?_)
   rw [if_pos (by rfl)]
   go_simp
   exact hK _ _ ⟨_,putR_put a0 21 13 x 25 (by decide) (by decide) _,fun _=>hB,lq i1 (lo 1 (by decide)),lq i2 (lo 2 (by decide)),lq i3 (lo 3 (by decide)),fun _=>rfl,lq i6 (lo 6 (by decide)),lq i7 (lo 7 (by decide)),lq i8 (lo 8 (by decide)),lq i9 (lo 9 (by decide)),lq i10 (lo 10 (by decide)),lq i12 (lo 12 (by decide)),fun h h5=>o0 ((lo 0 (by decide)).symm.trans h) ((lo 5 (by decide)).symm.trans h5),fun h h11=>o5 ((lo 5 (by decide)).symm.trans h) ((lo 11 (by decide)).symm.trans h11),fun h _=>o11 ((lo 11 (by decide)).symm.trans h) n13,lnq (lo 13 (by decide)) n13⟩
  | 5,ho,hd,hui,ls,lo =>
   obtain rfl:=Option.some.inj ho
   have n11:=lsd_not h11_5 hui
   have n13:=lsd_not h13_11 n11
   have l0:lsd l 0=true:=hd _ (List.mem_toArray.2 (.head _)) rfl
   have l4:lsd l 4=true:=hd _ (List.mem_toArray.2 (.tail _ (.head _))) rfl
   have hB:=iB n13
   have hsz:=hB.size
   have hown:=o0 l0 hui
   refine wpOp_step rfl (fun K' hK=>?_)
   refine step_append_rows rfl (.tmp 21) (.tmp 25) 27 rfl (B0) 34 i0 _ 4 32 Tryz.underlying27 hi iz0 iz1 iz2 rfl (by decide) (x 21) 0 [] (EV 21 (by decide) (by decide)) hown (some ⟨b,off,none⟩) k c _ ((EV 25 (by decide) (by decide)).trans (i4 l4)) HL1.out (.inr ⟨_,rfl,HSRC1.out _ (HBL.out _ hB)⟩) HO1.out (by unfold maxLen;omega) (by omega) (by omega) ?_
   intro v1 w66 hown1 hg1
   have hB6:Below B0 w6 w66:=hB.grown hg1 (by omega) (fun b hb=>(hown.lt b hb).1)
   exact hK _ _ ⟨_,putR_put a0 21 13 x 26 (by decide) (by decide) _,fun _=>hB6,lq i1 (lo 1 (by decide)),lq i2 (lo 2 (by decide)),lq i3 (lo 3 (by decide)),lq i4 (lo 4 (by decide)),lq i6 (lo 6 (by decide)),lq i7 (lo 7 (by decide)),lq i8 (lo 8 (by decide)),lq i9 (lo 9 (by decide)),lq i10 (lo 10 (by decide)),lq i12 (lo 12 (by decide)),fun _ h5=>lsd_no ls h5,fun _ _=>hown1,lnq (lo 11 (by decide)) n11,lnq (lo 13 (by decide)) n13⟩
  | 6,ho,hd,hui,ls,lo =>
   obtain rfl:=Option.some.inj ho
   have n7:=lsd_not h7_6 hui
   have n10:=lsd_not h10_7 n7
   have n11:=lsd_not h11_10 n10
   have n13:=lsd_not h13_11 n11
   have hB:=iB n13
   have hsz:=hB.size
   clear EX EV
   refine wpOp_step rfl (fun K' hK=>?_)
   rw [if_pos (by rfl)]
   go_simp
   exact hK _ _ ⟨_,putR_put a0 21 13 x 27 (by decide) (by decide) _,fun _=>hB,lq i1 (lo 1 (by decide)),lq i2 (lo 2 (by decide)),lq i3 (lo 3 (by decide)),lq i4 (lo 4 (by decide)),fun _=>rfl,lq i7 (lo 7 (by decide)),lq i8 (lo 8 (by decide)),lq i9 (lo 9 (by decide)),lq i10 (lo 10 (by decide)),lq i12 (lo 12 (by decide)),fun h h5=>o0 ((lo 0 (by decide)).symm.trans h) ((lo 5 (by decide)).symm.trans h5),fun h h11=>o5 ((lo 5 (by decide)).symm.trans h) ((lo 11 (by decide)).symm.trans h11),fun h _=>o11 ((lo 11 (by decide)).symm.trans h) n13,lnq (lo 13 (by decide)) n13⟩
  | 7,ho,hd,hui,ls,lo =>
   obtain rfl:=Option.some.inj ho
   have n10:=lsd_not h10_7 hui
   have n11:=lsd_not h11_10 n10
   have n13:=lsd_not h13_11 n11
   have l6:lsd l 6=true:=hd _ (List.mem_toArray.2 (.head _)) rfl
   have hB:=iB n13
   have hsz:=hB.size
   have E27:=(EX 27 (by decide) (by decide)).trans (i6 l6)
   have z0:=HS5.out W hB
   clear EX EV
   refine wpOp_step rfl (fun K' hK=>?_)
   rw [if_pos (by rfl)]
   go_simp
   exact hK _ _ ⟨_,putR_put a0 21 13 x 28 (by decide) (by decide) _,fun _=>hB,lq i1 (lo 1 (by decide)),lq i2 (lo 2 (by decide)),lq i3 (lo 3 (by decide)),lq i4 (lo 4 (by decide)),lq i6 (lo 6 (by decide)),fun _=>rfl,lq i8 (lo 8 (by decide)),lq i9 (lo 9 (by decide)),lq i10 (lo 10 (by decide)),lq i12 (lo 12 (by decide)),fun h h5=>o0 ((lo 0 (by decide)).symm.trans h) ((lo 5 (by decide)).symm.trans h5),fun h h11=>o5 ((lo 5 (by decide)).symm.trans h) ((lo 11 (by decide)).symm.trans h11),fun h _=>o11 ((lo 11 (by decide)).symm.trans h) n13,lnq (lo 13 (by decide)) n13⟩
  | 8,ho,hd,hui,ls,lo =>
   obtain rfl:=Option.some.inj ho
   have n9:=lsd_not h9_8 hui
   have n10:=lsd_not h10_9 n9
   have n11:=lsd_not h11_10 n10
   have n13:=lsd_not h13_11 n11
   have hB:=iB n13
   have hsz:=hB.size
   clear EX EV
   refine wpOp_step rfl (fun K' hK=>?_)
   rw [if_pos (by rfl)]
   go_simp
   exact hK _ _ ⟨_,putR_put a0 21 13 x 29 (by decide) (by decide) _,fun _=>hB,lq i1 (lo 1 (by decide)),lq i2 (lo 2 (by decide)),lq i3 (lo 3 (by decide)),lq i4 (lo 4 (by decide)),lq i6 (lo 6 (by decide)),lq i7 (lo 7 (by decide)),fun _=>rfl,lq i9 (lo 9 (by decide)),lq i10 (lo 10 (by decide)),lq i12 (lo 12 (by decide)),fun h h5=>o0 ((lo 0 (by decide)).symm.trans h) ((lo 5 (by decide)).symm.trans h5),fun h h11=>o5 ((lo 5 (by decide)).symm.trans h) ((lo 11 (by decide)).symm.trans h11),fun h _=>o11 ((lo 11 (by decide)).symm.trans h) n13,lnq (lo 13 (by decide)) n13⟩
  | 9,ho,hd,hui,ls,lo =>
   obtain rfl:=Option.some.inj ho
   have n10:=lsd_not h10_9 hui
   have n11:=lsd_not h11_10 n10
   have n13:=lsd_not h13_11 n11
   have l8:lsd l 8=true:=hd _ (List.mem_toArray.2 (.head _)) rfl
   have hB:=iB n13
   have hsz:=hB.size
   have E29:=(EX 29 (by decide) (by decide)).trans (i8 l8)
   clear EX EV
   refine wpOp_step rfl (fun K' hK=>?_)
   rw [if_pos (by rfl)]
   go_simp
   exact hK _ _ ⟨_,putR_put a0 21 13 x 30 (by decide) (by decide) _,fun _=>hB,lq i1 (lo 1 (by decide)),lq i2 (lo 2 (by decide)),lq i3 (lo 3 (by decide)),lq i4 (lo 4 (by decide)),lq i6 (lo 6 (by decide)),lq i7 (lo 7 (by decide)),lq i8 (lo 8 (by decide)),fun _=>rfl,lq i10 (lo 10 (by decide)),lq i12 (lo 12 (by decide)),fun h h5=>o0 ((lo 0 (by decide)).symm.trans h) ((lo 5 (by decide)).symm.trans h5),fun h h11=>o5 ((lo 5 (by decide)).symm.trans h) ((lo 11 (by decide)).symm.trans h11),fun h _=>o11 ((lo 11 (by decide)).symm.trans h) n13,lnq (lo 13 (by decide)) n13⟩
  | 10,ho,hd,hui,ls,lo =>
   obtain rfl:=Option.some.inj ho
   have n11:=lsd_not h11_10 hui
   have n13:=lsd_not h13_11 n11
   have l7:lsd l 7=true:=hd _ (List.mem_toArray.2 (.head _)) rfl
   have l9:lsd l 9=true:=hd _ (List.mem_toArray.2 (.tail _ (.head _))) rfl
   have hB:=iB n13
   have hsz:=hB.size
   have E28:=(EX 28 (by decide) (by decide)).trans (i7 l7)
   have E30:=(EX 30 (by decide) (by decide)).trans (i9 l9)
   clear EX EV
   refine wpOp_step rfl (fun K' hK=>?_)
   rw [if_pos (by rfl)]
   go_simp
   exact hK _ _ ⟨_,putR_put a0 21 13 x 31 (by decide) (by decide) _,fun _=>hB,lq i1 (lo 1 (by decide)),lq i2 (lo 2 (by decide)),lq i3 (lo 3 (by decide)),lq i4 (lo 4 (by decide)),lq i6 (lo 6 (by decide)),lq i7 (lo 7 (by decide)),lq i8 (lo 8 (by decide)),lq i9 (lo 9 (by decide)),fun _=>rfl,lq i12 (lo 12 (by decide)),fun h h5=>o0 ((lo 0 (by decide)).symm.trans h) ((lo 5 (by decide)).symm.trans h5),fun h h11=>o5 ((lo 5 (by decide)).symm.trans h) ((lo 11 (by decide)).symm.trans h11),fun h _=>o11 ((lo 11 (by decide)).symm.trans h) n13,lnq (lo 13 (by decide)) n13⟩
  | 11,ho,hd,hui,ls,lo =>
   obtain rfl:=Option.some.inj ho
   have n13:=lsd_not h13_11 hui
   have l5:lsd l 5=true:=hd _ (List.mem_toArray.2 (.head _)) rfl
   have l10:lsd l 10=true:=hd _ (List.mem_toArray.2 (.tail _ (.head _))) rfl
   have hB:=iB n13
   have hsz:=hB.size
   have hown:=o5 l5 hui
   refine wpOp_step rfl (fun K' hK=>?_)
   refine step_append_rows rfl (.tmp 26) (.tmp 31) 27 rfl (B0) 34 i0 _ 4 32 Tryz.underlying27 hi iz0 iz1 iz2 rfl (by decide) (x 26) _ _ (EV 26 (by decide) (by decide)) hown (if c=k1 then some ⟨b,off,none⟩ else some ⟨b,off+k1*4,none⟩) (n - k1) (c - k1) _ ((EV 31 (by decide) (by decide)).trans (i10 l10)) HL2.out (HSRC2.out _ (HBL.out _ hB)) HO2.out (by unfold maxLen;omega) (by omega) (by omega) ?_
   intro v2 w7 hown2 hg2
   have hB7:Below (B0) w6 w7:=hB.grown hg2 (by omega) (fun b hb=>(hown.lt b hb).1)
   exact hK _ _ ⟨_,putR_put a0 21 13 x 32 (by decide) (by decide) _,fun _=>hB7,lq i1 (lo 1 (by decide)),lq i2 (lo 2 (by decide)),lq i3 (lo 3 (by decide)),lq i4 (lo 4 (by decide)),lq i6 (lo 6 (by decide)),lq i7 (lo 7 (by decide)),lq i8 (lo 8 (by decide)),lq i9 (lo 9 (by decide)),lq i10 (lo 10 (by decide)),lq i12 (lo 12 (by decide)),fun _ h5=>lsd_no l5 ((lo 5 (by decide)).symm.trans h5),fun _ h11=>lsd_no ls h11,fun _ _=>hown2,lnq (lo 13 (by decide)) n13⟩
  | 12,ho,hd,hui,ls,lo =>
   obtain rfl:=Option.some.inj ho
   have n13:=lsd_not h13_12 hui
   have hB:=iB n13
   have hsz:=hB.size
   clear EX EV
   refine wpOp_step rfl (fun K' hK=>?_)
   rw [if_pos (by rfl)]
   go_simp
   exact hK _ _ ⟨_,putR_put a0 21 13 x 33 (by decide) (by decide) _,fun _=>hB,lq i1 (lo 1 (by decide)),lq i2 (lo 2 (by decide)),lq i3 (lo 3 (by decide)),lq i4 (lo 4 (by decide)),lq i6 (lo 6 (by decide)),lq i7 (lo 7 (by decide)),lq i8 (lo 8 (by decide)),lq i9 (lo 9 (by decide)),lq i10 (lo 10 (by decide)),fun _=>rfl,fun h h5=>o0 ((lo 0 (by decide)).symm.trans h) ((lo 5 (by decide)).symm.trans h5),fun h h11=>o5 ((lo 5 (by decide)).symm.trans h) ((lo 11 (by decide)).symm.trans h11),fun h _=>o11 ((lo 11 (by decide)).symm.trans h) n13,lnq (lo 13 (by decide)) n13⟩
  | 13,ho,hd,hui,ls,lo =>
   obtain rfl:=Option.some.inj ho
   have l12:lsd l 12=true:=hd _ (List.mem_toArray.2 (.head _)) rfl
   have l11:lsd l 11=true:=hd _ (List.mem_toArray.2 (.tail _ (.head _))) rfl
   have hB:=iB hui
   have hsz:=hB.size
   have l5:=h11_5 l11
   have E33:=(EX 33 (by decide) (by decide)).trans (i12 l12)
   have E32:=EX 32 (by decide) (by decide)
   have z0:=HS5.out W hB
   have zf:=HFX.out W hB
   have hown:=o11 l11 hui
   obtain ⟨A2,c2,hx32,-⟩:=HOW.out W (x 32) hown
   rw [hx32] at E32
   clear EX EV
   refine wpOp_step rfl (fun K' hK=>?_)
   rw [if_pos (by rfl)]
   go_simp
   exact hK _ _ ⟨x,rfl,fun h=>lsd_no ls h,lq i1 (lo 1 (by decide)),lq i2 (lo 2 (by decide)),lq i3 (lo 3 (by decide)),lq i4 (lo 4 (by decide)),lq i6 (lo 6 (by decide)),lq i7 (lo 7 (by decide)),lq i8 (lo 8 (by decide)),lq i9 (lo 9 (by decide)),lq i10 (lo 10 (by decide)),lq i12 (lo 12 (by decide)),fun _ h5=>lsd_no l5 ((lo 5 (by decide)).symm.trans h5),fun _ h11=>lsd_no l11 ((lo 11 (by decide)).symm.trans h11),fun _ h13=>lsd_no ls h13,fun _=>⟨W,hB,hown,by rw [hx32]⟩⟩
  | q+14,_,_,_,_,_=>omega
 ·
  intro l a W hsz hI hr
  have l0:=ready_nil hr hsz (j:=0) rfl (by simp)
  have l1:=ready_nil hr hsz (j:=1) rfl (by simp)
  have l2:=ready_nil hr hsz (j:=2) rfl (by simp [l1])
  have l3:=ready_nil hr hsz (j:=3) rfl (by simp)
  have l4:=ready_nil hr hsz (j:=4) rfl (by simp [l2,l3])
  have l5:=ready_nil hr hsz (j:=5) rfl (by simp [l0,l4])
  have l6:=ready_nil hr hsz (j:=6) rfl (by simp)
  have l7:=ready_nil hr hsz (j:=7) rfl (by simp [l6])
  have l8:=ready_nil hr hsz (j:=8) rfl (by simp)
  have l9:=ready_nil hr hsz (j:=9) rfl (by simp [l8])
  have l10:=ready_nil hr hsz (j:=10) rfl (by simp [l7,l9])
  have l11:=ready_nil hr hsz (j:=11) rfl (by simp [l5,l10])
  have l12:=ready_nil hr hsz (j:=12) rfl (by simp [l0,l1,l2,l3,l4,l5,l6,l7,l8,l9,l10,l11])
  have l13:=ready_nil hr hsz (j:=13) rfl (by simp [l0,l1,l2,l3,l4,l5,l6,l7,l8,l9,l10,l11,l12])
  obtain ⟨x,ha,-,-,-,-,-,-,-,-,-,-,-,-,-,-,iE⟩:=hI
  obtain ⟨W0,hB0,hO,hW⟩:=iE l13
  obtain ⟨A2,c2,hx32,hrq,hge⟩:=HOW.out W0 (x 32) hO
  rw [hx32] at hW
  have hne1:w.heap.size+1≠w.heap.size:=by omega
  have hne2:w.heap.size+2≠w.heap.size:=by omega
  have hne3:w5.heap.size≠w.heap.size:=by omega
  have q1:=(HM6.out.1.below hB0 (by omega)).set 0 (.slice A2 (n - 1) c2)
  have q2:=(HM6.out.2.1.below hB0 (by omega)).other (i:=0) (.slice A2 (n - 1) c2) hne1
  have q3:=(HM6.out.2.2.1.below hB0 (by omega)).other (i:=0) (.slice A2 (n - 1) c2) hne2
  have q4:=(HM6.out.2.2.2.1.below hB0 hB5).other (i:=0) (.slice A2 (n - 1) c2) hne3
  have hb8:Below w.heap.size w W:=by
   rw [hW]
   exact (HBL.out W0 hB0).setCell (Nat.le_refl _) _
  have hsz:W.heap.size=W0.heap.size:=by rw [hW];simp [World.setCell]
  have hrq8:RQ W W.heap.size A2 c2 L':=by
   rw [hsz]
   refine ⟨?_,hrq.2⟩
   rcases hrq.1 with h | ⟨b2,o2,t1,t2,t3⟩
   · exact .inl h
   ·
    refine .inr ⟨b2,o2,t1,t2,fun j hj=>(t3 j hj).of ?_⟩
    rw [hW]
    refine Below.heap_setCell W0 _ _ b2 ?_
    have:=hge _ t1
    show b2≠w.heap.size
    have h4:B0≤b2:=this
    omega
  rw [← hW] at q1 q2 q3 q4
  have HQ:=Lib.hid (And.intro q1 (And.intro q2 (And.intro q3 (And.intro q4 (And.intro hb8 (And.intro hrq8 hge))))))
  have k0:W.cell? ⟨w.heap.size,0,none⟩=some (.slice A2 (n - 1) c2):=Blk.cell q1 0
  have k1':W.cell? ⟨w.heap.size,1,none⟩=some (.int .i64 cur):=Blk.cell q1 1
  have k2:W.cell? ⟨w.heap.size,2,none⟩=some (.int .i64 mn):=Blk.cell q1 2
  have k3:W.cell? ⟨w.heap.size,3,none⟩=some (.bool fl):=Blk.cell q1 3
  have kf:=Blk.frozen q1
  simp [putR,List.mapIdx_cons] at ha
  subst ha
  clear hW hx32 hrq hge q1 q2 q3 q4 hb8 hsz hrq8 hO hB0 l0 l1 l2 l3 l4 l5 l6 l7 l8 l9 l10 l11 l12 l13 hr iE
  by_cases hcu:cur=i
  ·
   have y1:(cur == i)=true:=by rw [beq_iff_eq];exact hcu
   have y2:decide (cur=i)=true:=decide_eq_true hcu
   have HFIN:Hid (LR=L'∧ln=n - 1∧cu = -1∧ee=en):=Lib.hid (by
    have e1:LR=L':=by rw [HRES.out.1,HLL.out.1,HLL.out.2.2]
    exact ⟨e1,by rw [HRES.out.2.1,e1,HLL.out.2.1],by rw [HRES.out.2.2.1,if_pos hcu],by rw [HRES.out.2.2.2.2,HEN.out]⟩)
   clear hcu
   go_wp2_with fail
   obtain ⟨p1',p2',p3',p4',pb',pq',pg'⟩:=HQ.out
   obtain ⟨W8,hW8⟩:∃ W8,W8=W.setCell ⟨w.heap.size,1,none⟩ (.int .i64 (-1)):=⟨_,rfl⟩
   rw [← hW8]
   have p1:=Blk.set p1' 1 (.int .i64 (-1))
   have p2:=p2'.other (i:=1) (.int .i64 (-1)) hne1
   have p3:=p3'.other (i:=1) (.int .i64 (-1)) hne2
   have p4:=p4'.other (i:=1) (.int .i64 (-1)) hne3
   rw [← hW8] at p1 p2 p3 p4
   have pb:Below w.heap.size w W8:=by rw [hW8];exact pb'.setCell (Nat.le_refl _) _
   have pq:RQ W8 W8.heap.size A2 c2 L':=by
    have hsz:W8.heap.size=W.heap.size:=by rw [hW8];simp [World.setCell]
    rw [hsz]
    refine ⟨?_,pq'.2⟩
    rcases pq'.1 with h | ⟨b2,o2,t1,t2,t3⟩
    · exact .inl h
    ·
     refine .inr ⟨b2,o2,t1,t2,fun j hj=>(t3 j hj).of ?_⟩
     rw [hW8]
     refine Below.heap_setCell W _ _ b2 ?_
     have h4:B0≤b2:=pg' _ t1
     show b2≠w.heap.size
     omega
   clear hW8 p1' p2' p3' p4' pb' pq' pg'
   have HQ8:=Lib.hid (And.intro p1 (And.intro p2 (And.intro p3 (And.intro p4 (And.intro pb (And.intro pq HQ.out.2.2.2.2.2.2))))))
   have g0:W8.cell? ⟨w.heap.size,0,none⟩=some (.slice A2 (n - 1) c2):=Blk.cell p1 0
   have g1:W8.cell? ⟨w.heap.size,1,none⟩=some (.int .i64 (-1)):=Blk.cell p1 1
   have g2:W8.cell? ⟨w.heap.size,2,none⟩=some (.int .i64 mn):=Blk.cell p1 2
   have g3:W8.cell? ⟨w.heap.size,3,none⟩=some (.bool fl):=Blk.cell p1 3
   have u0:W8.cell? ⟨w5.heap.size,0,none⟩=some (.int .i64 en.id):=Blk.cell p4 0
   have u1:W8.cell? ⟨w5.heap.size,1,none⟩=some (.int .u64 en.wt):=Blk.cell p4 1
   have u2:W8.cell? ⟨w5.heap.size,2,none⟩=some (.int .i64 en.v):=Blk.cell p4 2
   have u3:W8.cell? ⟨w5.heap.size,3,none⟩=some (.int .u64 en.rem):=Blk.cell p4 3
   obtain ⟨rm,hrm⟩:∃ rm,rm=raiseZ mn L':=⟨_,rfl⟩
   have HRM:=Lib.hid hrm
   have HMR:Hid (∀ V,Below W8.heap.size W8 V→Calls Tryz.prog 99 #[rqV A2 (n - 1) c2 (-1) mn fl] V fun r w'=>r=.returned (rqV A2 (n - 1) c2 (-1) rm fl) ∧
     (w'.cell? ⟨w.heap.size+1,0,none⟩=some (.slice none 0 0)∧w'.cell? ⟨w.heap.size+1,1,none⟩=some (.int .i64 0)∧w'.cell? ⟨w.heap.size+1,2,none⟩=some (.int .i64 0)∧w'.cell? ⟨w.heap.size+1,3,none⟩=some (.bool false)) ∧
     (w'.cell? ⟨w.heap.size+2,0,none⟩=some (.int .i64 0)∧w'.cell? ⟨w.heap.size+2,1,none⟩=some (.int .u64 0)∧w'.cell? ⟨w.heap.size+2,2,none⟩=some (.int .i64 0)∧w'.cell? ⟨w.heap.size+2,3,none⟩=some (.int .u64 0)) ∧
     (w'.cell? ⟨w5.heap.size,0,none⟩=some (.int .i64 en.id)∧w'.cell? ⟨w5.heap.size,1,none⟩=some (.int .u64 en.wt)∧w'.cell? ⟨w5.heap.size,2,none⟩=some (.int .i64 en.v)∧w'.cell? ⟨w5.heap.size,3,none⟩=some (.int .u64 en.rem)) ∧
     (∀ j,w'.frozen? ⟨w.heap.size+1,j,none⟩=false)∧(∀ j,w'.frozen? ⟨w.heap.size+2,j,none⟩=false)∧Hid (Below W8.heap.size W8 w')):=Lib.hid fun V hV=>by
    have hz:=hV.size
    have hr0:=rraised_any A2 c2 L' (-1) mn fl V ((pq.1.below hV).mono hz) (by rw [HLL.out.2.1];omega)
    rw [HLL.out.2.1,← hrm] at hr0
    refine hr0.mono fun r w' hp=>?_
    have hb:=hV.trans (hp.2.mono hz)
    have c1:=p2.below hb p2.lt
    have c2:=p3.below hb p3.lt
    have c3:=p4.below hb p4.lt
    exact ⟨hp.1,⟨Blk.cell c1 0,Blk.cell c1 1,Blk.cell c1 2,Blk.cell c1 3⟩,⟨Blk.cell c2 0,Blk.cell c2 1,Blk.cell c2 2,Blk.cell c2 3⟩,⟨Blk.cell c3 0,Blk.cell c3 1,Blk.cell c3 2,Blk.cell c3 3⟩,Blk.frozen c1,Blk.frozen c2,hb⟩
   clear p1 p2 p3 p4 pb pq hrm k0 k1' k2 k3 kf
   go_region_with (go_at_call 99;refine (HMR.out _ (by first | exact (Below.refl _ _).drew | exact Below.refl _ _)).mono ?_;rintro r w9 ⟨rfl,⟨t0,t1,t2,t3⟩,⟨s0,s1,s2,s3⟩,⟨v0,v1,v2,v3⟩,tf,sf,H9⟩)
   all_goals
    simp only [Act.put,List.getElem_toArray,List.getElem_cons_succ,List.getElem_cons_zero,List.setIfInBounds_toArray,List.set_cons_zero,List.set_cons_succ]
    go_wp2_with fail
    refine bodyPost_ret (v:=.tuple #[rqV A2 (n - 1) c2 (-1) rm fl,enV en,.int .i64 0]) (by simp [results,Tryz.results66,go_sem,t0,t1,t2,t3,s0,s1,s2,s3]) rfl ⟨A2,c2,?_,Lib.hid ?_⟩
    · rw [HFIN.out.2.1,HFIN.out.2.2.1,HFIN.out.2.2.2,HRES.out.2.2.2.1,HFIN.out.1,HRM.out]
    ·
     have hz:=HQ8.out.2.2.2.2.1.size
     have hB9:Below w.heap.size w w9:=HQ8.out.2.2.2.2.1.trans (H9.out.mono hz)
     have hq9:RQ w9 w9.heap.size A2 c2 L':=(HQ8.out.2.2.2.2.2.1.below H9.out).mono H9.out.size
     have hge:=HQ8.out.2.2.2.2.2.2
     obtain ⟨hBa,hqa⟩:=RQ.put4 hB9 hq9 (b:=w.heap.size+1) (fun a ha=>by have:=hge a ha;omega) (by omega) (.slice A2 (n - 1) c2) (.int .i64 (-1)) (.int .i64 rm) (.bool fl)
     obtain ⟨hBb,hqb⟩:=RQ.put4 hBa hqa (b:=w.heap.size+2) (fun a ha=>by have:=hge a ha;omega) (by omega) (.int .i64 en.id) (.int .u64 en.wt) (.int .i64 en.v) (.int .u64 en.rem)
     rw [HFIN.out.1]
     exact ⟨hqb,.inr fun a ha=>by have:=hge a ha;omega,hBb⟩
  ·
   have y1:(cur == i)=false:=by rw [beq_eq_false_iff_ne];exact hcu
   have y2:decide (cur=i)=false:=decide_eq_false hcu
   have HFIN:Hid (LR=L'∧ln=n - 1∧cu=cur∧ee=en):=Lib.hid (by
    have e1:LR=L':=by rw [HRES.out.1,HLL.out.1,HLL.out.2.2]
    exact ⟨e1,by rw [HRES.out.2.1,e1,HLL.out.2.1],by rw [HRES.out.2.2.1,if_neg hcu],by rw [HRES.out.2.2.2.2,HEN.out]⟩)
   clear hcu
   go_wp2_with fail
   obtain ⟨p1,p2,p3,p4,pb,pq,-⟩:=HQ.out
   have HQ8:=Lib.hid (And.intro p1 (And.intro p2 (And.intro p3 (And.intro p4 (And.intro pb (And.intro pq HQ.out.2.2.2.2.2.2))))))
   have g0:W.cell? ⟨w.heap.size,0,none⟩=some (.slice A2 (n - 1) c2):=Blk.cell p1 0
   have g1:W.cell? ⟨w.heap.size,1,none⟩=some (.int .i64 cur):=Blk.cell p1 1
   have g2:W.cell? ⟨w.heap.size,2,none⟩=some (.int .i64 mn):=Blk.cell p1 2
   have g3:W.cell? ⟨w.heap.size,3,none⟩=some (.bool fl):=Blk.cell p1 3
   have u0:W.cell? ⟨w5.heap.size,0,none⟩=some (.int .i64 en.id):=Blk.cell p4 0
   have u1:W.cell? ⟨w5.heap.size,1,none⟩=some (.int .u64 en.wt):=Blk.cell p4 1
   have u2:W.cell? ⟨w5.heap.size,2,none⟩=some (.int .i64 en.v):=Blk.cell p4 2
   have u3:W.cell? ⟨w5.heap.size,3,none⟩=some (.int .u64 en.rem):=Blk.cell p4 3
   obtain ⟨rm,hrm⟩:∃ rm,rm=raiseZ mn L':=⟨_,rfl⟩
   have HRM:=Lib.hid hrm
   have HMR:Hid (∀ V,Below W.heap.size W V→Calls Tryz.prog 99 #[rqV A2 (n - 1) c2 cur mn fl] V fun r w'=>r=.returned (rqV A2 (n - 1) c2 cur rm fl) ∧
     (w'.cell? ⟨w.heap.size+1,0,none⟩=some (.slice none 0 0)∧w'.cell? ⟨w.heap.size+1,1,none⟩=some (.int .i64 0)∧w'.cell? ⟨w.heap.size+1,2,none⟩=some (.int .i64 0)∧w'.cell? ⟨w.heap.size+1,3,none⟩=some (.bool false)) ∧
     (w'.cell? ⟨w.heap.size+2,0,none⟩=some (.int .i64 0)∧w'.cell? ⟨w.heap.size+2,1,none⟩=some (.int .u64 0)∧w'.cell? ⟨w.heap.size+2,2,none⟩=some (.int .i64 0)∧w'.cell? ⟨w.heap.size+2,3,none⟩=some (.int .u64 0)) ∧
     (w'.cell? ⟨w5.heap.size,0,none⟩=some (.int .i64 en.id)∧w'.cell? ⟨w5.heap.size,1,none⟩=some (.int .u64 en.wt)∧w'.cell? ⟨w5.heap.size,2,none⟩=some (.int .i64 en.v)∧w'.cell? ⟨w5.heap.size,3,none⟩=some (.int .u64 en.rem)) ∧
     (∀ j,w'.frozen? ⟨w.heap.size+1,j,none⟩=false)∧(∀ j,w'.frozen? ⟨w.heap.size+2,j,none⟩=false)∧Hid (Below W.heap.size W w')):=Lib.hid fun V hV=>by
    have hz:=hV.size
    have hr0:=rraised_any A2 c2 L' cur mn fl V ((pq.1.below hV).mono hz) (by rw [HLL.out.2.1];omega)
    rw [HLL.out.2.1,← hrm] at hr0
    refine hr0.mono fun r w' hp=>?_
    have hb:=hV.trans (hp.2.mono hz)
    have c1:=p2.below hb p2.lt
    have c2:=p3.below hb p3.lt
    have c3:=p4.below hb p4.lt
    exact ⟨hp.1,⟨Blk.cell c1 0,Blk.cell c1 1,Blk.cell c1 2,Blk.cell c1 3⟩,⟨Blk.cell c2 0,Blk.cell c2 1,Blk.cell c2 2,Blk.cell c2 3⟩,⟨Blk.cell c3 0,Blk.cell c3 1,Blk.cell c3 2,Blk.cell c3 3⟩,Blk.frozen c1,Blk.frozen c2,hb⟩
   clear p1 p2 p3 p4 pb pq hrm k0 k1' k2 k3 kf
   go_region_with (go_at_call 99;refine (HMR.out _ (by first | exact (Below.refl _ _).drew | exact Below.refl _ _)).mono ?_;rintro r w9 ⟨rfl,⟨t0,t1,t2,t3⟩,⟨s0,s1,s2,s3⟩,⟨v0,v1,v2,v3⟩,tf,sf,H9⟩)
   all_goals
    simp only [Act.put,List.getElem_toArray,List.getElem_cons_succ,List.getElem_cons_zero,List.setIfInBounds_toArray,List.set_cons_zero,List.set_cons_succ]
    go_wp2_with fail
    refine bodyPost_ret (v:=.tuple #[rqV A2 (n - 1) c2 cur rm fl,enV en,.int .i64 0]) (by simp [results,Tryz.results66,go_sem,t0,t1,t2,t3,s0,s1,s2,s3]) rfl ⟨A2,c2,?_,Lib.hid ?_⟩
    · rw [HFIN.out.2.1,HFIN.out.2.2.1,HFIN.out.2.2.2,HRES.out.2.2.2.1,HFIN.out.1,HRM.out]
    ·
     have hz:=HQ8.out.2.2.2.2.1.size
     have hB9:Below w.heap.size w w9:=HQ8.out.2.2.2.2.1.trans (H9.out.mono hz)
     have hq9:RQ w9 w9.heap.size A2 c2 L':=(HQ8.out.2.2.2.2.2.1.below H9.out).mono H9.out.size
     have hge:=HQ8.out.2.2.2.2.2.2
     obtain ⟨hBa,hqa⟩:=RQ.put4 hB9 hq9 (b:=w.heap.size+1) (fun a ha=>by have:=hge a ha;omega) (by omega) (.slice A2 (n - 1) c2) (.int .i64 cur) (.int .i64 rm) (.bool fl)
     obtain ⟨hBb,hqb⟩:=RQ.put4 hBa hqa (b:=w.heap.size+2) (fun a ha=>by have:=hge a ha;omega) (by omega) (.int .i64 en.id) (.int .u64 en.wt) (.int .i64 en.v) (.int .u64 en.rem)
     rw [HFIN.out.1]
     exact ⟨hqb,.inr fun a ha=>by have:=hge a ha;omega,hBb⟩
theorem rdrop_any (A:Option Addr) (c:Nat) (L:List En) (cur mn:Int) (fl:Bool) (i:Int) (w:World) (hA:RQ w w.heap.size A c L) (hl:L.length≤128) :
  Calls Tryz.prog 66 #[rqV A L.length c cur mn fl,.int .i64 i] w fun r w'=>∃ A' c',r=.returned (.tuple #[rqV A' (dropL L i).length c' (dropU L cur i) (dropM L mn i) fl,enV (dropE L i),.int .i64 (dropR L i)])∧Hid (RqRes w w' A A' c' (dropL L i)):=by
 unfold dropL dropU dropM dropE dropR
 cases hf:fnd L i with
 | none=>exact (rdrop_none A c L cur mn fl i w hA hl hf).mono fun r w' hp=>⟨A,c,hp.1,hp.2⟩
 | some k=>exact rdrop_some A c L cur mn fl i w hA hl hf
end Go.Proofs.YtefekboacghnjaaGreat
