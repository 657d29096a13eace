/-
  The tree of groups: Flag.
  The tree of groups: Unlink, where no group is within that one.
  hier.Hier: Unlink, whatever the group.
  The tree of groups: is one group within another one, or it?
  The tree of groups: Move into what lies under it.
  The tree of groups: Move of a group in whose queue somebody stands.
  The tree of groups: what Move does, as data.
  renorm.Move at whatever numbers.
  The tree of groups: Move.
  HGood is kept by Nice, Unlink, Move, Yield.
-/
import Derived.Test.YtefekboacghnjaaGreatMn
import Derived.Deep.MidRow
import Derived.Test.YtefekboacghnjaaGreatMl
import Derived.Test.YtefekboacghnjaaGreatMj
namespace Go.Proofs.YtefekboacghnjaaGreat
open Go.RowKit Go.Maps
section
variable {w:World} {h:Nat} {gb qb:Nat→Nat} {Fq:Nat→List Nat} {S:HS} {K:Int}
set_option maxRecDepth 100000 in
theorem run_index32 (cs:List Value) {i:Nat} {v:Value} (hlt:i<32) (hv:cs[i]?=some v) (w:World):Sem.run Tryz.prog (Instr.index 53 (.agg cs.toArray) (.int .i64 (i:Int))) w=.ok v w:=by
 have h3:(sizeOf 52).run Tryz.prog w=.ok 1 w:=by kernel_rfl
 simp [Instr.index,asIntOf,Sem.run_bind,run_underlying Tryz.underlying53 w,part,h3,hlt,hv]
end
end Go.Proofs.YtefekboacghnjaaGreat
namespace Go.Proofs.YtefekboacghnjaaGreat
open Go.RowKit Go.Maps
section
variable {w:World} {h:Nat} {gb qb:Nat→Nat} {Fq:Nat→List Nat} {S:HS} {K:Int}
end
end Go.Proofs.YtefekboacghnjaaGreat
namespace Go.Proofs.YtefekboacghnjaaGreat
open Go.RowKit Go.Maps
def kidless (S:HS) (i:Nat):Prop:=∀ j y,S.G j=some y→y.up≠(i:Int)
section
variable {w w':World} {h:Nat} {gb qb:Nat→Nat} {Fq:Nat→List Nat} {S:HS} {K:Int}
theorem hcells_none (gb:Nat→Nat) (S:HS) {i:Nat} (hi:i<32):(hcells gb S).setIfInBounds (2+i) (.pointer none)=hcells gb (S.put i none):=by
 unfold hcells
 rw [List.setIfInBounds_toArray]
 congr 1
 rw [show 2+i=i+1+1 by omega,List.set_cons_succ,List.set_cons_succ]
 have hc:(S.put i none).credit=S.credit:=rfl
 have hg:(S.put i none).gran=S.gran:=rfl
 rw [hc,hg]
 congr 2
 refine List.ext_getElem? fun j=>?_
 rw [List.getElem?_set,List.getElem?_map,List.getElem?_map]
 by_cases hj:j<32
 ·
  rw [List.getElem?_range hj]
  by_cases hij:i=j
  ·
   subst hij
   rw [if_pos rfl,if_pos (by simpa using hi)]
   simp only [Option.map_some,gpV,HS.put_same]
   rfl
  ·
   rw [if_neg hij]
   simp only [Option.map_some,gpV,HS.put_other S _ (Ne.symm hij)]
 ·
  rw [if_neg (by omega)]
  rw [List.getElem?_eq_none (by simp;omega)]
  rfl
theorem HMem.unlink (m:HMem w h gb qb Fq S K) {i:Nat} (hi:i<32) {W:World} (hB:Below w.heap.size w W):∃ F',HTurned w (hblocks h gb Fq S) h (S.put i none) K (W.setCell ⟨h,2+i,none⟩ (.pointer none)) F':=by
 have old:∀ {j y},(S.put i none).G j=some y→S.G j=some y:=fun {j y} hj=>by
  by_cases hji:j=i
  · subst hji;rw [HS.put_same] at hj;simp at hj
  · rw [HS.put_other S _ hji] at hj;exact hj
 have m2:=m.below hB
 have keep:∀ c,c≠h→(W.setCell ⟨h,2+i,none⟩ (.pointer none)).heap[c]?=W.heap[c]?:=fun c hc=>Below.heap_setCell _ _ _ _ hc
 have ht:∀ j,32≤j→(S.put i none).G j=none:=fun j hj=>by rw [HS.put_other S _ (by omega)];exact m.top j hj
 refine ⟨_,⟨gb,qb,Fq,⟨?_,fun j y hj=>?_,fun j y hj=>?_,ht,fun j y hj=>m.apH j y (old hj),fun j y k z hj hk=>m.apG j y k z (old hj) (old hk),fun j y k z hj hk=>m.apGG j y k z (old hj) (old hk),fun j y k z hj hk=>m.apF j y k z (old hj) (old hk)⟩,rfl⟩,
  Turns.setCell (p:=⟨h,2+i,none⟩) (Turns.of_below hB) (.inl ((hblocks_mem m.top).2 (.inl rfl))) _,fun b hb=>?_⟩
 ·
  rw [← hcells_none gb S hi]
  exact Blk.set m2.blk (2+i) _
 · exact (m2.grp j y (old hj)).of (keep _ (m2.neH (old hj)))
 · exact (m2.que j y (old hj)).of fun b hb=>keep b fun e=>m2.apH j y (old hj) (e ▸ hb)
 ·
  rcases (hblocks_mem ht).1 hb with rfl | ⟨j,y,hj,hc⟩
  · exact .inl ((hblocks_mem m.top).2 (.inl rfl))
  · exact .inl ((hblocks_mem m.top).2 (.inr ⟨j,y,old hj,hc⟩))
set_option maxRecDepth 100000 in
set_option maxHeartbeats 8000000 in
theorem hunlink_any (m:HMem w h gb qb Fq S K) {a:Nat} {x:Gr} (h0:a≠0) (ha:a<32) (hg:S.G a=some x) (hok:x.q.ok) :
  Calls Tryz.prog 54 #[.pointer (some ⟨h,0,none⟩),.int .i64 (a:Int)] w fun e w'=>(¬(kidless S a∧x.q.L=[])∧e=.returned (.int .i64 6)∧Hid (Below w.heap.size w w')) ∨
   ((kidless S a∧x.q.L=[])∧e=.returned (.int .i64 0)∧Hid (∃ F',HTurned w (hblocks h gb Fq S) h (S.put a none) K w' F')):=by
 obtain ⟨cs,hcs⟩:∃ cs:List Value,cs=(List.range 32).map (gpV gb S):=⟨_,rfl⟩
 have hlen:cs.length=32:=by rw [hcs];simp
 have hat:∀ i,i<32→cs[i]?=some (gpV gb S i):=fun i hi=>by rw [hcs];simp [hi]
 have hrg:w.rangeAt h 2 cs:=fun j v hv=>by
  have hj:j<32:=by
   rw [← hlen]
   exact (List.getElem?_eq_some_iff.1 hv).1
  rw [hat j hj] at hv
  rw [Blk.cell m.blk,hcells_at gb S hj]
  exact hv
 have hinf:(Tryz.prog.info? 53).map (·.size)=some cs.length:=by rw [hlen];rfl
 have HL:=Lib.hid (And.intro hrg hinf)
 have HC:=Lib.hid (And.intro hat m)
 have ML:=Lib.hid (hlinked_some m h0 hg)
 have xq:=(m.cells hg).2.2.1
 have ME:=Lib.hid (qents_any (m.que a x hg))
 have hel:=ents_pos hok
 have hblk:=m.blk
 have fz:=Blk.frozen hblk
 have cz:w.cell? ⟨h,2+a,none⟩=some (gpV gb S a):=by rw [Blk.cell hblk,hcells_at gb S ha]
 have HZ:=Lib.hid (And.intro fz cz)
 have HEL:=Lib.hid hel
 clear hrg hinf m hcs hlen hat hel hblk fz cz hok
 go_enter Tryz.func54,Tryz.ntmps54
 go_wp2_with (first
  | (go_at_call 51;refine ML.out.mono ?_;rintro r w' ⟨rfl,rfl⟩)
  | (refine wpList_load_mid rfl 53 (.tmp 15) rfl h 2 rfl cs _ HL.out.1 Tryz.underlying53 rfl HL.out.2 ?_))
 clear HL ML
 go_loopw [17] (fun s17 wr=>∃ i:Nat,i≤32∧s17=.int .i64 i∧w=wr∧Hid (∀ j y,j<i→S.G j=some y→y.up≠(a:Int))) (fun s17 _=>32 - (intOf s17).toNat)
 case atStart=>exact ⟨0,by omega,rfl,rfl,Lib.hid fun j y hj=>absurd hj (by omega)⟩
 case round =>
  obtain ⟨i,hi,rfl,rfl,HN⟩:=hrel
  by_cases hlt:i<32
  ·
   have i0:(0:Int)≤(i:Int):=Int.natCast_nonneg _
   have i1:(i:Int)<32:=by omega
   have i2:decide (i<32)=true:=decide_eq_true hlt
   have i3:decide ((i:Int)<32)=true:=decide_eq_true i1
   have hv:=HC.out.1 i hlt
   have HI:=run_index32 cs hlt hv w
   unfold gpV at HI
   cases hx:S.G i with
   | none =>
    rw [hx] at HI
    simp only [Option.map_none] at HI
    have HN2:=Lib.hid (show ∀ j y,j<i+1→S.G j=some y→y.up≠(a:Int) from fun j y hj hy=>by
     by_cases hji:j=i
     · subst hji;rw [hx] at hy;simp at hy
     · exact HN.out j y (by omega) hy)
    clear hv xq HN
    go_wp2_with fail
    go_roundw
    case rel=>exact ⟨i+1,hlt,by go_num,by first | trivial | rfl,HN2⟩
    case measure=>simp [intOf];omega
   | some y =>
    rw [hx] at HI
    simp only [Option.map_some] at HI
    have y0:=(HC.out.2.cells hx).1
    have HX:=Lib.hid hx
    obtain ⟨up,hup⟩:∃ up,up=y.up:=⟨_,rfl⟩
    rw [← hup] at y0
    by_cases hne:up=(a:Int)
    ·
     have HNK:=Lib.hid (show ¬(kidless S a∧x.q.L=[]) from fun hk=>hk.1 i y hx (hup ▸ hne))
     have z0:(up == (a:Int))=true:=by rw [hne];exact beq_self_eq_true _
     have z1:decide (up=(a:Int))=true:=decide_eq_true hne
     rw [hne] at y0
     clear hv xq hup HN hne z0 z1 hx HX
     go_wp2_with fail
     go_ret
     exact .inl ⟨HNK.out,by trivial,Lib.hid (Below.refl _ _)⟩
    have HN2:=Lib.hid (show ∀ j y,j<i+1→S.G j=some y→y.up≠(a:Int) from fun j y2 hj hy=>by
     by_cases hji:j=i
     · subst hji;rw [hx] at hy;injection hy with hy;rw [← hy,← hup];exact hne
     · exact HN.out j y2 (by omega) hy)
    have z0:(up == (a:Int))=false:=by rw [beq_eq_false_iff_ne];exact hne
    have z1:decide (up=(a:Int))=false:=decide_eq_false hne
    clear hv xq hup HN hne
    go_wp2_with fail
    go_roundw
    case rel=>exact ⟨i+1,hlt,by go_num,by first | trivial | rfl,HN2⟩
    case measure=>simp [intOf];omega
  ·
   obtain rfl:i=32:=by omega
   have HK:=Lib.hid (show kidless S a from fun j y hy=>HN.out j y (HC.out.2.idx hy) hy)
   clear HN
   go_wp2_with fail
   refine ME.out.mono ?_
   rintro r w2 ⟨v,hr,HV⟩
   obtain ⟨A,cc,rfl,hrow,hlen⟩:=own_ents HV.out.1
   subst hr
   have hb2:=HV.out.2
   have hlt:=Array.getElem?_eq_some_iff.1 HC.out.2.blk
   obtain ⟨hlt,_⟩:=hlt
   have cz:w2.cell? ⟨h,2+a,none⟩=some (gpV gb S a):=(hb2.cell (p:=⟨h,2+a,none⟩) hlt).trans HZ.out.2
   have fz:∀ j,w2.frozen? ⟨h,j,none⟩=false:=fun j=>(hb2.frozen (p:=⟨h,j,none⟩) hlt).trans (HZ.out.1 j)
   have HB2:=Lib.hid hb2
   obtain ⟨el,hel⟩:∃ el,el=x.q.ents.length:=⟨_,rfl⟩
   rw [← hel]
   have hel2:=HEL.out
   rw [← hel] at hel2
   have j0:(0:Int)≤(a:Int):=Int.natCast_nonneg _
   have j1:(a:Int)<32:=by omega
   have j2:decide (a<32)=true:=decide_eq_true ha
   have HLL:Hid (el=0 ↔ x.q.L=[]):=Lib.hid ⟨fun h=>List.eq_nil_of_length_eq_zero (by omega),fun h=>by rw [hel2,h];rfl⟩
   clear hb2 hrow hlen hel hel2 xq
   by_cases hz:el=0
   ·
    have HE:=Lib.hid (HLL.out.1 hz)
    subst hz
    have HU:=Lib.hid (HC.out.2.unlink ha HB2.out)
    clear HLL
    go_wp2_with fail
    go_ret
    exact .inr ⟨⟨HK.out,HE.out⟩,by trivial,HU⟩
   ·
    have HE:=Lib.hid (fun e=>hz (HLL.out.2 e))
    have z2:decide ((0:Int)<(el:Int))=true:=decide_eq_true (by omega)
    have z3:decide (0<el)=true:=decide_eq_true (by omega)
    clear HLL
    go_wp2_with fail
    go_ret
    exact .inl ⟨fun hk=>HE.out hk.2,by trivial,HB2⟩
end
end Go.Proofs.YtefekboacghnjaaGreat
namespace Go.Proofs.YtefekboacghnjaaGreat
open Go.RowKit Go.Maps
section
variable {w:World} {h:Nat} {gb qb:Nat→Nat} {Fq:Nat→List Nat} {S:HS} {K:Int}
def underF:Nat→HS→Nat→Int→Bool
 | 0,_,_,_=>false
 | n+1,S,i,a=>if (i:Int)=a then true else match S.G i with
  | none=>false
  | some x=>if x.up = -1 then false else underF n S x.up.toNat a
set_option maxRecDepth 100000 in
set_option maxHeartbeats 8000000 in
theorem hunder_any (m:HMem w h gb qb Fq S K) (T:HTree S) (a:Int) {i:Nat} {x:Gr} (hx:S.G i=some x) :
  Calls Tryz.prog 92 #[.pointer (some ⟨h,0,none⟩),.int .i64 (i:Int),.int .i64 a] w fun e w'=>e=.returned (.bool (underF 9 S i a))∧w=w':=by
 have HM:=Lib.hid m
 have HT:=Lib.hid T
 have hd:=T.deep i x hx
 obtain ⟨R,hR⟩:∃ R,R=underF 9 S i a:=⟨_,rfl⟩
 have HS:=Lib.hid (show ∃ (n j:Nat) (y:Gr),y.deep<n∧S.G j=some y∧(i:Int)=(j:Int)∧R=underF n S j a from ⟨9,i,x,by omega,hx,rfl,hR⟩)
 rw [← hR]
 clear m T hx hd hR
 go_enter Tryz.func92,Tryz.ntmps92
 go_wp2_with fail
 go_loopw [1] (fun s1 wr=>(∃ j:Int,s1=.int .i64 j∧((∃ (n k:Nat) (y:Gr),y.deep<n∧S.G k=some y∧j=(k:Int)∧R=underF n S k a)∨(j = -1∧R=false)))∧w=wr) (fun s1 _=>if intOf s1<0 then 0 else (grOf S (intOf s1).toNat).deep+1)
 case atStart=>exact ⟨⟨_,rfl,.inl HS.out⟩,rfl⟩
 case round =>
  obtain ⟨⟨j,rfl,hc⟩,rfl⟩:=hrel
  rcases hc with ⟨n,k,y,h1,h2,rfl,hR⟩ | ⟨rfl,rfl⟩
  ·
   have z0:((k:Int) == -1)=false:=by rw [beq_eq_false_iff_ne];omega
   have z1:((k:Int) != -1)=true:=by rw [bne_iff_ne];omega
   have z2:decide ((k:Int) = -1)=false:=decide_eq_false (by omega)
   have hk32:=HM.out.idx h2
   by_cases hka:(k:Int)=a
   ·
    have z3:((k:Int) == a)=true:=by rw [beq_iff_eq];exact hka
    have z4:decide ((k:Int)=a)=true:=decide_eq_true hka
    have hRt:R=true:=by
     match n,h1 with
     | n+1,_ =>
      rw [hR]
      unfold underF
      rw [if_pos hka]
    subst hRt
    clear hR
    subst hka
    go_wp2_with fail
    go_ret
    exact ⟨rfl,rfl⟩
   ·
    have z3:((k:Int) == a)=false:=by rw [beq_eq_false_iff_ne];exact hka
    have z4:decide ((k:Int)=a)=false:=decide_eq_false hka
    have c1:=HM.out.ptr_some h2
    have y0:=(HM.out.cells h2).1
    have j0:(0:Int)≤(k:Int):=Int.natCast_nonneg _
    have j1:(k:Int)<32:=by omega
    have j2:decide (k<32)=true:=decide_eq_true hk32
    have HR:=Lib.hid (And.intro h1 (And.intro h2 (And.intro hR hka)))
    clear h1 h2 hR hka
    go_wp2_with fail
    obtain ⟨h1,h2,hR,hka⟩:=HR.out
    have hgk:grOf S k=y:=by unfold grOf;rw [h2];rfl
    have key:(∃ (n:Nat) (k':Nat) (z:Gr),z.deep<n∧S.G k'=some z∧y.up=(k':Int)∧R=underF n S k' a∧z.deep<y.deep)∨(y.up = -1∧R=false):=by
     match n,h1,hR with
     | n+1,h1,hR =>
      unfold underF at hR
      rw [if_neg hka,h2] at hR
      dsimp only at hR
      by_cases hup:y.up = -1
      ·
       rw [if_pos hup] at hR
       exact .inr ⟨hup,hR⟩
      ·
       rw [if_neg hup] at hR
       have h0:k≠0:=by
        rintro rfl
        obtain ⟨g,e1,e2,_⟩:=HT.out.root
        rw [h2] at e1
        injection e1 with e1
        subst e1
        exact hup e2
       obtain ⟨u,z,e1,e2,e3⟩:=HT.out.up k y h0 h2
       rw [e1] at hR
       exact .inl ⟨n,u,z,by omega,e2,e1,by simpa using hR,by omega⟩
    show _∧(if y.up<0 then 0 else (grOf S y.up.toNat).deep+1)<(if (k:Int)<0 then 0 else (grOf S (k:Int).toNat).deep+1)
    rw [if_neg (show ¬((k:Int)<0) by omega),Int.toNat_natCast,hgk]
    rcases key with ⟨n',k',z,e1,e2,e3,e4,e5⟩ | ⟨e1,e2⟩
    ·
     have hgz:grOf S k'=z:=by unfold grOf;rw [e2];rfl
     refine ⟨⟨⟨y.up,rfl,.inl ⟨n',k',z,e1,e2,e3,e4⟩⟩,trivial⟩,?_⟩
     rw [e3,if_neg (show ¬((k':Int)<0) by omega),Int.toNat_natCast,hgz]
     omega
    ·
     refine ⟨⟨⟨y.up,rfl,.inr ⟨e1,e2⟩⟩,trivial⟩,?_⟩
     rw [e1,if_pos (by decide)]
     omega
  ·
   go_wp2_with fail
   go_ret
   exact ⟨rfl,rfl⟩
end
end Go.Proofs.YtefekboacghnjaaGreat
namespace Go.Proofs.YtefekboacghnjaaGreat
open Go.RowKit Go.Maps
section
variable {w:World} {h:Nat} {gb qb:Nat→Nat} {Fq:Nat→List Nat} {S:HS} {K:Int}
set_option maxRecDepth 100000 in
set_option maxHeartbeats 8000000 in
theorem hmove_loop (m:HMem w h gb qb Fq S K) (T:HTree S) {i j:Nat} {x y:Gr} (h0:i≠0) (hx:S.G i=some x) (hy:S.G j=some y) (hu:underF 9 S j (i:Int)=true) :
  Calls Tryz.prog 56 #[.pointer (some ⟨h,0,none⟩),.int .i64 (i:Int),.int .i64 (j:Int)] w fun e w'=>e=.returned (.int .i64 10)∧w=w':=by
 have ML:=Lib.hid (hlinked_some m h0 hx)
 have MA:=Lib.hid (hat_some m hy)
 have MU:=Lib.hid (hunder_any m T (i:Int) hy)
 rw [hu] at MU
 clear m T hx hy hu h0
 go_enter Tryz.func56,Tryz.ntmps56
 go_wp2_with (first
  | (go_at_call 51;refine ML.out.mono ?_;rintro r w' ⟨rfl,rfl⟩)
  | (go_at_call 40;refine MA.out.mono ?_;rintro r w' ⟨rfl,rfl⟩)
  | (go_at_call 92;refine MU.out.mono ?_;rintro r w' ⟨rfl,rfl⟩))
 go_ret
 exact ⟨rfl,rfl⟩
end
end Go.Proofs.YtefekboacghnjaaGreat
namespace Go.Proofs.YtefekboacghnjaaGreat
open Go.RowKit Go.Maps
section
variable {w:World} {h:Nat} {gb qb:Nat→Nat} {Fq:Nat→List Nat} {S:HS} {K:Int}
end
end Go.Proofs.YtefekboacghnjaaGreat
namespace Go.Proofs.YtefekboacghnjaaGreat
open Go.RowKit Go.Maps
/-! Move as data -/
def unders (S:HS) (i n:Nat):List Nat:=(List.range n).filter fun k=>(S.G k).isSome && underF 9 S k (i:Int)
theorem unders_step (S:HS) (i n:Nat):unders S i (n+1)=if (S.G n).isSome && underF 9 S n (i:Int) then unders S i n++[n] else unders S i n:=by
 unfold unders
 rw [List.range_succ,List.filter_append]
 split
 ·
  rename_i h
  rw [List.filter_cons_of_pos (by exact h)]
  rfl
 ·
  rename_i h
  rw [List.filter_cons_of_neg (by exact h),List.filter_nil,List.append_nil]
theorem unders_mem {S:HS} {i n k:Nat}:k ∈ unders S i n ↔ k<n∧(∃ y,S.G k=some y)∧underF 9 S k (i:Int)=true:=by
 unfold unders
 rw [List.mem_filter,List.mem_range,Bool.and_eq_true,Option.isSome_iff_exists]
theorem unders_nodup (S:HS) (i n:Nat):(unders S i n).Nodup:=List.Nodup.sublist List.filter_sublist List.nodup_range
theorem unders_len (S:HS) (i n:Nat):(unders S i n).length≤n:=Nat.le_trans (List.length_filter_le _ _) (by simp)
def deepest (S:HS) (l:List Nat):Nat:=l.foldl (fun m k=>max m (grOf S k).deep) 0
theorem deepest_snoc (S:HS) (l:List Nat) (k:Nat):deepest S (l++[k])=max (deepest S l) (grOf S k).deep:=by
 unfold deepest
 rw [List.foldl_append]
 rfl
theorem deepest_le {S:HS} (T:HTree S) (l:List Nat) (h:∀ k,k ∈ l→∃ y,S.G k=some y):deepest S l≤8:=by
 have key:∀ (l:List Nat) (m:Nat),m≤8→(∀ k,k ∈ l→∃ y,S.G k=some y)→l.foldl (fun m k=>max m (grOf S k).deep) m≤8:=by
  intro l
  induction l with
  | nil=>exact fun m h _=>h
  | cons a l ih =>
   intro m hm h
   rw [List.foldl_cons]
   refine ih _ ?_ fun k hk=>h k (List.mem_cons_of_mem _ hk)
   obtain ⟨y,hy⟩:=h a List.mem_cons_self
   have:=T.deep a y hy
   unfold grOf
   rw [hy]
   exact Nat.max_le.2 ⟨hm,this⟩
 exact key l 0 (by omega) h
def deeper (by_:Int) (S:HS) (k:Nat):HS:=S.put k (some { grOf S k with deep:=(((grOf S k).deep:Int)+by_).toNat })
def deepL (by_:Int) (S:HS) (l:List Nat):HS:=l.foldl (deeper by_) S
theorem deepL_snoc (by_:Int) (S:HS) (l:List Nat) (k:Nat):deepL by_ S (l++[k])=deeper by_ (deepL by_ S l) k:=by
 unfold deepL
 rw [List.foldl_append]
 rfl
theorem grOf_some {S:HS} {k:Nat} {y:Gr} (h:S.G k=some y):grOf S k=y:=by
 unfold grOf
 rw [h]
 rfl
theorem deepL_other {by_:Int} {k:Nat}:∀ (l:List Nat) (S:HS),k ∉ l→(deepL by_ S l).G k=S.G k
 | [],_,_=>rfl
 | a::l,S,h=>by
  show (deepL by_ (deeper by_ S a) l).G k=_
  rw [deepL_other l _ (fun hk=>h (List.mem_cons_of_mem _ hk))]
  exact HS.put_other _ _ (fun e=>h (e ▸ List.mem_cons_self))
theorem deepL_like {by_:Int} {k:Nat}:∀ (l:List Nat) (S:HS) (y:Gr),(∀ a,a ∈ l→∃ y,S.G a=some y)→S.G k=some y→∃ y',(deepL by_ S l).G k=some y'∧y'.up=y.up∧y'.q=y.q∧y'.own=y.own
 | [],_,y,_,h=>⟨y,h,rfl,rfl,rfl⟩
 | a::l,S,y,ha,h=>by
  obtain ⟨z,hz⟩:=ha a List.mem_cons_self
  have hn:∀ b,b ∈ l→∃ y,(deeper by_ S a).G b=some y:=fun b hb=>by
   by_cases hba:b=a
   ·
    subst hba
    exact ⟨_,HS.put_same _ _ _⟩
   ·
    obtain ⟨y2,h2⟩:=ha b (List.mem_cons_of_mem _ hb)
    exact ⟨y2,(HS.put_other _ _ hba).trans h2⟩
  by_cases hka:k=a
  ·
   subst hka
   obtain ⟨y',h1,h2,h3,h4⟩:=deepL_like l (deeper by_ S k) _ hn (HS.put_same _ _ _)
   rw [grOf_some h] at h2 h3 h4
   exact ⟨y',h1,h2,h3,h4⟩
  · exact deepL_like l (deeper by_ S a) y hn ((HS.put_other _ _ hka).trans h)
theorem deepL_none {by_:Int} {k:Nat} (l:List Nat) (S:HS) (ha:∀ a,a ∈ l→∃ y,S.G a=some y) (h:S.G k=none):(deepL by_ S l).G k=none:=by
 rw [deepL_other l S fun hk=>?_]
 · exact h
 ·
  obtain ⟨y,hy⟩:=ha k hk
  rw [h] at hy
  simp at hy
def moveBy (x p:Gr):Int:=((p.deep:Int)+1) - (x.deep:Int)
def moveC (S:HS) (i:Nat) (x p:Gr):Int :=
 if ∃ k,k ∈ unders S i 32∧(grOf S k).q.L≠[] then 6 else if 8<(deepest S (unders S i 32):Int)+moveBy x p then 5 else 0
def movV (S:HS) (x p:Gr):Int:=satZ (satZ x.own.v (-(grOf S x.up.toNat).q.mn)) p.q.mn
def moveHS (S:HS) (i j:Nat) (x p:Gr):HS :=
 (deepL (moveBy x p) S (unders S i 32)).put i (some { grOf (deepL (moveBy x p) S (unders S i 32)) i with own:={ x.own with v:=movV S x p },up:=(j:Int) })
end Go.Proofs.YtefekboacghnjaaGreat
namespace Go.Proofs.YtefekboacghnjaaGreat
open Go.RowKit Go.Maps
set_option maxRecDepth 100000 in
theorem rheld_sub (a b:Int) (ha1:-9223372036854775808≤a) (ha2:a≤9223372036854775807) (hb1:-9223372036854775808≤b) (hb2:b≤9223372036854775807) (w:World) :
  Calls Tryz.prog 140 #[.agg #[.func (.func 136) #[] #[],.func (.func 111) #[] #[]],.int .i64 a,.int .i64 b] w fun e w'=>e=.returned (.tuple #[.int .i64 (satZ a (-b)),.bool (overZ a (-b))])∧Below w.heap.size w w':=by
 obtain ⟨W1,hW1⟩:∃ W1,W1=w.alloc (.cells #[.func (.func 136) #[] #[],.func (.func 111) #[] #[]] 174):=⟨_,rfl⟩
 have hb:Below w.heap.size w W1:=by rw [hW1];exact (Below.refl _ _).alloc (Nat.le_refl _) _
 by_cases h:a - b < -9223372036854775808∨9223372036854775807<a - b
 ·
  rw [show overZ a (-b)=true from decide_eq_true (by omega)]
  have M1:=Lib.hid fun W=>fsub_no a b ha1 ha2 hb1 hb2 h W
  have M2:=Lib.hid fun W=>fless_any a b ha1 ha2 hb1 hb2 W
  generalize satZ a (-b)=s at *
  have HB:=Lib.hid hb
  have HW:=Lib.hid hW1
  clear h hb hW1
  go_enter Tryz.func140,Tryz.ntmps140
  go_wp2_with fail
  refine (M1.out _).mono ?_
  rintro e w' ⟨rfl,rfl⟩
  go_wp2_with fail
  refine (M2.out _).mono ?_
  rintro e w2 ⟨rfl,hb2⟩
  go_wp2_with fail
  go_ret2
  rw [← HW.out] at hb2
  exact ⟨rfl,HB.out.trans (hb2.mono HB.out.size)⟩
 ·
  rw [show overZ a (-b)=false from decide_eq_false (by omega)]
  have e:satZ a (-b)=a - b:=by rw [satZ_in a (-b) (by omega) (by omega)];omega
  have m1:=fun W=>fsub_in a b ha1 ha2 hb1 hb2 (by omega) (by omega) W
  rw [← e] at m1
  have M1:=Lib.hid m1
  generalize satZ a (-b)=s at *
  have HB:=Lib.hid hb
  have HW:=Lib.hid hW1
  clear e m1 h hb hW1
  go_enter Tryz.func140,Tryz.ntmps140
  go_wp2_with fail
  refine (M1.out _).mono ?_
  rintro e w' ⟨rfl,rfl⟩
  go_wp2_with fail
  go_ret2
  rw [← HW.out]
  exact ⟨rfl,HB.out⟩
set_option maxRecDepth 100000 in
theorem rheld_add (a b:Int) (ha1:-9223372036854775808≤a) (ha2:a≤9223372036854775807) (hb1:-9223372036854775808≤b) (hb2:b≤9223372036854775807) (w:World) :
  Calls Tryz.prog 140 #[.agg #[.func (.func 88) #[] #[],.func (.func 90) #[] #[]],.int .i64 a,.int .i64 b] w fun e w'=>e=.returned (.tuple #[.int .i64 (satZ a b),.bool (overZ a b)])∧Below w.heap.size w w':=by
 obtain ⟨W1,hW1⟩:∃ W1,W1=w.alloc (.cells #[.func (.func 88) #[] #[],.func (.func 90) #[] #[]] 174):=⟨_,rfl⟩
 have hb:Below w.heap.size w W1:=by rw [hW1];exact (Below.refl _ _).alloc (Nat.le_refl _) _
 by_cases h:a+b < -9223372036854775808∨9223372036854775807<a+b
 ·
  rw [show overZ a b=true from decide_eq_true (by omega)]
  have M1:=Lib.hid fun W=>fadd_no a b ha1 ha2 hb1 hb2 h W
  have M2:=Lib.hid fun W=>fsat_any a b ha1 ha2 hb1 hb2 W
  generalize satZ a b=s at *
  have HB:=Lib.hid hb
  have HW:=Lib.hid hW1
  clear h hb hW1
  go_enter Tryz.func140,Tryz.ntmps140
  go_wp2_with fail
  refine (M1.out _).mono ?_
  rintro e w' ⟨rfl,rfl⟩
  go_wp2_with fail
  refine (M2.out _).mono ?_
  rintro e w2 ⟨rfl,hb2⟩
  go_wp2_with fail
  go_ret2
  rw [← HW.out] at hb2
  exact ⟨rfl,HB.out.trans (hb2.mono HB.out.size)⟩
 ·
  rw [show overZ a b=false from decide_eq_false (by omega)]
  have e:satZ a b=a+b:=satZ_in a b (by omega) (by omega)
  have m1:=fun W=>fadd_yes a b ha1 ha2 hb1 hb2 (by omega) (by omega) W
  rw [← e] at m1
  have M1:=Lib.hid m1
  generalize satZ a b=s at *
  have HB:=Lib.hid hb
  have HW:=Lib.hid hW1
  clear e m1 h hb hW1
  go_enter Tryz.func140,Tryz.ntmps140
  go_wp2_with fail
  refine (M1.out _).mono ?_
  rintro e w' ⟨rfl,rfl⟩
  go_wp2_with fail
  go_ret2
  rw [← HW.out]
  exact ⟨rfl,HB.out⟩
set_option maxRecDepth 100000 in
theorem roff_any (a b:Int) (ha1:-9223372036854775808≤a) (ha2:a≤9223372036854775807) (hb1:-9223372036854775808≤b) (hb2:b≤9223372036854775807) (w:World) :
  Calls Tryz.prog 118 #[.int .i64 a,.int .i64 b] w fun e w'=>e=.returned (.tuple #[.int .i64 (satZ a (-b)),.bool (overZ a (-b))])∧Below w.heap.size w w':=by
 have M1:=Lib.hid (rheld_sub a b ha1 ha2 hb1 hb2 w)
 generalize satZ a (-b)=s at *
 generalize overZ a (-b)=o at *
 go_enter Tryz.func118,Tryz.ntmps118
 go_wp2_with fail
 refine M1.out.mono ?_
 rintro e w' ⟨rfl,hb⟩
 go_wp2_with fail
 go_ret2
 exact ⟨rfl,hb⟩
set_option maxRecDepth 100000 in
theorem ron_any (a b:Int) (ha1:-9223372036854775808≤a) (ha2:a≤9223372036854775807) (hb1:-9223372036854775808≤b) (hb2:b≤9223372036854775807) (w:World) :
  Calls Tryz.prog 119 #[.int .i64 a,.int .i64 b] w fun e w'=>e=.returned (.tuple #[.int .i64 (satZ a b),.bool (overZ a b)])∧Below w.heap.size w w':=by
 have M1:=Lib.hid (rheld_add a b ha1 ha2 hb1 hb2 w)
 generalize satZ a b=s at *
 generalize overZ a b=o at *
 go_enter Tryz.func119,Tryz.ntmps119
 go_wp2_with fail
 refine M1.out.mono ?_
 rintro e w' ⟨rfl,hb⟩
 go_wp2_with fail
 go_ret2
 exact ⟨rfl,hb⟩
set_option maxRecDepth 100000 in
theorem rmove_any (v f t:Int) (hv1:-9223372036854775808≤v) (hv2:v≤9223372036854775807) (hf1:-9223372036854775808≤f) (hf2:f≤9223372036854775807) (ht1:-9223372036854775808≤t) (ht2:t≤9223372036854775807) (w:World) :
  Calls Tryz.prog 93 #[.int .i64 v,.int .i64 f,.int .i64 t] w fun e w'=>e=.returned (.tuple #[.int .i64 (satZ (satZ v (-f)) t),.bool (overZ v (-f) || overZ (satZ v (-f)) t)])∧Below w.heap.size w w':=by
 have M1:=Lib.hid fun W=>roff_any v f hv1 hv2 hf1 hf2 W
 have M2:=Lib.hid fun W=>ron_any (satZ v (-f)) t (satZ_lo _ _) (satZ_hi _ _) ht1 ht2 W
 generalize satZ (satZ v (-f)) t=s at *
 generalize overZ (satZ v (-f)) t=o2 at *
 generalize satZ v (-f)=s0 at *
 generalize overZ v (-f)=o at *
 go_enter Tryz.func93,Tryz.ntmps93
 go_wp2_with fail
 refine (M1.out _).mono ?_
 rintro e w1 ⟨rfl,hb1⟩
 go_wp2_with fail
 refine (M2.out _).mono ?_
 rintro e w2 ⟨rfl,hb2⟩
 cases o
 all_goals
  go_wp2_with fail
  go_ret2
  exact ⟨by simp,hb1.trans (hb2.mono hb1.size)⟩
end Go.Proofs.YtefekboacghnjaaGreat
namespace Go.Proofs.YtefekboacghnjaaGreat
open Go.RowKit Go.Maps
theorem infoGp:(Tryz.prog.info? 52).map (fun i=>(i.zero,i.size,i.bytes))=some (some (.pointer none),1,8):=by kernel_rfl
theorem own_below {w w':World} {base:Nat} {e:TypeId} {size n:Nat} {v:Value} {xs:List Value} (h:w.ownsRow base e size v n xs) (hb:Below w.heap.size w w'):w'.ownsRow base e size v n xs :=
 h.kept (row:=none) ⟨hb.os,hb.tape,hb.output,hb.size,fun i hi _=>hb.block i hi⟩ (Classical.em _)
theorem cell_one_new (w:World) (a:Value) (t:TypeId):∀ j u,[a][j]?=some u→(w.alloc (.cells #[a] t)).cell? ((⟨w.heap.size,0,none⟩:Addr).add j)=some u:=by
 intro j u hj
 match j,hj with
 | 0,hj=>simp at hj;subst hj;simp [go_sem,Addr.add]
 | j+1,hj=>simp at hj
theorem under_deep {S:HS} (T:HTree S) {i:Nat} {x:Gr} (hx:S.G i=some x):∀ (n k:Nat) (y:Gr),S.G k=some y→underF n S k (i:Int)=true→x.deep≤y.deep
 | 0,k,y,_,h=>by simp [underF] at h
 | n+1,k,y,hy,h=>by
  unfold underF at h
  by_cases hk:(k:Int)=(i:Int)
  ·
   have hki:k=i:=by omega
   subst hki
   rw [hx] at hy
   injection hy with hy
   subst hy
   exact Nat.le_refl _
  ·
   rw [if_neg hk,hy] at h
   dsimp only at h
   by_cases hup:y.up = -1
   ·
    rw [if_pos hup] at h
    simp at h
   ·
    rw [if_neg hup] at h
    have h0:k≠0:=by
     rintro rfl
     obtain ⟨g,e1,e2,_⟩:=T.root
     rw [hy] at e1
     injection e1 with e1
     subst e1
     exact hup e2
    obtain ⟨u,q,e1,e2,e3⟩:=T.up k y h0 hy
    rw [e1,Int.toNat_natCast] at h
    have:=under_deep T hx n u q e2 h
    omega
section
variable {w W:World} {h:Nat} {gb qb:Nat→Nat} {Fq:Nat→List Nat} {S D:HS} {K:Int}
theorem HMem.deeper (m:HMem W h gb qb Fq D K) {k:Nat} {y:Gr} (hy:D.G k=some y) {by_ dn:Int} (hdn:dn=(y.deep:Int)+by_) (h0:0≤dn) :
  HMem (W.setCell ⟨gb k,1,none⟩ (.int .i64 dn)) h gb qb Fq (deeper by_ D k) K:=by
 unfold Go.Proofs.YtefekboacghnjaaGreat.deeper
 rw [grOf_some hy]
 refine m.group hy rfl (Blk.set (m.grp k y hy) 1 (.int .i64 dn)) ?_ fun b _ hb=>Below.heap_setCell W _ _ b hb
 have e:(((((y.deep:Int)+by_).toNat:Nat)):Int)=dn:=by omega
 show _=#[Value.int .i64 y.up,.int .i64 ((((y.deep:Int)+by_).toNat:Nat):Int),.pointer (some ⟨qb k,0,none⟩),.int .i64 y.own.id,.int .u64 y.own.wt,.int .i64 y.own.v,.int .u64 y.own.rem,.bool y.on,.bool y.stopped]
 rw [e]
 rfl
theorem HMem.vset (m:HMem W h gb qb Fq D K) {i:Nat} {y:Gr} (hy:D.G i=some y) (v:Int) :
  HMem (W.setCell ⟨gb i,5,none⟩ (.int .i64 v)) h gb qb Fq (D.put i (some { y with own:={ y.own with v:=v } })) K :=
 m.group hy rfl (Blk.set (m.grp i y hy) 5 (.int .i64 v)) rfl fun b _ hb=>Below.heap_setCell W ⟨gb i,5,none⟩ _ b hb
theorem HS.put_like {D:HS} {i k:Nat} {y z:Gr} (_hy:D.G i=some y) (hz:D.G k=some z) (y':Gr):∃ z',(D.put i (some y')).G k=some z':=by
 by_cases hk:k=i
 · exact ⟨y',by rw [hk,HS.put_same]⟩
 · exact ⟨z,(HS.put_other _ _ hk).trans hz⟩
theorem HMem.moved (m:HMem W h gb qb Fq D K) {i:Nat} {y:Gr} (hy:D.G i=some y) (v u:Int) :
  HMem ((W.setCell ⟨gb i,5,none⟩ (.int .i64 v)).setCell ⟨gb i,0,none⟩ (.int .i64 u)) h gb qb Fq (D.put i (some { y with own:={ y.own with v:=v },up:=u })) K:=by
 refine m.group hy rfl (Blk.set (Blk.set (m.grp i y hy) 5 (.int .i64 v)) 0 (.int .i64 u)) rfl fun b _ hb=>?_
 exact (Below.heap_setCell _ ⟨gb i,0,none⟩ _ b hb).trans (Below.heap_setCell W ⟨gb i,5,none⟩ _ b hb)
end
end Go.Proofs.YtefekboacghnjaaGreat
namespace Go.Proofs.YtefekboacghnjaaGreat
open Go.RowKit Go.Maps
section
variable {S:HS} {i j g:Nat} {x p:Gr}
theorem nice_good (H:HGood S) (hg:S.G g=some x) (k:Int) (w:Nat):HGood (S.put g (some { x with q:=weighQ x.q k w })) :=
 H.same hg (weighQ_ok (H.inv.qok g x hg) _ _) (weighQ_ids _ _ _)
theorem HGood.off (H:HGood S) (h0:i≠0) (hx:S.G i=some x) (hq:x.q.L=[]):x.on=false:=by
 rw [H.set i x h0 hx]
 unfold shouldB
 rw [hq]
 simp
theorem HS.may_of {S':HS} (off:∀ y,S.G i=some y→y.on=false) (keep:∀ k y,k≠i→S.G k=some y→∃ z,S'.G k=some z∧z.up=y.up∧z.on=y.on) {u:Nat} {id:Int} (h:S.may u id):S'.may u id:=by
 rcases h with h | ⟨k,y,e1,e2,e3,e4,e5⟩
 · exact .inl h
 ·
  have hki:k≠i:=by
   rintro rfl
   rw [off y e3] at e5
   simp at e5
  obtain ⟨z,z1,z2,z3⟩:=keep k y hki e3
  exact .inr ⟨k,z,e1,e2,z1,z2.trans e4,z3.trans e5⟩
theorem unlink_good (H:HGood S) (h0:i≠0) (hx:S.G i=some x) (hk:kidless S i) (hq:x.q.L=[]):HGood (S.put i none):=by
 have hoff:x.on=false:=H.off h0 hx hq
 have old:∀ {k z},(S.put i none).G k=some z→k≠i∧S.G k=some z:=fun {k z} hz=>by
  by_cases hki:k=i
  · subst hki;rw [HS.put_same] at hz;simp at hz
  · rw [HS.put_other _ _ hki] at hz;exact ⟨hki,hz⟩
 have may:∀ {u id},S.may u id→(S.put i none).may u id:=fun h=>HS.may_of (i:=i) (fun y hy=>by rw [hx] at hy;injection hy with hy;rw [← hy];exact hoff) (fun k y hki hy=>⟨y,(HS.put_other _ _ hki).trans hy,rfl,rfl⟩) h
 refine ⟨⟨⟨fun k hk2=>?_,?_,fun k z hk0 hz=>?_,fun k z hz=>H.inv.tree.deep k z (old hz).2⟩,fun k z hk0 hz=>H.inv.own k z hk0 (old hz).2,fun u q hu e he=>may (H.inv.ids u q (old hu).2 e he),fun k z u q hk0 hz hup hu hon=>H.inv.on k z u q hk0 (old hz).2 hup (old hu).2 hon,fun u q hu=>H.inv.qok u q (old hu).2⟩,fun k z hk0 hz=>H.set k z hk0 (old hz).2⟩
 ·
  by_cases hki:k=i
  · subst hki;exact HS.put_same _ _ _
  · rw [HS.put_other _ _ hki];exact H.inv.tree.top k hk2
 ·
  obtain ⟨r,e1,e2,e3⟩:=H.inv.tree.root
  exact ⟨r,(HS.put_other _ _ (Ne.symm h0)).trans e1,e2,e3⟩
 ·
  obtain ⟨u,q,e1,e2,e3⟩:=H.inv.tree.up k z hk0 (old hz).2
  have hui:u≠i:=by
   rintro rfl
   exact hk k z (old hz).2 e1
  exact ⟨u,q,e1,(HS.put_other _ _ hui).trans e2,e3⟩
theorem yieldH_good (H:HGood S):HGood (yieldH 9 S):=by
 unfold yieldH
 split
 · exact pick_good H
 ·
  split
  · exact H
  ·
   rename_i x hx
   exact pick_good (H.same hx ((H.inv.qok _ x hx).at_ ((H.inv.qok _ x hx).yieldI_ok S.gran)) rfl)
theorem deepL_is {by_:Int} {k:Nat}:∀ (l:List Nat) (S:HS) (y:Gr),l.Nodup→(∀ a,a ∈ l→∃ y,S.G a=some y)→S.G k=some y→(deepL by_ S l).G k=some (if k ∈ l then { y with deep:=((y.deep:Int)+by_).toNat } else y)
 | [],S,y,_,_,h=>by
  rw [if_neg (by simp)]
  exact h
 | a::l,S,y,hn,ha,h=>by
  obtain ⟨h1,h2⟩:=List.nodup_cons.1 hn
  have hl:∀ b,b ∈ l→∃ y,(deeper by_ S a).G b=some y:=fun b hb=>by
   by_cases hba:b=a
   ·
    subst hba
    exact ⟨_,HS.put_same _ _ _⟩
   ·
    obtain ⟨y2,e2⟩:=ha b (List.mem_cons_of_mem _ hb)
    exact ⟨y2,(HS.put_other _ _ hba).trans e2⟩
  by_cases hka:k=a
  ·
   subst hka
   have:=deepL_is (by_:=by_) (k:=k) l (deeper by_ S k) _ h2 hl (HS.put_same _ _ _)
   rw [if_neg h1,grOf_some h] at this
   rw [if_pos List.mem_cons_self]
   exact this
  ·
   have:=deepL_is (by_:=by_) (k:=k) l (deeper by_ S a) y h2 hl ((HS.put_other _ _ hka).trans h)
   rw [show (deepL by_ S (a::l)).G k=(deepL by_ (deeper by_ S a) l).G k from rfl,this]
   by_cases hkl:k ∈ l
   · rw [if_pos hkl,if_pos (List.mem_cons_of_mem _ hkl)]
   · rw [if_neg hkl,if_neg (fun hm=>by rcases List.mem_cons.1 hm with e | e;exact hka e;exact hkl e)]
theorem underF_fuel (T:HTree S) (a:Int):∀ (n m k:Nat) (y:Gr),S.G k=some y→y.deep<n→y.deep<m→underF n S k a=underF m S k a
 | 0,_,_,_,_,h,_=>absurd h (Nat.not_lt_zero _)
 | _,0,_,_,_,_,h=>absurd h (Nat.not_lt_zero _)
 | n+1,m+1,k,y,hy,h1,h2=>by
  unfold underF
  by_cases hk:(k:Int)=a
  · rw [if_pos hk,if_pos hk]
  ·
   rw [if_neg hk,if_neg hk,hy]
   dsimp only
   by_cases hup:y.up = -1
   · rw [if_pos hup,if_pos hup]
   ·
    rw [if_neg hup,if_neg hup]
    have h0:k≠0:=by
     rintro rfl
     obtain ⟨g,e1,e2,_⟩:=T.root
     rw [hy] at e1
     injection e1 with e1
     subst e1
     exact hup e2
    obtain ⟨u,q,e1,e2,e3⟩:=T.up k y h0 hy
    rw [e1,Int.toNat_natCast]
    exact underF_fuel T a n m u q e2 (by omega) (by omega)
theorem underF_up (T:HTree S) {k u:Nat} {y q:Gr} (hk:k≠i) (hy:S.G k=some y) (hup:y.up=(u:Int)) (hq:S.G u=some q) (hd:y.deep=q.deep+1):underF 9 S k (i:Int)=underF 9 S u (i:Int):=by
 have h8:=T.deep k y hy
 rw [← underF_fuel T (i:Int) 8 9 u q hq (by omega) (by omega)]
 show (if (k:Int)=(i:Int) then true else match S.G k with | none=>false | some x=>if x.up = -1 then false else underF 8 S x.up.toNat (i:Int))=_
 rw [if_neg (by omega),hy]
 dsimp only
 rw [if_neg (by omega),hup,Int.toNat_natCast]
theorem le_deepest2 {S:HS} {l:List Nat} {k:Nat} (h:k ∈ l):(grOf S k).deep≤deepest S l:=by
 have key:∀ (l:List Nat) (m:Nat),m≤l.foldl (fun m k=>max m (grOf S k).deep) m∧∀ k,k ∈ l→(grOf S k).deep≤l.foldl (fun m k=>max m (grOf S k).deep) m:=by
  intro l
  induction l with
  | nil=>exact fun m=>⟨Nat.le_refl _,fun k hk=>by simp at hk⟩
  | cons a l ih =>
   intro m
   rw [List.foldl_cons]
   obtain ⟨h1,h2⟩:=ih (max m (grOf S a).deep)
   refine ⟨by omega,fun k hk=>?_⟩
   rcases List.mem_cons.1 hk with rfl | hk
   · omega
   · exact h2 k hk
 exact (key l 0).2 k h
theorem move_good (H:HGood S) (h0:i≠0) (hx:S.G i=some x) (hp:S.G j=some p) (hu:underF 9 S j (i:Int)=false) (hc:moveC S i x p=0):HGood (moveHS S i j x p):=by
 have T:=H.inv.tree
 have hi32:i<32:=by
  refine Decidable.byContradiction fun hlt=>?_
  rw [T.top i (by omega)] at hx
  simp at hx
 have uii:underF 9 S i (i:Int)=true:=by
  show (if (i:Int)=(i:Int) then true else _)=true
  rw [if_pos rfl]
 have hji:j≠i:=by
  rintro rfl
  rw [uii] at hu
  simp at hu
 obtain ⟨L,hL⟩:∃ L,L=unders S i 32:=⟨_,rfl⟩
 have hmem:∀ k y,S.G k=some y→(k ∈ L ↔ underF 9 S k (i:Int)=true):=fun k y hy=>by
  rw [hL,unders_mem]
  refine ⟨fun h=>h.2.2,fun h=>⟨?_,⟨y,hy⟩,h⟩⟩
  refine Decidable.byContradiction fun hlt=>?_
  rw [T.top k (by omega)] at hy
  simp at hy
 have hall:∀ a,a ∈ L→∃ y,S.G a=some y:=fun a ha=>by
  rw [hL,unders_mem] at ha
  exact ha.2.1
 have hnd:L.Nodup:=by rw [hL];exact unders_nodup S i 32
 have hiL:i ∈ L:=(hmem i x hx).2 uii
 unfold moveC at hc
 rw [← hL] at hc
 have hc1:¬∃ k,k ∈ L∧(grOf S k).q.L≠[]:=fun h=>by
  rw [if_pos h] at hc
  exact absurd hc (by decide)
 rw [if_neg hc1] at hc
 have hc2:¬8<(deepest S L:Int)+moveBy x p:=fun h=>by
  rw [if_pos h] at hc
  exact absurd hc (by decide)
 have hxq:x.q.L=[]:=Decidable.byContradiction fun h=>hc1 ⟨i,hiL,by rw [grOf_some hx];exact h⟩
 have hoff:=H.off h0 hx hxq
 obtain ⟨b,hb⟩:∃ b,b=moveBy x p:=⟨_,rfl⟩
 have hbe:b=((p.deep:Int)+1) - (x.deep:Int):=hb
 rw [← hb] at hc2
 have hle:∀ k y,S.G k=some y→underF 9 S k (i:Int)=true→(y.deep:Int)+b≤8∧x.deep≤y.deep:=fun k y hy hun=>by
  have h1:=le_deepest2 (S:=S) ((hmem k y hy).2 hun)
  rw [grOf_some hy] at h1
  exact ⟨by omega,under_deep T hx 9 k y hy hun⟩
 have hDG:∀ k y,S.G k=some y→(deepL b S L).G k=some (if underF 9 S k (i:Int)=true then { y with deep:=((y.deep:Int)+b).toNat } else y):=fun k y hy=>by
  rw [deepL_is L S y hnd hall hy]
  by_cases h:k ∈ L
  · rw [if_pos h,if_pos ((hmem k y hy).1 h)]
  · rw [if_neg h,if_neg (fun e=>h ((hmem k y hy).2 e))]
 have hDi:=hDG i x hx
 rw [if_pos uii] at hDi
 have hmv:moveHS S i j x p=(deepL b S L).put i (some { x with deep:=((x.deep:Int)+b).toNat,own:={ x.own with v:=movV S x p },up:=(j:Int) }):=by
  unfold moveHS
  rw [← hL,← hb,grOf_some hDi]
 rw [hmv]
 obtain ⟨S',hS'⟩:∃ S',S'=(deepL b S L).put i (some { x with deep:=((x.deep:Int)+b).toNat,own:={ x.own with v:=movV S x p },up:=(j:Int) }):=⟨_,rfl⟩
 rw [← hS']
 have gi:S'.G i=some { x with deep:=((x.deep:Int)+b).toNat,own:={ x.own with v:=movV S x p },up:=(j:Int) }:=by rw [hS'];exact HS.put_same _ _ _
 have go:∀ k y,k≠i→S.G k=some y→S'.G k=some (if underF 9 S k (i:Int)=true then { y with deep:=((y.deep:Int)+b).toNat } else y):=fun k y hki hy=>by
  rw [hS',HS.put_other _ _ hki]
  exact hDG k y hy
 have gn:∀ k,k≠i→S.G k=none→S'.G k=none:=fun k hki hn=>by
  rw [hS',HS.put_other _ _ hki]
  exact deepL_none L S hall hn
 have dx:=hle i x hx uii
 have back:∀ {k z},S'.G k=some z→∃ y,S.G k=some y∧z.q=y.q∧z.on=y.on∧z.stopped=y.stopped∧(k≠i→z.up=y.up∧z.own=y.own∧z.deep≤8)∧(k=i→y=x∧z.up=(j:Int)∧z.own = { x.own with v:=movV S x p } ∧ z.deep=p.deep+1):=fun {k z} hz=>by
  by_cases hki:k=i
  ·
   subst hki
   rw [gi] at hz
   injection hz with hz
   subst hz
   exact ⟨x,hx,rfl,rfl,rfl,fun h=>absurd rfl h,fun _=>⟨rfl,rfl,rfl,by show ((x.deep:Int)+b).toNat=p.deep+1;omega⟩⟩
  ·
   cases hy:S.G k with
   | none=>rw [gn k hki hy] at hz;simp at hz
   | some y =>
    rw [go k y hki hy] at hz
    injection hz with hz
    have h8:=T.deep k y hy
    by_cases hun:underF 9 S k (i:Int)=true
    ·
     rw [if_pos hun] at hz
     subst hz
     have:=(hle k y hy hun).1
     exact ⟨y,rfl,rfl,rfl,rfl,fun _=>⟨rfl,rfl,by show ((y.deep:Int)+b).toNat≤8;omega⟩,fun h=>absurd h hki⟩
    ·
     rw [if_neg hun] at hz
     subst hz
     exact ⟨y,rfl,rfl,rfl,rfl,fun _=>⟨rfl,rfl,h8⟩,fun h=>absurd h hki⟩
 have may:∀ {u id},S.may u id→S'.may u id:=fun h=>HS.may_of (i:=i) (fun y hy=>by rw [hx] at hy;injection hy with hy;rw [← hy];exact hoff) (fun k y hki hy=>⟨_,go k y hki hy,by split <;> rfl,by split <;> rfl⟩) h
 refine ⟨⟨⟨fun k hk=>?_,?_,fun k z hk0 hz=>?_,fun k z hz=>?_⟩,fun k z hk0 hz=>?_,fun u q hu2 e he=>?_,fun k z u q hk0 hz hup hu2 hon=>?_,fun u q hu2=>?_⟩,fun k z hk0 hz=>?_⟩
 · exact gn k (by omega) (T.top k hk)
 ·
  obtain ⟨r,e1,e2,e3⟩:=T.root
  have hr:underF 9 S 0 (i:Int)=false:=by
   show (if ((0:Nat):Int)=(i:Int) then true else match S.G 0 with | none=>false | some x=>if x.up = -1 then false else underF 8 S x.up.toNat (i:Int))=false
   rw [if_neg (by omega),e1]
   dsimp only
   rw [if_pos e2]
  have:=go 0 r (Ne.symm h0) e1
  rw [hr] at this
  exact ⟨r,this,e2,e3⟩
 ·
  by_cases hki:k=i
  ·
   subst hki
   obtain ⟨_,_,_,_,_,_,e⟩:=back hz
   obtain ⟨_,e1,_,e3⟩:=e rfl
   have:=go j p hji hp
   rw [hu] at this
   exact ⟨j,p,e1,this,e3⟩
  ·
   obtain ⟨y,hy,_,_,_,e,_⟩:=back hz
   obtain ⟨e1,_,_⟩:=e hki
   obtain ⟨u,q,f1,f2,f3⟩:=T.up k y hk0 hy
   have hku:=underF_up T hki hy f1 f2 f3
   rw [go k y hki hy] at hz
   injection hz with hz
   by_cases hui:u=i
   ·
    subst hui
    rw [hku,uii,if_pos rfl] at hz
    rw [hx] at f2
    injection f2 with f2
    subst f2
    refine ⟨u,_,e1.trans f1,gi,?_⟩
    rw [← hz]
    show ((y.deep:Int)+b).toNat=((x.deep:Int)+b).toNat+1
    omega
   ·
    have hgu:=go u q hui f2
    rw [hku] at hz
    refine ⟨u,_,e1.trans f1,hgu,?_⟩
    rw [← hz]
    by_cases hun:underF 9 S u (i:Int)=true
    ·
     rw [if_pos hun,if_pos hun]
     have:=(hle u q f2 hun).2
     show ((y.deep:Int)+b).toNat=((q.deep:Int)+b).toNat+1
     omega
    ·
     rw [if_neg hun,if_neg hun]
     exact f3
 ·
  obtain ⟨y,hy,_,_,_,e1,e2⟩:=back hz
  by_cases hki:k=i
  ·
   have:=(e2 hki).2.2.2
   have:=dx.1
   omega
  · exact (e1 hki).2.2
 ·
  obtain ⟨y,hy,_,_,_,e1,e2⟩:=back hz
  have O:=H.inv.own k y hk0 hy
  by_cases hki:k=i
  ·
   obtain ⟨f1,_,f3,_⟩:=e2 hki
   subst f1
   rw [f3]
   exact ⟨O.id,O.w1,O.w2,satZ_lo _ _,satZ_hi _ _,O.r⟩
  ·
   rw [(e1 hki).2.1]
   exact O
 ·
  obtain ⟨y,hy,e1,_⟩:=back hu2
  rw [e1] at he
  exact may (H.inv.ids u y hy e he)
 ·
  obtain ⟨y,hy,_,e2,_,e3,e4⟩:=back hz
  obtain ⟨y2,hy2,f1,_⟩:=back hu2
  have hki:k≠i:=fun hki=>by
   rw [e2,(e4 hki).1,hoff] at hon
   simp at hon
  rw [f1]
  exact H.inv.on k y u y2 hk0 hy ((e3 hki).1.symm.trans hup) hy2 (e2.symm.trans hon)
 ·
  obtain ⟨y,hy,e1,_⟩:=back hu2
  rw [e1]
  exact H.inv.qok u y hy
 ·
  obtain ⟨y,hy,e1,e2,e3,_⟩:=back hz
  have:=H.set k y hk0 hy
  unfold shouldB at this ⊢
  rw [e1,e2,e3]
  exact this
end
end Go.Proofs.YtefekboacghnjaaGreat
