/-
  dolelaw20.both.same: both sides stand alike.
-/
import Derived.Test.YtefekboacghnjaaGreatPm
import Derived.Test.YtefekboacghnjaaGreatPk
import Derived.Test.YtefekboacghnjaaGreatPl
import Derived.Test.YtefekboacghnjaaGreatPf
import Derived.Test.YtefekboacghnjaaGreatPg
set_option linter.unusedVariables false
set_option linter.unusedSimpArgs false
namespace Go.Proofs.YtefekboacghnjaaGreat
open Go.RowKit Go.Maps
def onB (S:HS) (g:Int):Bool:=match S.linked g with | none=>false | some x=>x.on
def stB (S:HS) (g:Int):Bool:=match S.linked g with | none=>false | some x=>x.stopped
section
variable {w0 w:World} {p h:Nat} {S:HS} {X:XH} {K:Int}
theorem RH.qc (r:RH w0 w p h S S X X K []) {i:Nat} (hi:i<32):w.cell? ⟨p,3+i*4,none⟩=some (.slice (X.g i).A (X.g i).q.L.length (X.g i).c)∧w.cell? ⟨p,3+i*4+1,none⟩=some (.int .i64 (X.g i).q.cur) ∧
  w.cell? ⟨p,3+i*4+2,none⟩=some (.int .i64 (X.g i).q.mn)∧w.cell? ⟨p,3+i*4+3,none⟩=some (.bool (X.g i).q.over):=by
 have key:∀ j,j<4→w.cell? ⟨p,3+i*4+j,none⟩=some (qcell (X.g i) j):=fun j hj=>by
  rw [Blk.cell r.box,show 3+i*4+j=1+(2+i*4+j) by omega,bcells_at,xcells_at X (by omega),xcell_q X hi j hj]
 exact ⟨key 0 (by omega),key 1 (by omega),key 2 (by omega),key 3 (by omega)⟩
theorem RH.hcell (r:RH w0 w p h S S X X K []) {i:Nat} (hi:i<32):w.cell? ⟨p,291+i,none⟩=some (.bool (X.g i).halt):=by
 rw [Blk.cell r.box,show 291+i=1+(290+i) by omega,bcells_at,xcells_at X (by omega),xcell_halt X]
theorem RH.mem (r:RH w0 w p h S S X X K []):∃ gb qb Fq,HMem w h gb qb Fq S K:=by
 obtain ⟨F,a,_⟩:=r.ex
 obtain ⟨gb,qb,Fq,m,_⟩:=a.ex
 exact ⟨gb,qb,Fq,m⟩
theorem both_on (r:RH w0 w p h S S X X K []) (g:Int):Calls Tryz.prog 13 #[.pointer (some ⟨h,0,none⟩),.int .i64 g] w fun e w'=>e=.returned (.bool (onB S g))∧w=w':=by
 obtain ⟨gb,qb,Fq,m⟩:=r.mem
 unfold onB
 rcases S.linked_cases g with e | ⟨i,x,rfl,h0,hi,hx⟩
 · rw [e];exact hon_none m e
 · rw [HS.linked,if_neg (by omega),S.at_nat hi,hx];exact hon_some m h0 hx
theorem both_xon (r:RH w0 w p h S S X X K []) (H:HGood S) (g:Int):Calls Tryz.prog 31 #[xV X,.int .i64 g] w fun e w'=>e=.returned (.bool (onB S g))∧Hid (RH w0 w' p h S S X X K []):=by
 refine Calls.mono (R:=fun e w'=>e=.returned (.bool (onB S g))∧Below w.heap.size w w') ?_ fun e w' hp=>⟨hp.1,Lib.hid (r.below hp.2)⟩
 unfold onB
 rcases S.linked_cases g with e | ⟨i,x,rfl,h0,hi,hx⟩
 ·
  rw [e]
  refine xon_not X (fun W=>?_) w
  have:=xlinked_any r.at_ H.inv.tree g W
  rw [e] at this
  exact this
 ·
  rw [HS.linked,if_neg (by omega),S.at_nat hi,hx]
  exact xon_is r.at_ H.inv h0 hx (Below.refl _ _)
theorem both_st (r:RH w0 w p h S S X X K []) (g:Int):Calls Tryz.prog 32 #[.pointer (some ⟨h,0,none⟩),.int .i64 g] w fun e w'=>e=.returned (.bool (stB S g))∧w=w':=by
 obtain ⟨gb,qb,Fq,m⟩:=r.mem
 unfold stB
 rcases S.linked_cases g with e | ⟨i,x,rfl,h0,hi,hx⟩
 · rw [e];exact hstopped_none m e
 · rw [HS.linked,if_neg (by omega),S.at_nat hi,hx];exact hstopped_some m h0 hx
theorem linked_of_none {g:Int} (e:S.at_ g=none):S.linked g=none:=by
 unfold HS.linked
 split
 · rfl
 · exact e
set_option maxRecDepth 100000 in
set_option maxHeartbeats 64000000 in
theorem bsame_any (r0:RH w0 w p h S S X X K []) (H:HGood S) :
  Calls Tryz.prog 8 #[.pointer (some ⟨p,0,none⟩)] w fun r w'=>r=.returned (.bool true)∧Hid (RH w0 w' p h S S X X K []):=by
 obtain ⟨rn,hrn⟩:∃ rn,rn=runI 9 S:=⟨_,rfl⟩
 obtain ⟨fl,hfl⟩:∃ fl,fl=flagB S 32:=⟨_,rfl⟩
 have MW:Hid (∀ W,RH w0 W p h S S X X K []→Calls Tryz.prog 27 #[.agg (xcells X).toArray] W fun r w'=>∃ v,r=.returned (.tuple #[v,.int .i64 rn])∧Hid (RH w0 w' p h S S X X K [])):=Lib.hid fun W hW=>by
  refine (xway_any hW.at_ H (Below.refl _ _)).mono fun r w' hp=>?_
  obtain ⟨v,hr,hb,_⟩:=hp
  exact ⟨v,by rw [hrn];exact hr,Lib.hid (hW.below hb)⟩
 have MR:Hid (∀ W,RH w0 W p h S S X X K []→Calls Tryz.prog 14 #[.pointer (some ⟨h,0,none⟩)] W fun e w'=>e=.returned (.int .i64 rn)∧Hid (RH w0 w' p h S S X X K [])):=Lib.hid fun W hW=>by
  rw [hrn];exact hW.go (fun F a=>hrun_any a 9 H.cur0)
 have MF:Hid (∀ W,RH w0 W p h S S X X K []→Calls Tryz.prog 28 #[.pointer (some ⟨h,0,none⟩)] W fun e w'=>e=.returned (.bool fl)∧W=w'):=Lib.hid fun W hW=>by
  obtain ⟨gb,qb,Fq,m⟩:=hW.mem
  rw [hfl];exact hflag_any m
 have MX:Hid (∀ W,RH w0 W p h S S X X K []→Calls Tryz.prog 29 #[.agg (xcells X).toArray] W fun e w'=>e=.returned (.bool fl)∧Hid (RH w0 w' p h S S X X K [])):=Lib.hid fun W hW=>by
  rw [hfl]
  exact (xflag_any hW.at_ H.inv.tree).mono fun e w' hp=>⟨hp.1,Lib.hid (hW.below hp.2)⟩
 have MT:Hid (∀ g W,RH w0 W p h S S X X K []→Calls Tryz.prog 30 #[.agg (xcells X).toArray,.int .i64 g] W fun e w'=>e=.returned (.bool (S.at_ g).isSome)∧Hid (RH w0 w' p h S S X X K [])):=Lib.hid fun g W hW =>
  (xthere_any hW.at_ H.inv.tree g W).mono fun e w' hp=>⟨hp.1,Lib.hid (hW.below hp.2)⟩
 have HR0:=Lib.hid r0
 have HG0:=Lib.hid (And.intro H True.intro)
 have cp:=r0.ptr
 have HRG:=Lib.hid r0.range
 clear hrn hfl r0 H
 go_enter Tryz.func8,Tryz.ntmps8
 go_wp2_with (refine wpList_load_mid rfl 38 (.tmp 10) rfl p 1 rfl (xcells X) _ HRG.out Tryz.underlying38 rfl (xinf X) ?_)
 refine (MW.out _ HR0.out).mono ?_
 rintro r w1 ⟨v,rfl,HRA⟩
 clear cp HRG MW HR0
 go_wp2_with fail
 refine wp_region_held_drew (S:=fun W=>RH w0 W p h S S X X K []) (by kernel_rfl) (RH.below HRA.out (Below.refl _ _).drew) (fun hHeld=>?_)
 refine tk1 (i:=0) (d:=15) (v:=.pointer (some ⟨p,0,none⟩)) rfl hHeld ?_ ?_
 · (intro W _;go_simp)
 simp only [Act.put,List.setIfInBounds_toArray,List.set_cons_zero,List.set_cons_succ]
 refine tk1 (i:=1) (d:=16) (v:=.pointer (some ⟨p,0,none⟩)) rfl hHeld ?_ ?_
 · (intro W _;go_simp)
 simp only [Act.put,List.setIfInBounds_toArray,List.set_cons_zero,List.set_cons_succ]
 refine tk1 (i:=2) (d:=17) (v:=.pointer (some ⟨p,0,none⟩)) rfl hHeld ?_ ?_
 · (intro W _;go_simp)
 simp only [Act.put,List.setIfInBounds_toArray,List.set_cons_zero,List.set_cons_succ]
 refine tk1 (i:=3) (d:=18) (v:=.pointer (some ⟨h,0,none⟩)) rfl hHeld ?_ ?_
 · (intro W hSw;have kp:=RH.ptr hSw;clear hHeld hSw;go_simp)
 simp only [Act.put,List.setIfInBounds_toArray,List.set_cons_zero,List.set_cons_succ]
 refine tk1 (i:=5) (d:=20) (v:=.int .i64 rn) rfl hHeld ?_ ?_
 · (intro W _;go_simp)
 simp only [Act.put,List.setIfInBounds_toArray,List.set_cons_zero,List.set_cons_succ]
 refine wpAnyH_ready (rs:=[4]) (by kernel_rfl) (by simp) ?_
 refine AllReadyH.cons rfl (fun Kc hK=>?_) AllReadyH.nil
 have HK:=Lib.hid hK
 have HLD:=Lib.hid hHeld
 clear hK hHeld
 go_simp
 refine (MR.out _ HLD.out).mono ?_
 rintro r w9 ⟨rfl,H9⟩
 refine HK.out.out _ _ (H9.out) (fun hHeld=>?_)
 try simp only [Act.put,List.getElem_toArray,List.getElem_cons_succ,List.getElem_cons_zero,List.setIfInBounds_toArray,List.set_cons_zero,List.set_cons_succ]
 clear HK Kc
 clear H9 HLD
 refine tk1 (i:=6) (d:=21) (v:=.bool false) rfl hHeld ?_ ?_
 · (intro W _;go_simp)
 simp only [Act.put,List.setIfInBounds_toArray,List.set_cons_zero,List.set_cons_succ]
 refine tk1 (i:=7) (d:=22) (v:=.bool false) rfl hHeld ?_ ?_
 · (intro W _;go_simp)
 simp only [Act.put,List.setIfInBounds_toArray,List.set_cons_zero,List.set_cons_succ]
 refine tk1 (i:=8) (d:=23) (v:=.pointer (some ⟨p,0,none⟩)) rfl hHeld ?_ ?_
 · (intro W _;go_simp)
 simp only [Act.put,List.setIfInBounds_toArray,List.set_cons_zero,List.set_cons_succ]
 refine tk1 (i:=9) (d:=24) (v:=.pointer (some ⟨p,0,none⟩)) rfl hHeld ?_ ?_
 · (intro W _;go_simp)
 simp only [Act.put,List.setIfInBounds_toArray,List.set_cons_zero,List.set_cons_succ]
 refine tk1 (i:=10) (d:=25) (v:=.pointer (some ⟨p,0,none⟩)) rfl hHeld ?_ ?_
 · (intro W _;go_simp)
 simp only [Act.put,List.setIfInBounds_toArray,List.set_cons_zero,List.set_cons_succ]
 refine tk1 (i:=11) (d:=26) (v:=.pointer (some ⟨h,0,none⟩)) rfl hHeld ?_ ?_
 · (intro W hSw;have kp:=RH.ptr hSw;clear hHeld hSw;go_simp)
 simp only [Act.put,List.setIfInBounds_toArray,List.set_cons_zero,List.set_cons_succ]
 refine tk1 (i:=13) (d:=28) (v:=.pointer (some ⟨p,0,none⟩)) rfl hHeld ?_ ?_
 · (intro W _;go_simp)
 simp only [Act.put,List.setIfInBounds_toArray,List.set_cons_zero,List.set_cons_succ]
 refine tk1 (i:=14) (d:=29) (v:=.pointer (some ⟨p,0,none⟩)) rfl hHeld ?_ ?_
 · (intro W _;go_simp)
 simp only [Act.put,List.setIfInBounds_toArray,List.set_cons_zero,List.set_cons_succ]
 refine tk1 (i:=15) (d:=30) (v:=.pointer (some ⟨p,1,none⟩)) rfl hHeld ?_ ?_
 · (intro W _;go_simp)
 simp only [Act.put,List.setIfInBounds_toArray,List.set_cons_zero,List.set_cons_succ]
 refine wpAnyH_take (i:=16) (v:=.agg (xcells X).toArray) rfl (by kernel_rfl) (by kernel_rfl) (by kernel_rfl) (fun _ _ _ h=>h) (yieldsIf_load_mid (by rfl) _ _ rfl p 1 rfl (xcells X) _ (fun W h=>RH.range h) Tryz.underlying38 rfl (xinf X)) hHeld ?_
 try simp only [Act.put,List.getElem_toArray,List.getElem_cons_succ,List.getElem_cons_zero,List.setIfInBounds_toArray,List.set_cons_zero,List.set_cons_succ]
 refine wpAnyH_ready (rs:=[12]) (by kernel_rfl) (by simp) ?_
 refine AllReadyH.cons rfl (fun Kc hK=>?_) AllReadyH.nil
 have HK:=Lib.hid hK
 have HLD:=Lib.hid hHeld
 clear hK hHeld
 go_simp
 refine (MF.out _ HLD.out).mono ?_
 rintro r w9 ⟨rfl,rfl⟩
 refine HK.out.out _ _ (HLD.out) (fun hHeld=>?_)
 try simp only [Act.put,List.getElem_toArray,List.getElem_cons_succ,List.getElem_cons_zero,List.setIfInBounds_toArray,List.set_cons_zero,List.set_cons_succ]
 clear HK Kc
 clear HLD
 refine wpAnyH_ready (rs:=[17]) (by kernel_rfl) (by simp) ?_
 refine AllReadyH.cons rfl (fun Kc hK=>?_) AllReadyH.nil
 have HK:=Lib.hid hK
 have HLD:=Lib.hid hHeld
 clear hK hHeld
 go_simp
 refine (MX.out _ HLD.out).mono ?_
 rintro r w9 ⟨rfl,H9⟩
 refine HK.out.out _ _ (H9.out) (fun hHeld=>?_)
 try simp only [Act.put,List.getElem_toArray,List.getElem_cons_succ,List.getElem_cons_zero,List.setIfInBounds_toArray,List.set_cons_zero,List.set_cons_succ]
 clear HK Kc
 clear H9 HLD
 refine tk1 (i:=18) (d:=33) (v:=.bool false) rfl hHeld ?_ ?_
 · (intro W _;go_simp)
 simp only [Act.put,List.setIfInBounds_toArray,List.set_cons_zero,List.set_cons_succ]
 refine tk1 (i:=19) (d:=34) (v:=.bool false) rfl hHeld ?_ ?_
 · (intro W _;go_simp)
 simp only [Act.put,List.setIfInBounds_toArray,List.set_cons_zero,List.set_cons_succ]
 refine wpAnyH_done (by kernel_rfl) ?_ _
 have HRB:=Lib.hid hHeld
 clear hHeld
 clear HRA MR MF MX
 go_wp2_with fail
 go_loopw [5] (fun s5 wr=>∃ g:Int,-1≤g∧g≤33∧s5=.int .i64 g∧Hid (RH w0 wr p h S S X X K [])) (fun s5 _=>(33 - intOf s5).toNat)
 case atStart=>exact ⟨-1,by omega,by omega,rfl,HRB⟩
 case round =>
  obtain ⟨g,hg0,hg1,rfl,HRC⟩:=hrel
  clear HRB
  by_cases hlt:g<33
  ·
   have z1:decide (g<33)=true:=decide_eq_true hlt
   have HLT:=Lib.hid hlt
   have HRG:=Lib.hid HRC.out.range
   have cp:=HRC.out.ptr
   rcases S.at_cases g with e | ⟨i,x,rfl,hi,hx,hat⟩
   ·
    have MTT:=MT.out g
    rw [e] at MTT
    have MTH:=Lib.hid MTT
    clear MTT
    obtain ⟨on,hon⟩:∃ on,onB S g=on:=⟨_,rfl⟩
    obtain ⟨st,hst⟩:∃ st,stB S g=st:=⟨_,rfl⟩
    have hln:=linked_of_none e
    have hon0:on=false:=by rw [← hon];unfold onB;rw [hln]
    have hst0:st=false:=by rw [← hst];unfold stB;rw [hln]
    have hlk:(S.linked g).isSome=false:=by rw [hln];rfl
    subst hon0 hst0
    have MO:Hid (∀ W,RH w0 W p h S S X X K []→Calls Tryz.prog 13 #[.pointer (some ⟨h,0,none⟩),.int .i64 g] W fun e w'=>e=.returned (.bool false)∧W=w'):=Lib.hid fun W hW=>by
     have:=both_on hW g
     rw [hon] at this
     exact this
    have MP:Hid (∀ W,RH w0 W p h S S X X K []→Calls Tryz.prog 31 #[.agg (xcells X).toArray,.int .i64 g] W fun e w'=>e=.returned (.bool false)∧Hid (RH w0 w' p h S S X X K [])):=Lib.hid fun W hW=>by
     have:=both_xon hW HG0.out.1 g
     rw [hon] at this
     exact this
    have MS:Hid (∀ W,RH w0 W p h S S X X K []→Calls Tryz.prog 32 #[.pointer (some ⟨h,0,none⟩),.int .i64 g] W fun e w'=>e=.returned (.bool false)∧W=w'):=Lib.hid fun W hW=>by
     have:=both_st hW g
     rw [hst] at this
     exact this
    have ML:Hid (∀ W,RH w0 W p h S S X X K []→Calls Tryz.prog 33 #[.agg (xcells X).toArray,.int .i64 g] W fun e w'=>e=.returned (.bool false)∧Hid (RH w0 w' p h S S X X K [])):=Lib.hid fun W hW=>by
     have:=xlinked_any hW.at_ HG0.out.1.inv.tree g W
     rw [hlk] at this
     exact this.mono fun e w' hp=>⟨hp.1,Lib.hid (hW.below hp.2)⟩
    have MQ0:Hid (∀ W,RH w0 W p h S S X X K []→Calls Tryz.prog 34 #[.pointer (some ⟨h,0,none⟩),.int .i64 g] W fun r w'=>r=.returned (.slice none 0 0)∧W=w'):=Lib.hid fun W hW=>by
     obtain ⟨gb,qb,Fq,m⟩:=hW.mem
     exact hqueue_none m e
    have MM0:Hid (∀ W,RH w0 W p h S S X X K []→Calls Tryz.prog 35 #[.pointer (some ⟨h,0,none⟩),.int .i64 g] W fun r w'=>r=.returned (.int .i64 0)∧W=w'):=Lib.hid fun W hW=>by
     obtain ⟨gb,qb,Fq,m⟩:=hW.mem
     exact hmin_none m e
    have ML0:Hid (∀ W,RH w0 W p h S S X X K []→Calls Tryz.prog 36 #[.pointer (some ⟨h,0,none⟩),.int .i64 g] W fun r w'=>r=.returned (.int .u64 0)∧W=w'):=Lib.hid fun W hW=>by
     obtain ⟨gb,qb,Fq,m⟩:=hW.mem
     exact hload_none m e
    clear e hlt hln hlk hon hst MT
    go_wp2_with (refine wpList_load_mid rfl 38 (.tmp 41) rfl p 1 rfl (xcells X) _ HRG.out Tryz.underlying38 rfl (xinf X) ?_)
    refine (MTH.out _ HRC.out).mono ?_
    rintro r w1 ⟨rfl,HRD⟩
    clear MTH HRG cp
    go_wp2_with fail
    refine wp_region_held_drew (S:=fun W=>RH w0 W p h S S X X K []) (by kernel_rfl) (RH.below HRD.out (Below.refl _ _).drew) (fun hHeld=>?_)
    refine tk1 (i:=0) (d:=45) (v:=.pointer (some ⟨p,0,none⟩)) rfl hHeld ?_ ?_
    · (intro W _;go_simp)
    simp only [Act.put,List.setIfInBounds_toArray,List.set_cons_zero,List.set_cons_succ]
    refine tk1 (i:=1) (d:=46) (v:=.pointer (some ⟨p,0,none⟩)) rfl hHeld ?_ ?_
    · (intro W _;go_simp)
    simp only [Act.put,List.setIfInBounds_toArray,List.set_cons_zero,List.set_cons_succ]
    refine tk1 (i:=2) (d:=47) (v:=.pointer (some ⟨p,0,none⟩)) rfl hHeld ?_ ?_
    · (intro W _;go_simp)
    simp only [Act.put,List.setIfInBounds_toArray,List.set_cons_zero,List.set_cons_succ]
    refine tk1 (i:=3) (d:=48) (v:=.pointer (some ⟨h,0,none⟩)) rfl hHeld ?_ ?_
    · (intro W hSw;have kp:=RH.ptr hSw;clear hHeld hSw;go_simp)
    simp only [Act.put,List.setIfInBounds_toArray,List.set_cons_zero,List.set_cons_succ]
    refine tk1 (i:=4) (d:=49) (v:=.int .i64 g) rfl hHeld ?_ ?_
    · (intro W _;go_simp)
    simp only [Act.put,List.setIfInBounds_toArray,List.set_cons_zero,List.set_cons_succ]
    refine tk1 (i:=6) (d:=51) (v:=.pointer (some ⟨p,0,none⟩)) rfl hHeld ?_ ?_
    · (intro W _;go_simp)
    simp only [Act.put,List.setIfInBounds_toArray,List.set_cons_zero,List.set_cons_succ]
    refine tk1 (i:=7) (d:=52) (v:=.pointer (some ⟨p,0,none⟩)) rfl hHeld ?_ ?_
    · (intro W _;go_simp)
    simp only [Act.put,List.setIfInBounds_toArray,List.set_cons_zero,List.set_cons_succ]
    refine tk1 (i:=8) (d:=53) (v:=.pointer (some ⟨p,1,none⟩)) rfl hHeld ?_ ?_
    · (intro W _;go_simp)
    simp only [Act.put,List.setIfInBounds_toArray,List.set_cons_zero,List.set_cons_succ]
    refine wpAnyH_take (i:=9) (v:=.agg (xcells X).toArray) rfl (by kernel_rfl) (by kernel_rfl) (by kernel_rfl) (fun _ _ _ h=>h) (yieldsIf_load_mid (by rfl) _ _ rfl p 1 rfl (xcells X) _ (fun W h=>RH.range h) Tryz.underlying38 rfl (xinf X)) hHeld ?_
    try simp only [Act.put,List.getElem_toArray,List.getElem_cons_succ,List.getElem_cons_zero,List.setIfInBounds_toArray,List.set_cons_zero,List.set_cons_succ]
    refine tk1 (i:=10) (d:=55) (v:=.int .i64 g) rfl hHeld ?_ ?_
    · (intro W _;go_simp)
    simp only [Act.put,List.setIfInBounds_toArray,List.set_cons_zero,List.set_cons_succ]
    refine wpAnyH_ready (rs:=[5]) (by kernel_rfl) (by simp) ?_
    refine AllReadyH.cons rfl (fun Kc hK=>?_) AllReadyH.nil
    have HK:=Lib.hid hK
    have HLD:=Lib.hid hHeld
    clear hK hHeld
    go_simp
    refine (MO.out _ HLD.out).mono ?_
    rintro r w9 ⟨rfl,rfl⟩
    refine HK.out.out _ _ (HLD.out) (fun hHeld=>?_)
    try simp only [Act.put,List.getElem_toArray,List.getElem_cons_succ,List.getElem_cons_zero,List.setIfInBounds_toArray,List.set_cons_zero,List.set_cons_succ]
    clear HK Kc
    clear HLD
    refine wpAnyH_ready (rs:=[11]) (by kernel_rfl) (by simp) ?_
    refine AllReadyH.cons rfl (fun Kc hK=>?_) AllReadyH.nil
    have HK:=Lib.hid hK
    have HLD:=Lib.hid hHeld
    clear hK hHeld
    go_simp
    refine (MP.out _ HLD.out).mono ?_
    rintro r w9 ⟨rfl,H9⟩
    refine HK.out.out _ _ (H9.out) (fun hHeld=>?_)
    try simp only [Act.put,List.getElem_toArray,List.getElem_cons_succ,List.getElem_cons_zero,List.setIfInBounds_toArray,List.set_cons_zero,List.set_cons_succ]
    clear HK Kc
    clear H9 HLD
    refine tk1 (i:=12) (d:=57) (v:=.bool false) rfl hHeld ?_ ?_
    · (intro W _;go_simp)
    simp only [Act.put,List.setIfInBounds_toArray,List.set_cons_zero,List.set_cons_succ]
    refine tk1 (i:=13) (d:=58) (v:=.bool false) rfl hHeld ?_ ?_
    · (intro W _;go_simp)
    simp only [Act.put,List.setIfInBounds_toArray,List.set_cons_zero,List.set_cons_succ]
    refine tk1 (i:=14) (d:=59) (v:=.pointer (some ⟨p,0,none⟩)) rfl hHeld ?_ ?_
    · (intro W _;go_simp)
    simp only [Act.put,List.setIfInBounds_toArray,List.set_cons_zero,List.set_cons_succ]
    refine tk1 (i:=15) (d:=60) (v:=.pointer (some ⟨p,0,none⟩)) rfl hHeld ?_ ?_
    · (intro W _;go_simp)
    simp only [Act.put,List.setIfInBounds_toArray,List.set_cons_zero,List.set_cons_succ]
    refine tk1 (i:=16) (d:=61) (v:=.pointer (some ⟨p,0,none⟩)) rfl hHeld ?_ ?_
    · (intro W _;go_simp)
    simp only [Act.put,List.setIfInBounds_toArray,List.set_cons_zero,List.set_cons_succ]
    refine tk1 (i:=17) (d:=62) (v:=.pointer (some ⟨h,0,none⟩)) rfl hHeld ?_ ?_
    · (intro W hSw;have kp:=RH.ptr hSw;clear hHeld hSw;go_simp)
    simp only [Act.put,List.setIfInBounds_toArray,List.set_cons_zero,List.set_cons_succ]
    refine tk1 (i:=18) (d:=63) (v:=.int .i64 g) rfl hHeld ?_ ?_
    · (intro W _;go_simp)
    simp only [Act.put,List.setIfInBounds_toArray,List.set_cons_zero,List.set_cons_succ]
    refine tk1 (i:=20) (d:=65) (v:=.pointer (some ⟨p,0,none⟩)) rfl hHeld ?_ ?_
    · (intro W _;go_simp)
    simp only [Act.put,List.setIfInBounds_toArray,List.set_cons_zero,List.set_cons_succ]
    refine tk1 (i:=21) (d:=66) (v:=.pointer (some ⟨p,0,none⟩)) rfl hHeld ?_ ?_
    · (intro W _;go_simp)
    simp only [Act.put,List.setIfInBounds_toArray,List.set_cons_zero,List.set_cons_succ]
    refine tk1 (i:=22) (d:=67) (v:=.pointer (some ⟨p,1,none⟩)) rfl hHeld ?_ ?_
    · (intro W _;go_simp)
    simp only [Act.put,List.setIfInBounds_toArray,List.set_cons_zero,List.set_cons_succ]
    refine wpAnyH_take (i:=23) (v:=.agg (xcells X).toArray) rfl (by kernel_rfl) (by kernel_rfl) (by kernel_rfl) (fun _ _ _ h=>h) (yieldsIf_load_mid (by rfl) _ _ rfl p 1 rfl (xcells X) _ (fun W h=>RH.range h) Tryz.underlying38 rfl (xinf X)) hHeld ?_
    try simp only [Act.put,List.getElem_toArray,List.getElem_cons_succ,List.getElem_cons_zero,List.setIfInBounds_toArray,List.set_cons_zero,List.set_cons_succ]
    refine tk1 (i:=24) (d:=69) (v:=.int .i64 g) rfl hHeld ?_ ?_
    · (intro W _;go_simp)
    simp only [Act.put,List.setIfInBounds_toArray,List.set_cons_zero,List.set_cons_succ]
    refine wpAnyH_ready (rs:=[19]) (by kernel_rfl) (by simp) ?_
    refine AllReadyH.cons rfl (fun Kc hK=>?_) AllReadyH.nil
    have HK:=Lib.hid hK
    have HLD:=Lib.hid hHeld
    clear hK hHeld
    go_simp
    refine (MS.out _ HLD.out).mono ?_
    rintro r w9 ⟨rfl,rfl⟩
    refine HK.out.out _ _ (HLD.out) (fun hHeld=>?_)
    try simp only [Act.put,List.getElem_toArray,List.getElem_cons_succ,List.getElem_cons_zero,List.setIfInBounds_toArray,List.set_cons_zero,List.set_cons_succ]
    clear HK Kc
    clear HLD
    refine wpAnyH_ready (rs:=[25]) (by kernel_rfl) (by simp) ?_
    refine AllReadyH.cons rfl (fun Kc hK=>?_) AllReadyH.nil
    have HK:=Lib.hid hK
    have HLD:=Lib.hid hHeld
    clear hK hHeld
    go_simp
    refine (ML.out _ HLD.out).mono ?_
    rintro r w9 ⟨rfl,H9⟩
    refine HK.out.out _ _ (H9.out) (fun hHeld=>?_)
    try simp only [Act.put,List.getElem_toArray,List.getElem_cons_succ,List.getElem_cons_zero,List.setIfInBounds_toArray,List.set_cons_zero,List.set_cons_succ]
    clear HK Kc
    clear H9 HLD
    refine tk1 (i:=26) (d:=71) (v:=.bool false) rfl hHeld ?_ ?_
    · (intro W _;go_simp)
    simp only [Act.put,List.setIfInBounds_toArray,List.set_cons_zero,List.set_cons_succ]
    refine tk0 (i:=27) (d:=72) rfl hHeld ?_
    simp only [Act.put,List.setIfInBounds_toArray,List.set_cons_zero,List.set_cons_succ]
    refine tk0 (i:=28) (d:=73) rfl hHeld ?_
    simp only [Act.put,List.setIfInBounds_toArray,List.set_cons_zero,List.set_cons_succ]
    refine tk0 (i:=29) (d:=74) rfl hHeld ?_
    simp only [Act.put,List.setIfInBounds_toArray,List.set_cons_zero,List.set_cons_succ]
    refine tk0 (i:=30) (d:=75) rfl hHeld ?_
    simp only [Act.put,List.setIfInBounds_toArray,List.set_cons_zero,List.set_cons_succ]
    refine tk0 (i:=31) (d:=76) rfl hHeld ?_
    simp only [Act.put,List.setIfInBounds_toArray,List.set_cons_zero,List.set_cons_succ]
    refine tk0 (i:=32) (d:=77) rfl hHeld ?_
    simp only [Act.put,List.setIfInBounds_toArray,List.set_cons_zero,List.set_cons_succ]
    refine tk0 (i:=33) (d:=78) rfl hHeld ?_
    simp only [Act.put,List.setIfInBounds_toArray,List.set_cons_zero,List.set_cons_succ]
    refine tk1 (i:=34) (d:=79) (v:=.bool false) rfl hHeld ?_ ?_
    · (intro W _;go_simp)
    simp only [Act.put,List.setIfInBounds_toArray,List.set_cons_zero,List.set_cons_succ]
    refine tk1 (i:=35) (d:=80) (v:=.bool false) rfl hHeld ?_ ?_
    · (intro W _;go_simp)
    simp only [Act.put,List.setIfInBounds_toArray,List.set_cons_zero,List.set_cons_succ]
    refine tk1 (i:=36) (d:=81) (v:=.bool false) rfl hHeld ?_ ?_
    · (intro W _;go_simp)
    simp only [Act.put,List.setIfInBounds_toArray,List.set_cons_zero,List.set_cons_succ]
    refine wpAnyH_done (by kernel_rfl) ?_ _
    have HRE:=Lib.hid hHeld
    clear hHeld
    clear HRD MO MP MS ML
    have cp:=HRE.out.ptr
    go_wp2_with fail
    refine (MQ0.out _ HRE.out).mono ?_
    rintro r w2 ⟨rfl,rfl⟩
    go_wp2_with fail
    refine (MM0.out _ HRE.out).mono ?_
    rintro r w2 ⟨rfl,rfl⟩
    go_wp2_with fail
    refine (ML0.out _ HRE.out).mono ?_
    rintro r w2 ⟨rfl,rfl⟩
    clear MQ0 MM0 ML0 cp
    go_wp2_with fail
    refine wp_region_held_drew (S:=fun W=>RH w0 W p h S S X X K []) (by kernel_rfl) (RH.below HRE.out (Below.refl _ _).drew) (fun hHeld=>?_)
    refine tk1 (i:=0) (d:=112) (v:=.bool false) rfl hHeld ?_ ?_
    · (intro W _;go_simp)
    simp only [Act.put,List.setIfInBounds_toArray,List.set_cons_zero,List.set_cons_succ]
    refine tk1 (i:=1) (d:=113) (v:=.bool false) rfl hHeld ?_ ?_
    · (intro W _;go_simp)
    simp only [Act.put,List.setIfInBounds_toArray,List.set_cons_zero,List.set_cons_succ]
    refine tk0 (i:=2) (d:=114) rfl hHeld ?_
    simp only [Act.put,List.setIfInBounds_toArray,List.set_cons_zero,List.set_cons_succ]
    refine tk0 (i:=3) (d:=115) rfl hHeld ?_
    simp only [Act.put,List.setIfInBounds_toArray,List.set_cons_zero,List.set_cons_succ]
    refine tk0 (i:=4) (d:=116) rfl hHeld ?_
    simp only [Act.put,List.setIfInBounds_toArray,List.set_cons_zero,List.set_cons_succ]
    refine tk0 (i:=5) (d:=117) rfl hHeld ?_
    simp only [Act.put,List.setIfInBounds_toArray,List.set_cons_zero,List.set_cons_succ]
    refine tk0 (i:=6) (d:=118) rfl hHeld ?_
    simp only [Act.put,List.setIfInBounds_toArray,List.set_cons_zero,List.set_cons_succ]
    refine tk0 (i:=7) (d:=119) rfl hHeld ?_
    simp only [Act.put,List.setIfInBounds_toArray,List.set_cons_zero,List.set_cons_succ]
    refine tk0 (i:=8) (d:=120) rfl hHeld ?_
    simp only [Act.put,List.setIfInBounds_toArray,List.set_cons_zero,List.set_cons_succ]
    refine tk0 (i:=9) (d:=121) rfl hHeld ?_
    simp only [Act.put,List.setIfInBounds_toArray,List.set_cons_zero,List.set_cons_succ]
    refine tk0 (i:=10) (d:=122) rfl hHeld ?_
    simp only [Act.put,List.setIfInBounds_toArray,List.set_cons_zero,List.set_cons_succ]
    refine tk0 (i:=11) (d:=123) rfl hHeld ?_
    simp only [Act.put,List.setIfInBounds_toArray,List.set_cons_zero,List.set_cons_succ]
    refine tk0 (i:=12) (d:=124) rfl hHeld ?_
    simp only [Act.put,List.setIfInBounds_toArray,List.set_cons_zero,List.set_cons_succ]
    refine tk0 (i:=13) (d:=125) rfl hHeld ?_
    simp only [Act.put,List.setIfInBounds_toArray,List.set_cons_zero,List.set_cons_succ]
    refine tk0 (i:=14) (d:=126) rfl hHeld ?_
    simp only [Act.put,List.setIfInBounds_toArray,List.set_cons_zero,List.set_cons_succ]
    refine tk0 (i:=15) (d:=127) rfl hHeld ?_
    simp only [Act.put,List.setIfInBounds_toArray,List.set_cons_zero,List.set_cons_succ]
    refine tk0 (i:=16) (d:=128) rfl hHeld ?_
    simp only [Act.put,List.setIfInBounds_toArray,List.set_cons_zero,List.set_cons_succ]
    refine tk0 (i:=17) (d:=129) rfl hHeld ?_
    simp only [Act.put,List.setIfInBounds_toArray,List.set_cons_zero,List.set_cons_succ]
    refine tk0 (i:=18) (d:=130) rfl hHeld ?_
    simp only [Act.put,List.setIfInBounds_toArray,List.set_cons_zero,List.set_cons_succ]
    refine tk0 (i:=19) (d:=131) rfl hHeld ?_
    simp only [Act.put,List.setIfInBounds_toArray,List.set_cons_zero,List.set_cons_succ]
    refine tk0 (i:=20) (d:=132) rfl hHeld ?_
    simp only [Act.put,List.setIfInBounds_toArray,List.set_cons_zero,List.set_cons_succ]
    refine tk0 (i:=21) (d:=133) rfl hHeld ?_
    simp only [Act.put,List.setIfInBounds_toArray,List.set_cons_zero,List.set_cons_succ]
    refine tk0 (i:=22) (d:=134) rfl hHeld ?_
    simp only [Act.put,List.setIfInBounds_toArray,List.set_cons_zero,List.set_cons_succ]
    refine tk0 (i:=23) (d:=135) rfl hHeld ?_
    simp only [Act.put,List.setIfInBounds_toArray,List.set_cons_zero,List.set_cons_succ]
    refine tk0 (i:=24) (d:=136) rfl hHeld ?_
    simp only [Act.put,List.setIfInBounds_toArray,List.set_cons_zero,List.set_cons_succ]
    refine tk0 (i:=25) (d:=137) rfl hHeld ?_
    simp only [Act.put,List.setIfInBounds_toArray,List.set_cons_zero,List.set_cons_succ]
    refine tk0 (i:=26) (d:=138) rfl hHeld ?_
    simp only [Act.put,List.setIfInBounds_toArray,List.set_cons_zero,List.set_cons_succ]
    refine tk0 (i:=27) (d:=139) rfl hHeld ?_
    simp only [Act.put,List.setIfInBounds_toArray,List.set_cons_zero,List.set_cons_succ]
    refine tk0 (i:=28) (d:=140) rfl hHeld ?_
    simp only [Act.put,List.setIfInBounds_toArray,List.set_cons_zero,List.set_cons_succ]
    refine tk0 (i:=29) (d:=141) rfl hHeld ?_
    simp only [Act.put,List.setIfInBounds_toArray,List.set_cons_zero,List.set_cons_succ]
    refine tk0 (i:=30) (d:=142) rfl hHeld ?_
    simp only [Act.put,List.setIfInBounds_toArray,List.set_cons_zero,List.set_cons_succ]
    refine tk0 (i:=31) (d:=143) rfl hHeld ?_
    simp only [Act.put,List.setIfInBounds_toArray,List.set_cons_zero,List.set_cons_succ]
    refine tk0 (i:=32) (d:=144) rfl hHeld ?_
    simp only [Act.put,List.setIfInBounds_toArray,List.set_cons_zero,List.set_cons_succ]
    refine tk0 (i:=33) (d:=145) rfl hHeld ?_
    simp only [Act.put,List.setIfInBounds_toArray,List.set_cons_zero,List.set_cons_succ]
    refine tk0 (i:=34) (d:=146) rfl hHeld ?_
    simp only [Act.put,List.setIfInBounds_toArray,List.set_cons_zero,List.set_cons_succ]
    refine tk0 (i:=35) (d:=147) rfl hHeld ?_
    simp only [Act.put,List.setIfInBounds_toArray,List.set_cons_zero,List.set_cons_succ]
    refine tk0 (i:=36) (d:=148) rfl hHeld ?_
    simp only [Act.put,List.setIfInBounds_toArray,List.set_cons_zero,List.set_cons_succ]
    refine tk0 (i:=37) (d:=149) rfl hHeld ?_
    simp only [Act.put,List.setIfInBounds_toArray,List.set_cons_zero,List.set_cons_succ]
    refine tk0 (i:=38) (d:=150) rfl hHeld ?_
    simp only [Act.put,List.setIfInBounds_toArray,List.set_cons_zero,List.set_cons_succ]
    refine tk0 (i:=39) (d:=151) rfl hHeld ?_
    simp only [Act.put,List.setIfInBounds_toArray,List.set_cons_zero,List.set_cons_succ]
    refine tk0 (i:=40) (d:=152) rfl hHeld ?_
    simp only [Act.put,List.setIfInBounds_toArray,List.set_cons_zero,List.set_cons_succ]
    refine tk0 (i:=41) (d:=153) rfl hHeld ?_
    simp only [Act.put,List.setIfInBounds_toArray,List.set_cons_zero,List.set_cons_succ]
    refine tk0 (i:=42) (d:=154) rfl hHeld ?_
    simp only [Act.put,List.setIfInBounds_toArray,List.set_cons_zero,List.set_cons_succ]
    refine tk0 (i:=43) (d:=155) rfl hHeld ?_
    simp only [Act.put,List.setIfInBounds_toArray,List.set_cons_zero,List.set_cons_succ]
    refine tk0 (i:=44) (d:=156) rfl hHeld ?_
    simp only [Act.put,List.setIfInBounds_toArray,List.set_cons_zero,List.set_cons_succ]
    refine tk0 (i:=45) (d:=157) rfl hHeld ?_
    simp only [Act.put,List.setIfInBounds_toArray,List.set_cons_zero,List.set_cons_succ]
    refine tk0 (i:=46) (d:=158) rfl hHeld ?_
    simp only [Act.put,List.setIfInBounds_toArray,List.set_cons_zero,List.set_cons_succ]
    refine tk0 (i:=47) (d:=159) rfl hHeld ?_
    simp only [Act.put,List.setIfInBounds_toArray,List.set_cons_zero,List.set_cons_succ]
    refine tk0 (i:=48) (d:=160) rfl hHeld ?_
    simp only [Act.put,List.setIfInBounds_toArray,List.set_cons_zero,List.set_cons_succ]
    refine tk0 (i:=49) (d:=161) rfl hHeld ?_
    simp only [Act.put,List.setIfInBounds_toArray,List.set_cons_zero,List.set_cons_succ]
    refine tk0 (i:=50) (d:=162) rfl hHeld ?_
    simp only [Act.put,List.setIfInBounds_toArray,List.set_cons_zero,List.set_cons_succ]
    refine tk0 (i:=51) (d:=163) rfl hHeld ?_
    simp only [Act.put,List.setIfInBounds_toArray,List.set_cons_zero,List.set_cons_succ]
    refine tk1 (i:=52) (d:=164) (v:=.bool false) rfl hHeld ?_ ?_
    · (intro W _;go_simp)
    simp only [Act.put,List.setIfInBounds_toArray,List.set_cons_zero,List.set_cons_succ]
    refine wpAnyH_done (by kernel_rfl) ?_ _
    have HRF:=Lib.hid hHeld
    clear hHeld
    clear HRE
    go_wp2_with fail
    go_roundw
    case rel=>exact ⟨g+1,by omega,by have:=HLT.out;omega,by go_num,HRF⟩
    case measure=>simp [intOf];have:=HLT.out;omega
   ·
    have MTT:=MT.out (i:Int)
    rw [hat] at MTT
    have MTH:=Lib.hid MTT
    clear MTT hat MT
    have j0:(0:Int)≤(i:Int):=by omega
    have j1:(i:Int)<32:=by omega
    have j2:decide (i<32)=true:=decide_eq_true hi
    have j3:decide ((i:Int)<32)=true:=decide_eq_true j1
    have hok:=HG0.out.1.inv.qok i x hx
    have hxq:=(HRC.out.at_.is i x hx).2.1
    have HOK:=Lib.hid hok
    obtain ⟨A,hA⟩:∃ A,A=(X.g i).A:=⟨_,rfl⟩
    obtain ⟨c,hc⟩:∃ c,c=(X.g i).c:=⟨_,rfl⟩
    obtain ⟨n,hn⟩:∃ n,n=x.q.L.length:=⟨_,rfl⟩
    obtain ⟨cu,hcu⟩:∃ cu,cu=x.q.cur:=⟨_,rfl⟩
    obtain ⟨mn,hmn⟩:∃ mn,mn=x.q.mn:=⟨_,rfl⟩
    obtain ⟨ov,hov⟩:∃ ov,ov=x.q.over:=⟨_,rfl⟩
    obtain ⟨ld,hld⟩:∃ ld,ld=loadL x.q.L:=⟨_,rfl⟩
    obtain ⟨ne,hne⟩:∃ ne,ne=x.q.ents.length:=⟨_,rfl⟩
    have HQC:Hid (∀ W,RH w0 W p h S S X X K []→W.cell? ⟨p,3+i*4,none⟩=some (.slice A n c)∧W.cell? ⟨p,3+i*4+1,none⟩=some (.int .i64 cu)∧W.cell? ⟨p,3+i*4+2,none⟩=some (.int .i64 mn)∧W.cell? ⟨p,3+i*4+3,none⟩=some (.bool ov)):=Lib.hid fun W hW=>by
     have:=hW.qc hi
     rw [hxq,← hA,← hc,← hn,← hcu,← hmn,← hov] at this
     exact this
    have ME:Hid (∀ W,RH w0 W p h S S X X K []→Calls Tryz.prog 34 #[.pointer (some ⟨h,0,none⟩),.int .i64 (i:Int)] W fun r w'=>∃ A5 c5,r=.returned (.slice A5 ne c5)∧Hid (RowE w' w'.heap.size A5 x.q.ents∧Below W.heap.size W w'∧RH w0 w' p h S S X X K [])):=Lib.hid fun W hW=>by
     obtain ⟨gb,qb,Fq,m⟩:=hW.mem
     refine (hqueue_some m hx).mono fun r w' hp=>?_
     obtain ⟨v,hr,hO⟩:=hp
     obtain ⟨A5,c5,rfl,hrow,_⟩:=own_ents hO.out.1
     rw [hne]
     exact ⟨A5,c5,hr,hrow,hO.out.2,hW.below hO.out.2⟩
    have MN:Hid (∀ W,RH w0 W p h S S X X K []→Calls Tryz.prog 38 #[rqV A n c cu mn ov] W fun r w'=>∃ A6 c6,r=.returned (.slice A6 ne c6)∧Hid (RowE w' w'.heap.size A6 x.q.ents∧Below W.heap.size W w'∧RH w0 w' p h S S X X K [])):=Lib.hid fun W hW=>by
     have hrow:=hW.at_.row i hi
     rw [hxq,← hA,← hc] at hrow
     have:=rents_any A c x.q HOK.out W hrow
     rw [← hn,← hcu,← hmn,← hov,← hne] at this
     refine this.mono fun r w' hp=>?_
     obtain ⟨A6,c6,hr,hO⟩:=hp
     exact ⟨A6,c6,hr,hO.out.1,hO.out.2,hW.below hO.out.2⟩
    have MSA:Hid (∀ (W:World) (A5 A6:Option Addr) (c5 c6:Nat),RowE W W.heap.size A5 x.q.ents→RowE W W.heap.size A6 x.q.ents→Calls Tryz.prog 37 #[.slice A5 ne c5,.slice A6 ne c6] W fun r w'=>r=.returned (.bool true)∧Below W.heap.size W w'):=Lib.hid fun W A5 A6 c5 c6 h5 h6=>by
     rw [hne]
     exact rsame_any A5 A6 x.q.ents c5 c6 W h5 h6 (by have e:x.q.ents.length=(ksOf x.q.L).length:=List.length_map ..;rw [e];have:=ksOf_len x.q.L;have:=HOK.out.len;omega)
    have MM:Hid (∀ W,RH w0 W p h S S X X K []→Calls Tryz.prog 35 #[.pointer (some ⟨h,0,none⟩),.int .i64 (i:Int)] W fun e w'=>e=.returned (.int .i64 mn)∧W=w'):=Lib.hid fun W hW=>by
     obtain ⟨gb,qb,Fq,m⟩:=hW.mem
     rw [hmn];exact hmin_some m hx
    have MD:Hid (∀ W,RH w0 W p h S S X X K []→Calls Tryz.prog 36 #[.pointer (some ⟨h,0,none⟩),.int .i64 (i:Int)] W fun e w'=>e=.returned (.int .u64 (ld:Nat))∧W=w'):=Lib.hid fun W hW=>by
     obtain ⟨gb,qb,Fq,m⟩:=hW.mem
     rw [hld];exact hload_some m hx
    have MY:Hid (∀ W,RH w0 W p h S S X X K []→Calls Tryz.prog 39 #[rqV A n c cu mn ov] W fun e w'=>e=.returned (.int .u64 (ld:Nat))∧Hid (RH w0 w' p h S S X X K [])):=Lib.hid fun W hW=>by
     have hrow:=hW.at_.row i hi
     rw [hxq,← hA,← hc] at hrow
     have:=rload_any A c x.q.L x.q.cur x.q.mn x.q.over HOK.out.ents W hrow.1 (by have:=HOK.out.len;omega)
     rw [← hn,← hcu,← hmn,← hov,← hld] at this
     exact this.mono fun e w' hp=>⟨hp.1,Lib.hid (hW.below hp.2)⟩
    have HHALT:Hid (∀ W,RH w0 W p h S S X X K []→i≠0→W.cell? ⟨p,291+i,none⟩=some (.bool x.stopped)):=Lib.hid fun W hW h0=>by
     rw [hW.hcell hi,(hW.at_.is i x hx).2.2.1 h0]
    clear hA hc hn hcu hmn hov hld hne hok hxq HOK
    by_cases h0:i=0
    ·
     obtain ⟨on,hon⟩:∃ on,onB S (i:Int)=on:=⟨_,rfl⟩
     obtain ⟨st,hst⟩:∃ st,stB S (i:Int)=st:=⟨_,rfl⟩
     have hln:S.linked (i:Int)=none:=by rw [h0];exact if_pos rfl
     have hon0:on=false:=by rw [← hon];unfold onB;rw [hln]
     have hst0:st=false:=by rw [← hst];unfold stB;rw [hln]
     have hlk:(S.linked (i:Int)).isSome=false:=by rw [hln];rfl
     subst hon0 hst0
     have MO:Hid (∀ W,RH w0 W p h S S X X K []→Calls Tryz.prog 13 #[.pointer (some ⟨h,0,none⟩),.int .i64 (i:Int)] W fun e w'=>e=.returned (.bool false)∧W=w'):=Lib.hid fun W hW=>by
      have:=both_on hW (i:Int)
      rw [hon] at this
      exact this
     have MP:Hid (∀ W,RH w0 W p h S S X X K []→Calls Tryz.prog 31 #[.agg (xcells X).toArray,.int .i64 (i:Int)] W fun e w'=>e=.returned (.bool false)∧Hid (RH w0 w' p h S S X X K [])):=Lib.hid fun W hW=>by
      have:=both_xon hW HG0.out.1 (i:Int)
      rw [hon] at this
      exact this
     have MS:Hid (∀ W,RH w0 W p h S S X X K []→Calls Tryz.prog 32 #[.pointer (some ⟨h,0,none⟩),.int .i64 (i:Int)] W fun e w'=>e=.returned (.bool false)∧W=w'):=Lib.hid fun W hW=>by
      have:=both_st hW (i:Int)
      rw [hst] at this
      exact this
     have ML:Hid (∀ W,RH w0 W p h S S X X K []→Calls Tryz.prog 33 #[.agg (xcells X).toArray,.int .i64 (i:Int)] W fun e w'=>e=.returned (.bool false)∧Hid (RH w0 w' p h S S X X K [])):=Lib.hid fun W hW=>by
      have:=xlinked_any hW.at_ HG0.out.1.inv.tree (i:Int) W
      rw [hlk] at this
      exact this.mono fun e w' hp=>⟨hp.1,Lib.hid (hW.below hp.2)⟩
     clear hlt hln hlk hon hst hx h0
     go_wp2_with (refine wpList_load_mid rfl 38 (.tmp 41) rfl p 1 rfl (xcells X) _ HRG.out Tryz.underlying38 rfl (xinf X) ?_)
     refine (MTH.out _ HRC.out).mono ?_
     rintro r w1 ⟨rfl,HRD⟩
     clear MTH HRG cp
     go_wp2_with fail
     refine wp_region_held_drew (S:=fun W=>RH w0 W p h S S X X K []) (by kernel_rfl) (RH.below HRD.out (Below.refl _ _).drew) (fun hHeld=>?_)
     refine tk1 (i:=0) (d:=45) (v:=.pointer (some ⟨p,0,none⟩)) rfl hHeld ?_ ?_
     · (intro W _;go_simp)
     simp only [Act.put,List.setIfInBounds_toArray,List.set_cons_zero,List.set_cons_succ]
     refine tk1 (i:=1) (d:=46) (v:=.pointer (some ⟨p,0,none⟩)) rfl hHeld ?_ ?_
     · (intro W _;go_simp)
     simp only [Act.put,List.setIfInBounds_toArray,List.set_cons_zero,List.set_cons_succ]
     refine tk1 (i:=2) (d:=47) (v:=.pointer (some ⟨p,0,none⟩)) rfl hHeld ?_ ?_
     · (intro W _;go_simp)
     simp only [Act.put,List.setIfInBounds_toArray,List.set_cons_zero,List.set_cons_succ]
     refine tk1 (i:=3) (d:=48) (v:=.pointer (some ⟨h,0,none⟩)) rfl hHeld ?_ ?_
     · (intro W hSw;have kp:=RH.ptr hSw;clear hHeld hSw;go_simp)
     simp only [Act.put,List.setIfInBounds_toArray,List.set_cons_zero,List.set_cons_succ]
     refine tk1 (i:=4) (d:=49) (v:=.int .i64 (i:Int)) rfl hHeld ?_ ?_
     · (intro W _;go_simp)
     simp only [Act.put,List.setIfInBounds_toArray,List.set_cons_zero,List.set_cons_succ]
     refine tk1 (i:=6) (d:=51) (v:=.pointer (some ⟨p,0,none⟩)) rfl hHeld ?_ ?_
     · (intro W _;go_simp)
     simp only [Act.put,List.setIfInBounds_toArray,List.set_cons_zero,List.set_cons_succ]
     refine tk1 (i:=7) (d:=52) (v:=.pointer (some ⟨p,0,none⟩)) rfl hHeld ?_ ?_
     · (intro W _;go_simp)
     simp only [Act.put,List.setIfInBounds_toArray,List.set_cons_zero,List.set_cons_succ]
     refine tk1 (i:=8) (d:=53) (v:=.pointer (some ⟨p,1,none⟩)) rfl hHeld ?_ ?_
     · (intro W _;go_simp)
     simp only [Act.put,List.setIfInBounds_toArray,List.set_cons_zero,List.set_cons_succ]
     refine wpAnyH_take (i:=9) (v:=.agg (xcells X).toArray) rfl (by kernel_rfl) (by kernel_rfl) (by kernel_rfl) (fun _ _ _ h=>h) (yieldsIf_load_mid (by rfl) _ _ rfl p 1 rfl (xcells X) _ (fun W h=>RH.range h) Tryz.underlying38 rfl (xinf X)) hHeld ?_
     try simp only [Act.put,List.getElem_toArray,List.getElem_cons_succ,List.getElem_cons_zero,List.setIfInBounds_toArray,List.set_cons_zero,List.set_cons_succ]
     refine tk1 (i:=10) (d:=55) (v:=.int .i64 (i:Int)) rfl hHeld ?_ ?_
     · (intro W _;go_simp)
     simp only [Act.put,List.setIfInBounds_toArray,List.set_cons_zero,List.set_cons_succ]
     refine wpAnyH_ready (rs:=[5]) (by kernel_rfl) (by simp) ?_
     refine AllReadyH.cons rfl (fun Kc hK=>?_) AllReadyH.nil
     have HK:=Lib.hid hK
     have HLD:=Lib.hid hHeld
     clear hK hHeld
     go_simp
     refine (MO.out _ HLD.out).mono ?_
     rintro r w9 ⟨rfl,rfl⟩
     refine HK.out.out _ _ (HLD.out) (fun hHeld=>?_)
     try simp only [Act.put,List.getElem_toArray,List.getElem_cons_succ,List.getElem_cons_zero,List.setIfInBounds_toArray,List.set_cons_zero,List.set_cons_succ]
     clear HK Kc
     clear HLD
     refine wpAnyH_ready (rs:=[11]) (by kernel_rfl) (by simp) ?_
     refine AllReadyH.cons rfl (fun Kc hK=>?_) AllReadyH.nil
     have HK:=Lib.hid hK
     have HLD:=Lib.hid hHeld
     clear hK hHeld
     go_simp
     refine (MP.out _ HLD.out).mono ?_
     rintro r w9 ⟨rfl,H9⟩
     refine HK.out.out _ _ (H9.out) (fun hHeld=>?_)
     try simp only [Act.put,List.getElem_toArray,List.getElem_cons_succ,List.getElem_cons_zero,List.setIfInBounds_toArray,List.set_cons_zero,List.set_cons_succ]
     clear HK Kc
     clear H9 HLD
     refine tk1 (i:=12) (d:=57) (v:=.bool false) rfl hHeld ?_ ?_
     · (intro W _;go_simp)
     simp only [Act.put,List.setIfInBounds_toArray,List.set_cons_zero,List.set_cons_succ]
     refine tk1 (i:=13) (d:=58) (v:=.bool false) rfl hHeld ?_ ?_
     · (intro W _;go_simp)
     simp only [Act.put,List.setIfInBounds_toArray,List.set_cons_zero,List.set_cons_succ]
     refine tk1 (i:=14) (d:=59) (v:=.pointer (some ⟨p,0,none⟩)) rfl hHeld ?_ ?_
     · (intro W _;go_simp)
     simp only [Act.put,List.setIfInBounds_toArray,List.set_cons_zero,List.set_cons_succ]
     refine tk1 (i:=15) (d:=60) (v:=.pointer (some ⟨p,0,none⟩)) rfl hHeld ?_ ?_
     · (intro W _;go_simp)
     simp only [Act.put,List.setIfInBounds_toArray,List.set_cons_zero,List.set_cons_succ]
     refine tk1 (i:=16) (d:=61) (v:=.pointer (some ⟨p,0,none⟩)) rfl hHeld ?_ ?_
     · (intro W _;go_simp)
     simp only [Act.put,List.setIfInBounds_toArray,List.set_cons_zero,List.set_cons_succ]
     refine tk1 (i:=17) (d:=62) (v:=.pointer (some ⟨h,0,none⟩)) rfl hHeld ?_ ?_
     · (intro W hSw;have kp:=RH.ptr hSw;clear hHeld hSw;go_simp)
     simp only [Act.put,List.setIfInBounds_toArray,List.set_cons_zero,List.set_cons_succ]
     refine tk1 (i:=18) (d:=63) (v:=.int .i64 (i:Int)) rfl hHeld ?_ ?_
     · (intro W _;go_simp)
     simp only [Act.put,List.setIfInBounds_toArray,List.set_cons_zero,List.set_cons_succ]
     refine tk1 (i:=20) (d:=65) (v:=.pointer (some ⟨p,0,none⟩)) rfl hHeld ?_ ?_
     · (intro W _;go_simp)
     simp only [Act.put,List.setIfInBounds_toArray,List.set_cons_zero,List.set_cons_succ]
     refine tk1 (i:=21) (d:=66) (v:=.pointer (some ⟨p,0,none⟩)) rfl hHeld ?_ ?_
     · (intro W _;go_simp)
     simp only [Act.put,List.setIfInBounds_toArray,List.set_cons_zero,List.set_cons_succ]
     refine tk1 (i:=22) (d:=67) (v:=.pointer (some ⟨p,1,none⟩)) rfl hHeld ?_ ?_
     · (intro W _;go_simp)
     simp only [Act.put,List.setIfInBounds_toArray,List.set_cons_zero,List.set_cons_succ]
     refine wpAnyH_take (i:=23) (v:=.agg (xcells X).toArray) rfl (by kernel_rfl) (by kernel_rfl) (by kernel_rfl) (fun _ _ _ h=>h) (yieldsIf_load_mid (by rfl) _ _ rfl p 1 rfl (xcells X) _ (fun W h=>RH.range h) Tryz.underlying38 rfl (xinf X)) hHeld ?_
     try simp only [Act.put,List.getElem_toArray,List.getElem_cons_succ,List.getElem_cons_zero,List.setIfInBounds_toArray,List.set_cons_zero,List.set_cons_succ]
     refine tk1 (i:=24) (d:=69) (v:=.int .i64 (i:Int)) rfl hHeld ?_ ?_
     · (intro W _;go_simp)
     simp only [Act.put,List.setIfInBounds_toArray,List.set_cons_zero,List.set_cons_succ]
     refine wpAnyH_ready (rs:=[19]) (by kernel_rfl) (by simp) ?_
     refine AllReadyH.cons rfl (fun Kc hK=>?_) AllReadyH.nil
     have HK:=Lib.hid hK
     have HLD:=Lib.hid hHeld
     clear hK hHeld
     go_simp
     refine (MS.out _ HLD.out).mono ?_
     rintro r w9 ⟨rfl,rfl⟩
     refine HK.out.out _ _ (HLD.out) (fun hHeld=>?_)
     try simp only [Act.put,List.getElem_toArray,List.getElem_cons_succ,List.getElem_cons_zero,List.setIfInBounds_toArray,List.set_cons_zero,List.set_cons_succ]
     clear HK Kc
     clear HLD
     refine wpAnyH_ready (rs:=[25]) (by kernel_rfl) (by simp) ?_
     refine AllReadyH.cons rfl (fun Kc hK=>?_) AllReadyH.nil
     have HK:=Lib.hid hK
     have HLD:=Lib.hid hHeld
     clear hK hHeld
     go_simp
     refine (ML.out _ HLD.out).mono ?_
     rintro r w9 ⟨rfl,H9⟩
     refine HK.out.out _ _ (H9.out) (fun hHeld=>?_)
     try simp only [Act.put,List.getElem_toArray,List.getElem_cons_succ,List.getElem_cons_zero,List.setIfInBounds_toArray,List.set_cons_zero,List.set_cons_succ]
     clear HK Kc
     clear H9 HLD
     refine tk1 (i:=26) (d:=71) (v:=.bool false) rfl hHeld ?_ ?_
     · (intro W _;go_simp)
     simp only [Act.put,List.setIfInBounds_toArray,List.set_cons_zero,List.set_cons_succ]
     refine tk0 (i:=27) (d:=72) rfl hHeld ?_
     simp only [Act.put,List.setIfInBounds_toArray,List.set_cons_zero,List.set_cons_succ]
     refine tk0 (i:=28) (d:=73) rfl hHeld ?_
     simp only [Act.put,List.setIfInBounds_toArray,List.set_cons_zero,List.set_cons_succ]
     refine tk0 (i:=29) (d:=74) rfl hHeld ?_
     simp only [Act.put,List.setIfInBounds_toArray,List.set_cons_zero,List.set_cons_succ]
     refine tk0 (i:=30) (d:=75) rfl hHeld ?_
     simp only [Act.put,List.setIfInBounds_toArray,List.set_cons_zero,List.set_cons_succ]
     refine tk0 (i:=31) (d:=76) rfl hHeld ?_
     simp only [Act.put,List.setIfInBounds_toArray,List.set_cons_zero,List.set_cons_succ]
     refine tk0 (i:=32) (d:=77) rfl hHeld ?_
     simp only [Act.put,List.setIfInBounds_toArray,List.set_cons_zero,List.set_cons_succ]
     refine tk0 (i:=33) (d:=78) rfl hHeld ?_
     simp only [Act.put,List.setIfInBounds_toArray,List.set_cons_zero,List.set_cons_succ]
     refine tk1 (i:=34) (d:=79) (v:=.bool false) rfl hHeld ?_ ?_
     · (intro W _;go_simp)
     simp only [Act.put,List.setIfInBounds_toArray,List.set_cons_zero,List.set_cons_succ]
     refine tk1 (i:=35) (d:=80) (v:=.bool false) rfl hHeld ?_ ?_
     · (intro W _;go_simp)
     simp only [Act.put,List.setIfInBounds_toArray,List.set_cons_zero,List.set_cons_succ]
     refine tk1 (i:=36) (d:=81) (v:=.bool false) rfl hHeld ?_ ?_
     · (intro W _;go_simp)
     simp only [Act.put,List.setIfInBounds_toArray,List.set_cons_zero,List.set_cons_succ]
     refine wpAnyH_done (by kernel_rfl) ?_ _
     have HRE:=Lib.hid hHeld
     clear hHeld
     clear HRD MO MP MS ML HHALT
     go_wp2_with fail
     refine wp_region_held_drew (S:=fun W=>RH w0 W p h S S X X K []) (by kernel_rfl) (RH.below HRE.out (Below.refl _ _).drew) (fun hHeld=>?_)
     refine tk1 (i:=0) (d:=112) (v:=.bool true) rfl hHeld ?_ ?_
     · (intro W _;go_simp)
     simp only [Act.put,List.setIfInBounds_toArray,List.set_cons_zero,List.set_cons_succ]
     refine tk1 (i:=1) (d:=113) (v:=.bool true) rfl hHeld ?_ ?_
     · (intro W _;go_simp)
     simp only [Act.put,List.setIfInBounds_toArray,List.set_cons_zero,List.set_cons_succ]
     refine tk1 (i:=2) (d:=114) (v:=.pointer (some ⟨p,0,none⟩)) rfl hHeld ?_ ?_
     · (intro W _;go_simp)
     simp only [Act.put,List.setIfInBounds_toArray,List.set_cons_zero,List.set_cons_succ]
     refine tk1 (i:=3) (d:=115) (v:=.pointer (some ⟨p,0,none⟩)) rfl hHeld ?_ ?_
     · (intro W _;go_simp)
     simp only [Act.put,List.setIfInBounds_toArray,List.set_cons_zero,List.set_cons_succ]
     refine tk1 (i:=4) (d:=116) (v:=.pointer (some ⟨p,0,none⟩)) rfl hHeld ?_ ?_
     · (intro W _;go_simp)
     simp only [Act.put,List.setIfInBounds_toArray,List.set_cons_zero,List.set_cons_succ]
     refine tk1 (i:=5) (d:=117) (v:=.pointer (some ⟨h,0,none⟩)) rfl hHeld ?_ ?_
     · (intro W hSw;have kp:=RH.ptr hSw;clear hHeld hSw;go_simp)
     simp only [Act.put,List.setIfInBounds_toArray,List.set_cons_zero,List.set_cons_succ]
     refine tk1 (i:=6) (d:=118) (v:=.int .i64 (i:Int)) rfl hHeld ?_ ?_
     · (intro W _;go_simp)
     simp only [Act.put,List.setIfInBounds_toArray,List.set_cons_zero,List.set_cons_succ]
     refine tk1 (i:=8) (d:=120) (v:=.pointer (some ⟨p,0,none⟩)) rfl hHeld ?_ ?_
     · (intro W _;go_simp)
     simp only [Act.put,List.setIfInBounds_toArray,List.set_cons_zero,List.set_cons_succ]
     refine tk1 (i:=9) (d:=121) (v:=.int .i64 (i:Int)) rfl hHeld ?_ ?_
     · (intro W _;go_simp)
     simp only [Act.put,List.setIfInBounds_toArray,List.set_cons_zero,List.set_cons_succ]
     refine tk1 (i:=10) (d:=122) (v:=.pointer (some ⟨p,0,none⟩)) rfl hHeld ?_ ?_
     · (intro W _;go_simp)
     simp only [Act.put,List.setIfInBounds_toArray,List.set_cons_zero,List.set_cons_succ]
     refine tk1 (i:=11) (d:=123) (v:=.pointer (some ⟨p,1,none⟩)) rfl hHeld ?_ ?_
     · (intro W _;go_simp)
     simp only [Act.put,List.setIfInBounds_toArray,List.set_cons_zero,List.set_cons_succ]
     refine tk1 (i:=12) (d:=124) (v:=.pointer (some ⟨p,3,none⟩)) rfl hHeld ?_ ?_
     · (intro W _;go_simp)
     simp only [Act.put,List.setIfInBounds_toArray,List.set_cons_zero,List.set_cons_succ]
     refine tk1 (i:=13) (d:=125) (v:=.pointer (some ⟨p,3+i*4,none⟩)) rfl hHeld ?_ ?_
     · (intro W _;go_simp)
     simp only [Act.put,List.setIfInBounds_toArray,List.set_cons_zero,List.set_cons_succ]
     refine tk1 (i:=14) (d:=126) (v:=rqV A n c cu mn ov) rfl hHeld ?_ ?_
     · (intro W hSw;obtain ⟨k0,k1,k2,k3⟩:=HQC.out _ hSw;clear hHeld hSw;go_simp)
     simp only [Act.put,List.setIfInBounds_toArray,List.set_cons_zero,List.set_cons_succ]
     refine wpAnyH_ready (rs:=[7]) (by kernel_rfl) (by simp) ?_
     refine AllReadyH.cons rfl (fun Kc hK=>?_) AllReadyH.nil
     have HK:=Lib.hid hK
     have HLD:=Lib.hid hHeld
     clear hK hHeld
     go_simp
     refine (ME.out _ HLD.out).mono ?_
     rintro r w5 ⟨A5,c5,rfl,H5⟩
     refine HK.out.out _ _ (H5.out.2.2) (fun hHeld=>?_)
     try simp only [Act.put,List.getElem_toArray,List.getElem_cons_succ,List.getElem_cons_zero,List.setIfInBounds_toArray,List.set_cons_zero,List.set_cons_succ]
     clear HK Kc
     clear HLD
     refine wpAnyH_ready (rs:=[15]) (by kernel_rfl) (by simp) ?_
     refine AllReadyH.cons rfl (fun Kc hK=>?_) AllReadyH.nil
     have HK:=Lib.hid hK
     have HLD:=Lib.hid hHeld
     clear hK hHeld
     go_simp
     refine (MN.out _ HLD.out).mono ?_
     rintro r w6 ⟨A6,c6,rfl,H6⟩
     refine HK.out.out _ _ (H6.out.2.2) (fun hHeld=>?_)
     try simp only [Act.put,List.getElem_toArray,List.getElem_cons_succ,List.getElem_cons_zero,List.setIfInBounds_toArray,List.set_cons_zero,List.set_cons_succ]
     clear HK Kc
     clear HLD
     refine wpAnyH_ready (rs:=[16]) (by kernel_rfl) (by simp) ?_
     refine AllReadyH.cons rfl (fun Kc hK=>?_) AllReadyH.nil
     have HK:=Lib.hid hK
     have HLD:=Lib.hid hHeld
     clear hK hHeld
     go_simp
     refine (MSA.out _ A5 A6 c5 c6 ((H5.out.1.below H6.out.2.1).mono H6.out.2.1.size) H6.out.1).mono ?_
     rintro r w9 ⟨rfl,hb9⟩
     refine HK.out.out _ _ (RH.below HLD.out hb9) (fun hHeld=>?_)
     try simp only [Act.put,List.getElem_toArray,List.getElem_cons_succ,List.getElem_cons_zero,List.setIfInBounds_toArray,List.set_cons_zero,List.set_cons_succ]
     clear HK Kc
     clear H5 H6 HLD hb9
     refine tk1 (i:=17) (d:=129) (v:=.bool false) rfl hHeld ?_ ?_
     · (intro W _;go_simp)
     simp only [Act.put,List.setIfInBounds_toArray,List.set_cons_zero,List.set_cons_succ]
     refine tk1 (i:=18) (d:=130) (v:=.bool false) rfl hHeld ?_ ?_
     · (intro W _;go_simp)
     simp only [Act.put,List.setIfInBounds_toArray,List.set_cons_zero,List.set_cons_succ]
     refine tk1 (i:=19) (d:=131) (v:=.pointer (some ⟨p,0,none⟩)) rfl hHeld ?_ ?_
     · (intro W _;go_simp)
     simp only [Act.put,List.setIfInBounds_toArray,List.set_cons_zero,List.set_cons_succ]
     refine tk1 (i:=20) (d:=132) (v:=.pointer (some ⟨p,0,none⟩)) rfl hHeld ?_ ?_
     · (intro W _;go_simp)
     simp only [Act.put,List.setIfInBounds_toArray,List.set_cons_zero,List.set_cons_succ]
     refine tk1 (i:=21) (d:=133) (v:=.pointer (some ⟨p,0,none⟩)) rfl hHeld ?_ ?_
     · (intro W _;go_simp)
     simp only [Act.put,List.setIfInBounds_toArray,List.set_cons_zero,List.set_cons_succ]
     refine tk1 (i:=22) (d:=134) (v:=.pointer (some ⟨h,0,none⟩)) rfl hHeld ?_ ?_
     · (intro W hSw;have kp:=RH.ptr hSw;clear hHeld hSw;go_simp)
     simp only [Act.put,List.setIfInBounds_toArray,List.set_cons_zero,List.set_cons_succ]
     refine tk1 (i:=23) (d:=135) (v:=.int .i64 (i:Int)) rfl hHeld ?_ ?_
     · (intro W _;go_simp)
     simp only [Act.put,List.setIfInBounds_toArray,List.set_cons_zero,List.set_cons_succ]
     refine tk1 (i:=25) (d:=137) (v:=.pointer (some ⟨p,0,none⟩)) rfl hHeld ?_ ?_
     · (intro W _;go_simp)
     simp only [Act.put,List.setIfInBounds_toArray,List.set_cons_zero,List.set_cons_succ]
     refine tk1 (i:=26) (d:=138) (v:=.int .i64 (i:Int)) rfl hHeld ?_ ?_
     · (intro W _;go_simp)
     simp only [Act.put,List.setIfInBounds_toArray,List.set_cons_zero,List.set_cons_succ]
     refine tk1 (i:=27) (d:=139) (v:=.pointer (some ⟨p,0,none⟩)) rfl hHeld ?_ ?_
     · (intro W _;go_simp)
     simp only [Act.put,List.setIfInBounds_toArray,List.set_cons_zero,List.set_cons_succ]
     refine tk1 (i:=28) (d:=140) (v:=.pointer (some ⟨p,1,none⟩)) rfl hHeld ?_ ?_
     · (intro W _;go_simp)
     simp only [Act.put,List.setIfInBounds_toArray,List.set_cons_zero,List.set_cons_succ]
     refine tk1 (i:=29) (d:=141) (v:=.pointer (some ⟨p,3,none⟩)) rfl hHeld ?_ ?_
     · (intro W _;go_simp)
     simp only [Act.put,List.setIfInBounds_toArray,List.set_cons_zero,List.set_cons_succ]
     refine tk1 (i:=30) (d:=142) (v:=.pointer (some ⟨p,3+i*4,none⟩)) rfl hHeld ?_ ?_
     · (intro W _;go_simp)
     simp only [Act.put,List.setIfInBounds_toArray,List.set_cons_zero,List.set_cons_succ]
     refine tk1 (i:=31) (d:=143) (v:=.pointer (some ⟨p,3+i*4+2,none⟩)) rfl hHeld ?_ ?_
     · (intro W _;go_simp)
     simp only [Act.put,List.setIfInBounds_toArray,List.set_cons_zero,List.set_cons_succ]
     refine tk1 (i:=32) (d:=144) (v:=.int .i64 mn) rfl hHeld ?_ ?_
     · (intro W hSw;obtain ⟨k0,k1,k2,k3⟩:=HQC.out _ hSw;clear hHeld hSw;go_simp)
     simp only [Act.put,List.setIfInBounds_toArray,List.set_cons_zero,List.set_cons_succ]
     refine wpAnyH_ready (rs:=[24]) (by kernel_rfl) (by simp) ?_
     refine AllReadyH.cons rfl (fun Kc hK=>?_) AllReadyH.nil
     have HK:=Lib.hid hK
     have HLD:=Lib.hid hHeld
     clear hK hHeld
     go_simp
     refine (MM.out _ HLD.out).mono ?_
     rintro r w9 ⟨rfl,rfl⟩
     refine HK.out.out _ _ (HLD.out) (fun hHeld=>?_)
     try simp only [Act.put,List.getElem_toArray,List.getElem_cons_succ,List.getElem_cons_zero,List.setIfInBounds_toArray,List.set_cons_zero,List.set_cons_succ]
     clear HK Kc
     clear HLD
     refine tk1 (i:=33) (d:=145) (v:=.bool false) rfl hHeld ?_ ?_
     · (intro W _;go_simp)
     simp only [Act.put,List.setIfInBounds_toArray,List.set_cons_zero,List.set_cons_succ]
     refine tk1 (i:=34) (d:=146) (v:=.bool false) rfl hHeld ?_ ?_
     · (intro W _;go_simp)
     simp only [Act.put,List.setIfInBounds_toArray,List.set_cons_zero,List.set_cons_succ]
     refine tk1 (i:=35) (d:=147) (v:=.bool false) rfl hHeld ?_ ?_
     · (intro W _;go_simp)
     simp only [Act.put,List.setIfInBounds_toArray,List.set_cons_zero,List.set_cons_succ]
     refine tk1 (i:=36) (d:=148) (v:=.pointer (some ⟨p,0,none⟩)) rfl hHeld ?_ ?_
     · (intro W _;go_simp)
     simp only [Act.put,List.setIfInBounds_toArray,List.set_cons_zero,List.set_cons_succ]
     refine tk1 (i:=37) (d:=149) (v:=.pointer (some ⟨p,0,none⟩)) rfl hHeld ?_ ?_
     · (intro W _;go_simp)
     simp only [Act.put,List.setIfInBounds_toArray,List.set_cons_zero,List.set_cons_succ]
     refine tk1 (i:=38) (d:=150) (v:=.pointer (some ⟨p,0,none⟩)) rfl hHeld ?_ ?_
     · (intro W _;go_simp)
     simp only [Act.put,List.setIfInBounds_toArray,List.set_cons_zero,List.set_cons_succ]
     refine tk1 (i:=39) (d:=151) (v:=.pointer (some ⟨h,0,none⟩)) rfl hHeld ?_ ?_
     · (intro W hSw;have kp:=RH.ptr hSw;clear hHeld hSw;go_simp)
     simp only [Act.put,List.setIfInBounds_toArray,List.set_cons_zero,List.set_cons_succ]
     refine tk1 (i:=40) (d:=152) (v:=.int .i64 (i:Int)) rfl hHeld ?_ ?_
     · (intro W _;go_simp)
     simp only [Act.put,List.setIfInBounds_toArray,List.set_cons_zero,List.set_cons_succ]
     refine tk1 (i:=42) (d:=154) (v:=.pointer (some ⟨p,0,none⟩)) rfl hHeld ?_ ?_
     · (intro W _;go_simp)
     simp only [Act.put,List.setIfInBounds_toArray,List.set_cons_zero,List.set_cons_succ]
     refine tk1 (i:=43) (d:=155) (v:=.int .i64 (i:Int)) rfl hHeld ?_ ?_
     · (intro W _;go_simp)
     simp only [Act.put,List.setIfInBounds_toArray,List.set_cons_zero,List.set_cons_succ]
     refine tk1 (i:=44) (d:=156) (v:=.pointer (some ⟨p,0,none⟩)) rfl hHeld ?_ ?_
     · (intro W _;go_simp)
     simp only [Act.put,List.setIfInBounds_toArray,List.set_cons_zero,List.set_cons_succ]
     refine tk1 (i:=45) (d:=157) (v:=.pointer (some ⟨p,1,none⟩)) rfl hHeld ?_ ?_
     · (intro W _;go_simp)
     simp only [Act.put,List.setIfInBounds_toArray,List.set_cons_zero,List.set_cons_succ]
     refine tk1 (i:=46) (d:=158) (v:=.pointer (some ⟨p,3,none⟩)) rfl hHeld ?_ ?_
     · (intro W _;go_simp)
     simp only [Act.put,List.setIfInBounds_toArray,List.set_cons_zero,List.set_cons_succ]
     refine tk1 (i:=47) (d:=159) (v:=.pointer (some ⟨p,3+i*4,none⟩)) rfl hHeld ?_ ?_
     · (intro W _;go_simp)
     simp only [Act.put,List.setIfInBounds_toArray,List.set_cons_zero,List.set_cons_succ]
     refine tk1 (i:=48) (d:=160) (v:=rqV A n c cu mn ov) rfl hHeld ?_ ?_
     · (intro W hSw;obtain ⟨k0,k1,k2,k3⟩:=HQC.out _ hSw;clear hHeld hSw;go_simp)
     simp only [Act.put,List.setIfInBounds_toArray,List.set_cons_zero,List.set_cons_succ]
     refine wpAnyH_ready (rs:=[41]) (by kernel_rfl) (by simp) ?_
     refine AllReadyH.cons rfl (fun Kc hK=>?_) AllReadyH.nil
     have HK:=Lib.hid hK
     have HLD:=Lib.hid hHeld
     clear hK hHeld
     go_simp
     refine (MD.out _ HLD.out).mono ?_
     rintro r w9 ⟨rfl,rfl⟩
     refine HK.out.out _ _ (HLD.out) (fun hHeld=>?_)
     try simp only [Act.put,List.getElem_toArray,List.getElem_cons_succ,List.getElem_cons_zero,List.setIfInBounds_toArray,List.set_cons_zero,List.set_cons_succ]
     clear HK Kc
     clear HLD
     refine wpAnyH_ready (rs:=[49]) (by kernel_rfl) (by simp) ?_
     refine AllReadyH.cons rfl (fun Kc hK=>?_) AllReadyH.nil
     have HK:=Lib.hid hK
     have HLD:=Lib.hid hHeld
     clear hK hHeld
     go_simp
     refine (MY.out _ HLD.out).mono ?_
     rintro r w9 ⟨rfl,H9⟩
     refine HK.out.out _ _ (H9.out) (fun hHeld=>?_)
     try simp only [Act.put,List.getElem_toArray,List.getElem_cons_succ,List.getElem_cons_zero,List.setIfInBounds_toArray,List.set_cons_zero,List.set_cons_succ]
     clear HK Kc
     clear H9 HLD
     refine tk1 (i:=50) (d:=162) (v:=.bool false) rfl hHeld ?_ ?_
     · (intro W _;go_simp)
     simp only [Act.put,List.setIfInBounds_toArray,List.set_cons_zero,List.set_cons_succ]
     refine tk1 (i:=51) (d:=163) (v:=.bool false) rfl hHeld ?_ ?_
     · (intro W _;go_simp)
     simp only [Act.put,List.setIfInBounds_toArray,List.set_cons_zero,List.set_cons_succ]
     refine tk1 (i:=52) (d:=164) (v:=.bool false) rfl hHeld ?_ ?_
     · (intro W _;go_simp)
     simp only [Act.put,List.setIfInBounds_toArray,List.set_cons_zero,List.set_cons_succ]
     refine wpAnyH_done (by kernel_rfl) ?_ _
     have HRF:=Lib.hid hHeld
     clear hHeld
     clear HRE
     go_wp2_with fail
     go_roundw
     case rel=>exact ⟨(i:Int)+1,by omega,by have:=HLT.out;omega,by go_num,HRF⟩
     case measure=>simp [intOf];have:=HLT.out;omega
    ·
     obtain ⟨on,hon⟩:∃ on,onB S (i:Int)=on:=⟨_,rfl⟩
     obtain ⟨st,hst⟩:∃ st,stB S (i:Int)=st:=⟨_,rfl⟩
     have hln:S.linked (i:Int)=some x:=by rw [HS.linked,if_neg (by omega),S.at_nat hi];exact hx
     have hlk:(S.linked (i:Int)).isSome=true:=by rw [hln];rfl
     have hst2:x.stopped=st:=by rw [← hst];unfold stB;rw [hln]
     have HH2:=HHALT.out
     clear HHALT
     have HHALT:Hid (∀ W,RH w0 W p h S S X X K []→W.cell? ⟨p,291+i,none⟩=some (.bool st)):=Lib.hid fun W hW=>by
      rw [HH2 W hW h0,hst2]
     clear HH2 hst2
     have MO:Hid (∀ W,RH w0 W p h S S X X K []→Calls Tryz.prog 13 #[.pointer (some ⟨h,0,none⟩),.int .i64 (i:Int)] W fun e w'=>e=.returned (.bool on)∧W=w'):=Lib.hid fun W hW=>by
      have:=both_on hW (i:Int)
      rw [hon] at this
      exact this
     have MP:Hid (∀ W,RH w0 W p h S S X X K []→Calls Tryz.prog 31 #[.agg (xcells X).toArray,.int .i64 (i:Int)] W fun e w'=>e=.returned (.bool on)∧Hid (RH w0 w' p h S S X X K [])):=Lib.hid fun W hW=>by
      have:=both_xon hW HG0.out.1 (i:Int)
      rw [hon] at this
      exact this
     have MS:Hid (∀ W,RH w0 W p h S S X X K []→Calls Tryz.prog 32 #[.pointer (some ⟨h,0,none⟩),.int .i64 (i:Int)] W fun e w'=>e=.returned (.bool st)∧W=w'):=Lib.hid fun W hW=>by
      have:=both_st hW (i:Int)
      rw [hst] at this
      exact this
     have ML:Hid (∀ W,RH w0 W p h S S X X K []→Calls Tryz.prog 33 #[.agg (xcells X).toArray,.int .i64 (i:Int)] W fun e w'=>e=.returned (.bool true)∧Hid (RH w0 w' p h S S X X K [])):=Lib.hid fun W hW=>by
      have:=xlinked_any hW.at_ HG0.out.1.inv.tree (i:Int) W
      rw [hlk] at this
      exact this.mono fun e w' hp=>⟨hp.1,Lib.hid (hW.below hp.2)⟩
     clear hlt hln hlk hon hst hx h0
     go_wp2_with (refine wpList_load_mid rfl 38 (.tmp 41) rfl p 1 rfl (xcells X) _ HRG.out Tryz.underlying38 rfl (xinf X) ?_)
     refine (MTH.out _ HRC.out).mono ?_
     rintro r w1 ⟨rfl,HRD⟩
     clear MTH HRG cp
     go_wp2_with fail
     refine wp_region_held_drew (S:=fun W=>RH w0 W p h S S X X K []) (by kernel_rfl) (RH.below HRD.out (Below.refl _ _).drew) (fun hHeld=>?_)
     refine tk1 (i:=0) (d:=45) (v:=.pointer (some ⟨p,0,none⟩)) rfl hHeld ?_ ?_
     · (intro W _;go_simp)
     simp only [Act.put,List.setIfInBounds_toArray,List.set_cons_zero,List.set_cons_succ]
     refine tk1 (i:=1) (d:=46) (v:=.pointer (some ⟨p,0,none⟩)) rfl hHeld ?_ ?_
     · (intro W _;go_simp)
     simp only [Act.put,List.setIfInBounds_toArray,List.set_cons_zero,List.set_cons_succ]
     refine tk1 (i:=2) (d:=47) (v:=.pointer (some ⟨p,0,none⟩)) rfl hHeld ?_ ?_
     · (intro W _;go_simp)
     simp only [Act.put,List.setIfInBounds_toArray,List.set_cons_zero,List.set_cons_succ]
     refine tk1 (i:=3) (d:=48) (v:=.pointer (some ⟨h,0,none⟩)) rfl hHeld ?_ ?_
     · (intro W hSw;have kp:=RH.ptr hSw;clear hHeld hSw;go_simp)
     simp only [Act.put,List.setIfInBounds_toArray,List.set_cons_zero,List.set_cons_succ]
     refine tk1 (i:=4) (d:=49) (v:=.int .i64 (i:Int)) rfl hHeld ?_ ?_
     · (intro W _;go_simp)
     simp only [Act.put,List.setIfInBounds_toArray,List.set_cons_zero,List.set_cons_succ]
     refine tk1 (i:=6) (d:=51) (v:=.pointer (some ⟨p,0,none⟩)) rfl hHeld ?_ ?_
     · (intro W _;go_simp)
     simp only [Act.put,List.setIfInBounds_toArray,List.set_cons_zero,List.set_cons_succ]
     refine tk1 (i:=7) (d:=52) (v:=.pointer (some ⟨p,0,none⟩)) rfl hHeld ?_ ?_
     · (intro W _;go_simp)
     simp only [Act.put,List.setIfInBounds_toArray,List.set_cons_zero,List.set_cons_succ]
     refine tk1 (i:=8) (d:=53) (v:=.pointer (some ⟨p,1,none⟩)) rfl hHeld ?_ ?_
     · (intro W _;go_simp)
     simp only [Act.put,List.setIfInBounds_toArray,List.set_cons_zero,List.set_cons_succ]
     refine wpAnyH_take (i:=9) (v:=.agg (xcells X).toArray) rfl (by kernel_rfl) (by kernel_rfl) (by kernel_rfl) (fun _ _ _ h=>h) (yieldsIf_load_mid (by rfl) _ _ rfl p 1 rfl (xcells X) _ (fun W h=>RH.range h) Tryz.underlying38 rfl (xinf X)) hHeld ?_
     try simp only [Act.put,List.getElem_toArray,List.getElem_cons_succ,List.getElem_cons_zero,List.setIfInBounds_toArray,List.set_cons_zero,List.set_cons_succ]
     refine tk1 (i:=10) (d:=55) (v:=.int .i64 (i:Int)) rfl hHeld ?_ ?_
     · (intro W _;go_simp)
     simp only [Act.put,List.setIfInBounds_toArray,List.set_cons_zero,List.set_cons_succ]
     refine wpAnyH_ready (rs:=[5]) (by kernel_rfl) (by simp) ?_
     refine AllReadyH.cons rfl (fun Kc hK=>?_) AllReadyH.nil
     have HK:=Lib.hid hK
     have HLD:=Lib.hid hHeld
     clear hK hHeld
     go_simp
     refine (MO.out _ HLD.out).mono ?_
     rintro r w9 ⟨rfl,rfl⟩
     refine HK.out.out _ _ (HLD.out) (fun hHeld=>?_)
     try simp only [Act.put,List.getElem_toArray,List.getElem_cons_succ,List.getElem_cons_zero,List.setIfInBounds_toArray,List.set_cons_zero,List.set_cons_succ]
     clear HK Kc
     clear HLD
     refine wpAnyH_ready (rs:=[11]) (by kernel_rfl) (by simp) ?_
     refine AllReadyH.cons rfl (fun Kc hK=>?_) AllReadyH.nil
     have HK:=Lib.hid hK
     have HLD:=Lib.hid hHeld
     clear hK hHeld
     go_simp
     refine (MP.out _ HLD.out).mono ?_
     rintro r w9 ⟨rfl,H9⟩
     refine HK.out.out _ _ (H9.out) (fun hHeld=>?_)
     try simp only [Act.put,List.getElem_toArray,List.getElem_cons_succ,List.getElem_cons_zero,List.setIfInBounds_toArray,List.set_cons_zero,List.set_cons_succ]
     clear HK Kc
     clear H9 HLD
     refine tk1 (i:=12) (d:=57) (v:=.bool false) rfl hHeld ?_ ?_
     · (intro W _;go_simp)
     simp only [Act.put,List.setIfInBounds_toArray,List.set_cons_zero,List.set_cons_succ]
     refine tk1 (i:=13) (d:=58) (v:=.bool false) rfl hHeld ?_ ?_
     · (intro W _;go_simp)
     simp only [Act.put,List.setIfInBounds_toArray,List.set_cons_zero,List.set_cons_succ]
     refine tk1 (i:=14) (d:=59) (v:=.pointer (some ⟨p,0,none⟩)) rfl hHeld ?_ ?_
     · (intro W _;go_simp)
     simp only [Act.put,List.setIfInBounds_toArray,List.set_cons_zero,List.set_cons_succ]
     refine tk1 (i:=15) (d:=60) (v:=.pointer (some ⟨p,0,none⟩)) rfl hHeld ?_ ?_
     · (intro W _;go_simp)
     simp only [Act.put,List.setIfInBounds_toArray,List.set_cons_zero,List.set_cons_succ]
     refine tk1 (i:=16) (d:=61) (v:=.pointer (some ⟨p,0,none⟩)) rfl hHeld ?_ ?_
     · (intro W _;go_simp)
     simp only [Act.put,List.setIfInBounds_toArray,List.set_cons_zero,List.set_cons_succ]
     refine tk1 (i:=17) (d:=62) (v:=.pointer (some ⟨h,0,none⟩)) rfl hHeld ?_ ?_
     · (intro W hSw;have kp:=RH.ptr hSw;clear hHeld hSw;go_simp)
     simp only [Act.put,List.setIfInBounds_toArray,List.set_cons_zero,List.set_cons_succ]
     refine tk1 (i:=18) (d:=63) (v:=.int .i64 (i:Int)) rfl hHeld ?_ ?_
     · (intro W _;go_simp)
     simp only [Act.put,List.setIfInBounds_toArray,List.set_cons_zero,List.set_cons_succ]
     refine tk1 (i:=20) (d:=65) (v:=.pointer (some ⟨p,0,none⟩)) rfl hHeld ?_ ?_
     · (intro W _;go_simp)
     simp only [Act.put,List.setIfInBounds_toArray,List.set_cons_zero,List.set_cons_succ]
     refine tk1 (i:=21) (d:=66) (v:=.pointer (some ⟨p,0,none⟩)) rfl hHeld ?_ ?_
     · (intro W _;go_simp)
     simp only [Act.put,List.setIfInBounds_toArray,List.set_cons_zero,List.set_cons_succ]
     refine tk1 (i:=22) (d:=67) (v:=.pointer (some ⟨p,1,none⟩)) rfl hHeld ?_ ?_
     · (intro W _;go_simp)
     simp only [Act.put,List.setIfInBounds_toArray,List.set_cons_zero,List.set_cons_succ]
     refine wpAnyH_take (i:=23) (v:=.agg (xcells X).toArray) rfl (by kernel_rfl) (by kernel_rfl) (by kernel_rfl) (fun _ _ _ h=>h) (yieldsIf_load_mid (by rfl) _ _ rfl p 1 rfl (xcells X) _ (fun W h=>RH.range h) Tryz.underlying38 rfl (xinf X)) hHeld ?_
     try simp only [Act.put,List.getElem_toArray,List.getElem_cons_succ,List.getElem_cons_zero,List.setIfInBounds_toArray,List.set_cons_zero,List.set_cons_succ]
     refine tk1 (i:=24) (d:=69) (v:=.int .i64 (i:Int)) rfl hHeld ?_ ?_
     · (intro W _;go_simp)
     simp only [Act.put,List.setIfInBounds_toArray,List.set_cons_zero,List.set_cons_succ]
     refine wpAnyH_ready (rs:=[19]) (by kernel_rfl) (by simp) ?_
     refine AllReadyH.cons rfl (fun Kc hK=>?_) AllReadyH.nil
     have HK:=Lib.hid hK
     have HLD:=Lib.hid hHeld
     clear hK hHeld
     go_simp
     refine (MS.out _ HLD.out).mono ?_
     rintro r w9 ⟨rfl,rfl⟩
     refine HK.out.out _ _ (HLD.out) (fun hHeld=>?_)
     try simp only [Act.put,List.getElem_toArray,List.getElem_cons_succ,List.getElem_cons_zero,List.setIfInBounds_toArray,List.set_cons_zero,List.set_cons_succ]
     clear HK Kc
     clear HLD
     refine wpAnyH_ready (rs:=[25]) (by kernel_rfl) (by simp) ?_
     refine AllReadyH.cons rfl (fun Kc hK=>?_) AllReadyH.nil
     have HK:=Lib.hid hK
     have HLD:=Lib.hid hHeld
     clear hK hHeld
     go_simp
     refine (ML.out _ HLD.out).mono ?_
     rintro r w9 ⟨rfl,H9⟩
     refine HK.out.out _ _ (H9.out) (fun hHeld=>?_)
     try simp only [Act.put,List.getElem_toArray,List.getElem_cons_succ,List.getElem_cons_zero,List.setIfInBounds_toArray,List.set_cons_zero,List.set_cons_succ]
     clear HK Kc
     clear H9 HLD
     refine tk1 (i:=26) (d:=71) (v:=.bool true) rfl hHeld ?_ ?_
     · (intro W _;go_simp)
     simp only [Act.put,List.setIfInBounds_toArray,List.set_cons_zero,List.set_cons_succ]
     refine tk1 (i:=27) (d:=72) (v:=.pointer (some ⟨p,0,none⟩)) rfl hHeld ?_ ?_
     · (intro W _;go_simp)
     simp only [Act.put,List.setIfInBounds_toArray,List.set_cons_zero,List.set_cons_succ]
     refine tk1 (i:=28) (d:=73) (v:=.int .i64 (i:Int)) rfl hHeld ?_ ?_
     · (intro W _;go_simp)
     simp only [Act.put,List.setIfInBounds_toArray,List.set_cons_zero,List.set_cons_succ]
     refine tk1 (i:=29) (d:=74) (v:=.pointer (some ⟨p,0,none⟩)) rfl hHeld ?_ ?_
     · (intro W _;go_simp)
     simp only [Act.put,List.setIfInBounds_toArray,List.set_cons_zero,List.set_cons_succ]
     refine tk1 (i:=30) (d:=75) (v:=.pointer (some ⟨p,1,none⟩)) rfl hHeld ?_ ?_
     · (intro W _;go_simp)
     simp only [Act.put,List.setIfInBounds_toArray,List.set_cons_zero,List.set_cons_succ]
     refine tk1 (i:=31) (d:=76) (v:=.pointer (some ⟨p,291,none⟩)) rfl hHeld ?_ ?_
     · (intro W _;go_simp)
     simp only [Act.put,List.setIfInBounds_toArray,List.set_cons_zero,List.set_cons_succ]
     refine tk1 (i:=32) (d:=77) (v:=.pointer (some ⟨p,291+i,none⟩)) rfl hHeld ?_ ?_
     · (intro W _;go_simp)
     simp only [Act.put,List.setIfInBounds_toArray,List.set_cons_zero,List.set_cons_succ]
     refine tk1 (i:=33) (d:=78) (v:=.bool st) rfl hHeld ?_ ?_
     · (intro W hSw;have kh:=HHALT.out _ hSw;clear hHeld hSw;go_simp)
     simp only [Act.put,List.setIfInBounds_toArray,List.set_cons_zero,List.set_cons_succ]
     refine tk1 (i:=34) (d:=79) (v:=.bool st) rfl hHeld ?_ ?_
     · (intro W _;go_simp)
     simp only [Act.put,List.setIfInBounds_toArray,List.set_cons_zero,List.set_cons_succ]
     refine tk1 (i:=35) (d:=80) (v:=.bool false) rfl hHeld ?_ ?_
     · (intro W _;go_simp)
     simp only [Act.put,List.setIfInBounds_toArray,List.set_cons_zero,List.set_cons_succ]
     refine tk1 (i:=36) (d:=81) (v:=.bool false) rfl hHeld ?_ ?_
     · (intro W _;go_simp)
     simp only [Act.put,List.setIfInBounds_toArray,List.set_cons_zero,List.set_cons_succ]
     refine wpAnyH_done (by kernel_rfl) ?_ _
     have HRE:=Lib.hid hHeld
     clear hHeld
     clear HRD MO MP MS ML HHALT
     go_wp2_with fail
     refine wp_region_held_drew (S:=fun W=>RH w0 W p h S S X X K []) (by kernel_rfl) (RH.below HRE.out (Below.refl _ _).drew) (fun hHeld=>?_)
     refine tk1 (i:=0) (d:=112) (v:=.bool true) rfl hHeld ?_ ?_
     · (intro W _;go_simp)
     simp only [Act.put,List.setIfInBounds_toArray,List.set_cons_zero,List.set_cons_succ]
     refine tk1 (i:=1) (d:=113) (v:=.bool true) rfl hHeld ?_ ?_
     · (intro W _;go_simp)
     simp only [Act.put,List.setIfInBounds_toArray,List.set_cons_zero,List.set_cons_succ]
     refine tk1 (i:=2) (d:=114) (v:=.pointer (some ⟨p,0,none⟩)) rfl hHeld ?_ ?_
     · (intro W _;go_simp)
     simp only [Act.put,List.setIfInBounds_toArray,List.set_cons_zero,List.set_cons_succ]
     refine tk1 (i:=3) (d:=115) (v:=.pointer (some ⟨p,0,none⟩)) rfl hHeld ?_ ?_
     · (intro W _;go_simp)
     simp only [Act.put,List.setIfInBounds_toArray,List.set_cons_zero,List.set_cons_succ]
     refine tk1 (i:=4) (d:=116) (v:=.pointer (some ⟨p,0,none⟩)) rfl hHeld ?_ ?_
     · (intro W _;go_simp)
     simp only [Act.put,List.setIfInBounds_toArray,List.set_cons_zero,List.set_cons_succ]
     refine tk1 (i:=5) (d:=117) (v:=.pointer (some ⟨h,0,none⟩)) rfl hHeld ?_ ?_
     · (intro W hSw;have kp:=RH.ptr hSw;clear hHeld hSw;go_simp)
     simp only [Act.put,List.setIfInBounds_toArray,List.set_cons_zero,List.set_cons_succ]
     refine tk1 (i:=6) (d:=118) (v:=.int .i64 (i:Int)) rfl hHeld ?_ ?_
     · (intro W _;go_simp)
     simp only [Act.put,List.setIfInBounds_toArray,List.set_cons_zero,List.set_cons_succ]
     refine tk1 (i:=8) (d:=120) (v:=.pointer (some ⟨p,0,none⟩)) rfl hHeld ?_ ?_
     · (intro W _;go_simp)
     simp only [Act.put,List.setIfInBounds_toArray,List.set_cons_zero,List.set_cons_succ]
     refine tk1 (i:=9) (d:=121) (v:=.int .i64 (i:Int)) rfl hHeld ?_ ?_
     · (intro W _;go_simp)
     simp only [Act.put,List.setIfInBounds_toArray,List.set_cons_zero,List.set_cons_succ]
     refine tk1 (i:=10) (d:=122) (v:=.pointer (some ⟨p,0,none⟩)) rfl hHeld ?_ ?_
     · (intro W _;go_simp)
     simp only [Act.put,List.setIfInBounds_toArray,List.set_cons_zero,List.set_cons_succ]
     refine tk1 (i:=11) (d:=123) (v:=.pointer (some ⟨p,1,none⟩)) rfl hHeld ?_ ?_
     · (intro W _;go_simp)
     simp only [Act.put,List.setIfInBounds_toArray,List.set_cons_zero,List.set_cons_succ]
     refine tk1 (i:=12) (d:=124) (v:=.pointer (some ⟨p,3,none⟩)) rfl hHeld ?_ ?_
     · (intro W _;go_simp)
     simp only [Act.put,List.setIfInBounds_toArray,List.set_cons_zero,List.set_cons_succ]
     refine tk1 (i:=13) (d:=125) (v:=.pointer (some ⟨p,3+i*4,none⟩)) rfl hHeld ?_ ?_
     · (intro W _;go_simp)
     simp only [Act.put,List.setIfInBounds_toArray,List.set_cons_zero,List.set_cons_succ]
     refine tk1 (i:=14) (d:=126) (v:=rqV A n c cu mn ov) rfl hHeld ?_ ?_
     · (intro W hSw;obtain ⟨k0,k1,k2,k3⟩:=HQC.out _ hSw;clear hHeld hSw;go_simp)
     simp only [Act.put,List.setIfInBounds_toArray,List.set_cons_zero,List.set_cons_succ]
     refine wpAnyH_ready (rs:=[7]) (by kernel_rfl) (by simp) ?_
     refine AllReadyH.cons rfl (fun Kc hK=>?_) AllReadyH.nil
     have HK:=Lib.hid hK
     have HLD:=Lib.hid hHeld
     clear hK hHeld
     go_simp
     refine (ME.out _ HLD.out).mono ?_
     rintro r w5 ⟨A5,c5,rfl,H5⟩
     refine HK.out.out _ _ (H5.out.2.2) (fun hHeld=>?_)
     try simp only [Act.put,List.getElem_toArray,List.getElem_cons_succ,List.getElem_cons_zero,List.setIfInBounds_toArray,List.set_cons_zero,List.set_cons_succ]
     clear HK Kc
     clear HLD
     refine wpAnyH_ready (rs:=[15]) (by kernel_rfl) (by simp) ?_
     refine AllReadyH.cons rfl (fun Kc hK=>?_) AllReadyH.nil
     have HK:=Lib.hid hK
     have HLD:=Lib.hid hHeld
     clear hK hHeld
     go_simp
     refine (MN.out _ HLD.out).mono ?_
     rintro r w6 ⟨A6,c6,rfl,H6⟩
     refine HK.out.out _ _ (H6.out.2.2) (fun hHeld=>?_)
     try simp only [Act.put,List.getElem_toArray,List.getElem_cons_succ,List.getElem_cons_zero,List.setIfInBounds_toArray,List.set_cons_zero,List.set_cons_succ]
     clear HK Kc
     clear HLD
     refine wpAnyH_ready (rs:=[16]) (by kernel_rfl) (by simp) ?_
     refine AllReadyH.cons rfl (fun Kc hK=>?_) AllReadyH.nil
     have HK:=Lib.hid hK
     have HLD:=Lib.hid hHeld
     clear hK hHeld
     go_simp
     refine (MSA.out _ A5 A6 c5 c6 ((H5.out.1.below H6.out.2.1).mono H6.out.2.1.size) H6.out.1).mono ?_
     rintro r w9 ⟨rfl,hb9⟩
     refine HK.out.out _ _ (RH.below HLD.out hb9) (fun hHeld=>?_)
     try simp only [Act.put,List.getElem_toArray,List.getElem_cons_succ,List.getElem_cons_zero,List.setIfInBounds_toArray,List.set_cons_zero,List.set_cons_succ]
     clear HK Kc
     clear H5 H6 HLD hb9
     refine tk1 (i:=17) (d:=129) (v:=.bool false) rfl hHeld ?_ ?_
     · (intro W _;go_simp)
     simp only [Act.put,List.setIfInBounds_toArray,List.set_cons_zero,List.set_cons_succ]
     refine tk1 (i:=18) (d:=130) (v:=.bool false) rfl hHeld ?_ ?_
     · (intro W _;go_simp)
     simp only [Act.put,List.setIfInBounds_toArray,List.set_cons_zero,List.set_cons_succ]
     refine tk1 (i:=19) (d:=131) (v:=.pointer (some ⟨p,0,none⟩)) rfl hHeld ?_ ?_
     · (intro W _;go_simp)
     simp only [Act.put,List.setIfInBounds_toArray,List.set_cons_zero,List.set_cons_succ]
     refine tk1 (i:=20) (d:=132) (v:=.pointer (some ⟨p,0,none⟩)) rfl hHeld ?_ ?_
     · (intro W _;go_simp)
     simp only [Act.put,List.setIfInBounds_toArray,List.set_cons_zero,List.set_cons_succ]
     refine tk1 (i:=21) (d:=133) (v:=.pointer (some ⟨p,0,none⟩)) rfl hHeld ?_ ?_
     · (intro W _;go_simp)
     simp only [Act.put,List.setIfInBounds_toArray,List.set_cons_zero,List.set_cons_succ]
     refine tk1 (i:=22) (d:=134) (v:=.pointer (some ⟨h,0,none⟩)) rfl hHeld ?_ ?_
     · (intro W hSw;have kp:=RH.ptr hSw;clear hHeld hSw;go_simp)
     simp only [Act.put,List.setIfInBounds_toArray,List.set_cons_zero,List.set_cons_succ]
     refine tk1 (i:=23) (d:=135) (v:=.int .i64 (i:Int)) rfl hHeld ?_ ?_
     · (intro W _;go_simp)
     simp only [Act.put,List.setIfInBounds_toArray,List.set_cons_zero,List.set_cons_succ]
     refine tk1 (i:=25) (d:=137) (v:=.pointer (some ⟨p,0,none⟩)) rfl hHeld ?_ ?_
     · (intro W _;go_simp)
     simp only [Act.put,List.setIfInBounds_toArray,List.set_cons_zero,List.set_cons_succ]
     refine tk1 (i:=26) (d:=138) (v:=.int .i64 (i:Int)) rfl hHeld ?_ ?_
     · (intro W _;go_simp)
     simp only [Act.put,List.setIfInBounds_toArray,List.set_cons_zero,List.set_cons_succ]
     refine tk1 (i:=27) (d:=139) (v:=.pointer (some ⟨p,0,none⟩)) rfl hHeld ?_ ?_
     · (intro W _;go_simp)
     simp only [Act.put,List.setIfInBounds_toArray,List.set_cons_zero,List.set_cons_succ]
     refine tk1 (i:=28) (d:=140) (v:=.pointer (some ⟨p,1,none⟩)) rfl hHeld ?_ ?_
     · (intro W _;go_simp)
     simp only [Act.put,List.setIfInBounds_toArray,List.set_cons_zero,List.set_cons_succ]
     refine tk1 (i:=29) (d:=141) (v:=.pointer (some ⟨p,3,none⟩)) rfl hHeld ?_ ?_
     · (intro W _;go_simp)
     simp only [Act.put,List.setIfInBounds_toArray,List.set_cons_zero,List.set_cons_succ]
     refine tk1 (i:=30) (d:=142) (v:=.pointer (some ⟨p,3+i*4,none⟩)) rfl hHeld ?_ ?_
     · (intro W _;go_simp)
     simp only [Act.put,List.setIfInBounds_toArray,List.set_cons_zero,List.set_cons_succ]
     refine tk1 (i:=31) (d:=143) (v:=.pointer (some ⟨p,3+i*4+2,none⟩)) rfl hHeld ?_ ?_
     · (intro W _;go_simp)
     simp only [Act.put,List.setIfInBounds_toArray,List.set_cons_zero,List.set_cons_succ]
     refine tk1 (i:=32) (d:=144) (v:=.int .i64 mn) rfl hHeld ?_ ?_
     · (intro W hSw;obtain ⟨k0,k1,k2,k3⟩:=HQC.out _ hSw;clear hHeld hSw;go_simp)
     simp only [Act.put,List.setIfInBounds_toArray,List.set_cons_zero,List.set_cons_succ]
     refine wpAnyH_ready (rs:=[24]) (by kernel_rfl) (by simp) ?_
     refine AllReadyH.cons rfl (fun Kc hK=>?_) AllReadyH.nil
     have HK:=Lib.hid hK
     have HLD:=Lib.hid hHeld
     clear hK hHeld
     go_simp
     refine (MM.out _ HLD.out).mono ?_
     rintro r w9 ⟨rfl,rfl⟩
     refine HK.out.out _ _ (HLD.out) (fun hHeld=>?_)
     try simp only [Act.put,List.getElem_toArray,List.getElem_cons_succ,List.getElem_cons_zero,List.setIfInBounds_toArray,List.set_cons_zero,List.set_cons_succ]
     clear HK Kc
     clear HLD
     refine tk1 (i:=33) (d:=145) (v:=.bool false) rfl hHeld ?_ ?_
     · (intro W _;go_simp)
     simp only [Act.put,List.setIfInBounds_toArray,List.set_cons_zero,List.set_cons_succ]
     refine tk1 (i:=34) (d:=146) (v:=.bool false) rfl hHeld ?_ ?_
     · (intro W _;go_simp)
     simp only [Act.put,List.setIfInBounds_toArray,List.set_cons_zero,List.set_cons_succ]
     refine tk1 (i:=35) (d:=147) (v:=.bool false) rfl hHeld ?_ ?_
     · (intro W _;go_simp)
     simp only [Act.put,List.setIfInBounds_toArray,List.set_cons_zero,List.set_cons_succ]
     refine tk1 (i:=36) (d:=148) (v:=.pointer (some ⟨p,0,none⟩)) rfl hHeld ?_ ?_
     · (intro W _;go_simp)
     simp only [Act.put,List.setIfInBounds_toArray,List.set_cons_zero,List.set_cons_succ]
     refine tk1 (i:=37) (d:=149) (v:=.pointer (some ⟨p,0,none⟩)) rfl hHeld ?_ ?_
     · (intro W _;go_simp)
     simp only [Act.put,List.setIfInBounds_toArray,List.set_cons_zero,List.set_cons_succ]
     refine tk1 (i:=38) (d:=150) (v:=.pointer (some ⟨p,0,none⟩)) rfl hHeld ?_ ?_
     · (intro W _;go_simp)
     simp only [Act.put,List.setIfInBounds_toArray,List.set_cons_zero,List.set_cons_succ]
     refine tk1 (i:=39) (d:=151) (v:=.pointer (some ⟨h,0,none⟩)) rfl hHeld ?_ ?_
     · (intro W hSw;have kp:=RH.ptr hSw;clear hHeld hSw;go_simp)
     simp only [Act.put,List.setIfInBounds_toArray,List.set_cons_zero,List.set_cons_succ]
     refine tk1 (i:=40) (d:=152) (v:=.int .i64 (i:Int)) rfl hHeld ?_ ?_
     · (intro W _;go_simp)
     simp only [Act.put,List.setIfInBounds_toArray,List.set_cons_zero,List.set_cons_succ]
     refine tk1 (i:=42) (d:=154) (v:=.pointer (some ⟨p,0,none⟩)) rfl hHeld ?_ ?_
     · (intro W _;go_simp)
     simp only [Act.put,List.setIfInBounds_toArray,List.set_cons_zero,List.set_cons_succ]
     refine tk1 (i:=43) (d:=155) (v:=.int .i64 (i:Int)) rfl hHeld ?_ ?_
     · (intro W _;go_simp)
     simp only [Act.put,List.setIfInBounds_toArray,List.set_cons_zero,List.set_cons_succ]
     refine tk1 (i:=44) (d:=156) (v:=.pointer (some ⟨p,0,none⟩)) rfl hHeld ?_ ?_
     · (intro W _;go_simp)
     simp only [Act.put,List.setIfInBounds_toArray,List.set_cons_zero,List.set_cons_succ]
     refine tk1 (i:=45) (d:=157) (v:=.pointer (some ⟨p,1,none⟩)) rfl hHeld ?_ ?_
     · (intro W _;go_simp)
     simp only [Act.put,List.setIfInBounds_toArray,List.set_cons_zero,List.set_cons_succ]
     refine tk1 (i:=46) (d:=158) (v:=.pointer (some ⟨p,3,none⟩)) rfl hHeld ?_ ?_
     · (intro W _;go_simp)
     simp only [Act.put,List.setIfInBounds_toArray,List.set_cons_zero,List.set_cons_succ]
     refine tk1 (i:=47) (d:=159) (v:=.pointer (some ⟨p,3+i*4,none⟩)) rfl hHeld ?_ ?_
     · (intro W _;go_simp)
     simp only [Act.put,List.setIfInBounds_toArray,List.set_cons_zero,List.set_cons_succ]
     refine tk1 (i:=48) (d:=160) (v:=rqV A n c cu mn ov) rfl hHeld ?_ ?_
     · (intro W hSw;obtain ⟨k0,k1,k2,k3⟩:=HQC.out _ hSw;clear hHeld hSw;go_simp)
     simp only [Act.put,List.setIfInBounds_toArray,List.set_cons_zero,List.set_cons_succ]
     refine wpAnyH_ready (rs:=[41]) (by kernel_rfl) (by simp) ?_
     refine AllReadyH.cons rfl (fun Kc hK=>?_) AllReadyH.nil
     have HK:=Lib.hid hK
     have HLD:=Lib.hid hHeld
     clear hK hHeld
     go_simp
     refine (MD.out _ HLD.out).mono ?_
     rintro r w9 ⟨rfl,rfl⟩
     refine HK.out.out _ _ (HLD.out) (fun hHeld=>?_)
     try simp only [Act.put,List.getElem_toArray,List.getElem_cons_succ,List.getElem_cons_zero,List.setIfInBounds_toArray,List.set_cons_zero,List.set_cons_succ]
     clear HK Kc
     clear HLD
     refine wpAnyH_ready (rs:=[49]) (by kernel_rfl) (by simp) ?_
     refine AllReadyH.cons rfl (fun Kc hK=>?_) AllReadyH.nil
     have HK:=Lib.hid hK
     have HLD:=Lib.hid hHeld
     clear hK hHeld
     go_simp
     refine (MY.out _ HLD.out).mono ?_
     rintro r w9 ⟨rfl,H9⟩
     refine HK.out.out _ _ (H9.out) (fun hHeld=>?_)
     try simp only [Act.put,List.getElem_toArray,List.getElem_cons_succ,List.getElem_cons_zero,List.setIfInBounds_toArray,List.set_cons_zero,List.set_cons_succ]
     clear HK Kc
     clear H9 HLD
     refine tk1 (i:=50) (d:=162) (v:=.bool false) rfl hHeld ?_ ?_
     · (intro W _;go_simp)
     simp only [Act.put,List.setIfInBounds_toArray,List.set_cons_zero,List.set_cons_succ]
     refine tk1 (i:=51) (d:=163) (v:=.bool false) rfl hHeld ?_ ?_
     · (intro W _;go_simp)
     simp only [Act.put,List.setIfInBounds_toArray,List.set_cons_zero,List.set_cons_succ]
     refine tk1 (i:=52) (d:=164) (v:=.bool false) rfl hHeld ?_ ?_
     · (intro W _;go_simp)
     simp only [Act.put,List.setIfInBounds_toArray,List.set_cons_zero,List.set_cons_succ]
     refine wpAnyH_done (by kernel_rfl) ?_ _
     have HRF:=Lib.hid hHeld
     clear hHeld
     clear HRE
     go_wp2_with fail
     go_roundw
     case rel=>exact ⟨(i:Int)+1,by omega,by have:=HLT.out;omega,by go_num,HRF⟩
     case measure=>simp [intOf];have:=HLT.out;omega
  ·
   obtain rfl:g=33:=by omega
   clear MT
   go_wp2_with fail
   go_ret
   exact ⟨rfl,HRC⟩
end
end Go.Proofs.YtefekboacghnjaaGreat
