/-
  rbtree.Compare, height, skew, split: what they do.
  Trees of keys: what stays when a part of one is put in another one's place. Plain Lean, and skew and split in that form.
  rbtree.settled: a node below which one was taken away.
-/
import Derived.Test.YtefekboacghnjaaGreatMa
import Derived.Deep.QuietTactic
import Derived.BigQuiet
import Derived.StillTailTactics
import Derived.Deep.RegionWith
namespace Go.Proofs.YtefekboacghnjaaGreat
open Go.RowKit
def keyLt (a b:Int × Int):Prop:=a.1<b.1∨a.1=b.1∧a.2<b.2
instance (a b:Int × Int):Decidable (keyLt a b):=by unfold keyLt;infer_instance
def cmpK (a b:Int × Int):Int:=if a=b then 0 else if keyLt a b then -1 else 1
abbrev keyV (a:Int × Int):Value:=.agg #[.int .i64 a.1,.int .i64 a.2]
set_option maxRecDepth 100000 in
theorem compare_any (v i v' i':Int) (w:World) :
  Calls Tryz.prog 133 #[keyV (v,i),keyV (v',i')] w fun e w'=>e=.returned (.int .i64 (cmpK (v,i) (v',i')))∧Below w.heap.size w w':=by
 have hB0:Below w.heap.size w ((w.alloc (.cells #[.int .i64 v,.int .i64 i] 123)).alloc (.cells #[.int .i64 v',.int .i64 i'] 123)):=((Below.refl _ _).alloc (Nat.le_refl _) _).alloc (by simp) _
 by_cases hv:v=v'
 ·
  subst hv
  by_cases hi:i=i'
  ·
   subst hi
   have e:cmpK (v,i) (v,i)=0:=if_pos rfl
   rw [e]
   clear e
   go_enter Tryz.func133,Tryz.ntmps133
   go_wp2_with fail
   go_ret
   exact ⟨rfl,hB0⟩
  ·
   have e:cmpK (v,i) (v,i')=if i<i' then -1 else 1:=by
    unfold cmpK
    rw [if_neg (by simp [hi])]
    simp [keyLt]
   rw [e]
   have t1:(i == i')=false:=by simp [hi]
   have t2:decide (v<v)=false:=by simp
   by_cases hl:i<i'
   ·
    rw [if_pos hl]
    have t3:decide (i<i')=true:=decide_eq_true hl
    clear e hi
    go_enter Tryz.func133,Tryz.ntmps133
    go_wp2_with fail
    go_ret
    exact ⟨rfl,hB0⟩
   ·
    rw [if_neg hl]
    have t3:decide (i<i')=false:=decide_eq_false hl
    clear e hi
    go_enter Tryz.func133,Tryz.ntmps133
    go_wp2_with fail
    go_ret
    exact ⟨rfl,hB0⟩
 ·
  have e:cmpK (v,i) (v',i')=if v<v' then -1 else 1:=by
   unfold cmpK
   rw [if_neg (by simp [hv])]
   simp [keyLt,hv]
  rw [e]
  have t1:(v == v')=false:=by simp [hv]
  by_cases hl:v<v'
  ·
   rw [if_pos hl]
   have t3:decide (v<v')=true:=decide_eq_true hl
   clear e hv
   go_enter Tryz.func133,Tryz.ntmps133
   go_wp2_with fail
   go_ret
   exact ⟨rfl,hB0⟩
  ·
   rw [if_neg hl]
   have t3:decide (v<v')=false:=decide_eq_false hl
   clear e hv
   go_enter Tryz.func133,Tryz.ntmps133
   go_wp2_with fail
   go_ret
   exact ⟨rfl,hB0⟩
theorem Blk.node {w:World} {b:Nat} {v i lev:Int} {l r:Option Addr} {t:TypeId} (h:Blk w b (nodeCells v i lev l r) t) :
  w.cell? ⟨b,0,none⟩=some (.int .i64 v)∧w.cell? ⟨b,1,none⟩=some (.int .i64 i)∧w.cell? ⟨b,2,none⟩=some (.int .i64 lev)∧w.cell? ⟨b,3,none⟩=some (.pointer l)∧w.cell? ⟨b,4,none⟩=some (.pointer r)∧∀ j,w.frozen? ⟨b,j,none⟩=false :=
 ⟨Blk.cell h 0,Blk.cell h 1,Blk.cell h 2,Blk.cell h 3,Blk.cell h 4,Blk.frozen h⟩
theorem height_any (t:Tr) (w:World) (h:IsTr 172 w t) :
  Calls Tryz.prog 144 #[.pointer t.ptr] w fun e w'=>e=.returned (.int .i64 t.lev)∧w=w':=by
 cases t with
 | nil =>
  show Calls _ _ #[.pointer none] _ fun e w'=>e=.returned (.int .i64 0)∧w=w'
  go_enter Tryz.func144,Tryz.ntmps144
  go_wp2_with fail
  go_ret
  exact ⟨rfl,rfl⟩
 | node b l v i lev r =>
  obtain ⟨c0,c1,c2,c3,c4,cf⟩:=h.1.node
  clear h
  show Calls _ _ #[.pointer (some ⟨b,0,none⟩)] _ fun e w'=>e=.returned (.int .i64 lev)∧w=w'
  go_enter Tryz.func144,Tryz.ntmps144
  go_wp2_with fail
  go_ret
  exact ⟨rfl,rfl⟩
theorem quiet_left {P:Program} {f:FuncId} {args:Array Value} {w:World} {n:Nat} {v:Value}
  (h:Calls P f args (w.drewN n) fun e w'=>e=.returned v∧w.drewN n=w'):Calls P f args (w.drewN n) fun e w''=>e=.returned v∧∃ m,w''=w.drewN m :=
 h.mono fun _ _ ⟨he,hm⟩=>⟨he,n,hm.symm⟩
def Turned (T:TypeId) (t:Tr) (S:List Nat) (w:World) (e:Ending) (w':World):Prop:=e=.returned (.pointer t.ptr)∧IsTr T w' t∧Turns S w w'
theorem skew_end {T:TypeId} {w:World} {b bl:Nat} {v i lev vl il levl:Int} {ll rl r:Tr} (hb:Blk w b (nodeCells v i lev (some ⟨bl,0,none⟩) r.ptr) T) (hbl:Blk w bl (nodeCells vl il levl ll.ptr rl.ptr) T)
  (hll:IsTr T w ll) (hrl:IsTr T w rl) (hr:IsTr T w r) (hd:(Tr.node b (.node bl ll vl il levl rl) v i lev r).blocks.Nodup) (n:Nat) :
  Turned T (.node bl ll vl il levl (.node b rl v i lev r)) (Tr.node b (.node bl ll vl il levl rl) v i lev r).blocks w (.returned (.pointer (some ⟨bl,0,none⟩)))
   (((w.setCell ⟨b,3,none⟩ (.pointer rl.ptr)).setCell ⟨bl,4,none⟩ (.pointer (some ⟨b,0,none⟩))).drewN n):=by
 simp only [Tr.blocks,List.nodup_cons,List.nodup_append,List.mem_append,List.mem_cons] at hd
 have n1:b≠bl:=fun h=>hd.1 (by simp [h])
 have b1:b ∉ ll.blocks:=fun h=>hd.1 (by simp [h])
 have b2:b ∉ rl.blocks:=fun h=>hd.1 (by simp [h])
 have b3:b ∉ r.blocks:=fun h=>hd.1 (by simp [h])
 have d1:bl ∉ ll.blocks:=fun h=>hd.2.1.1 (by simp [h])
 have d2:bl ∉ rl.blocks:=fun h=>hd.2.1.1 (by simp [h])
 have d3:bl ∉ r.blocks:=fun h=>hd.2.2.2 bl (by simp) bl h rfl
 have h1:Blk (w.setCell ⟨b,3,none⟩ (.pointer rl.ptr)) b (nodeCells v i lev rl.ptr r.ptr) T:=Blk.set hb 3 (.pointer rl.ptr)
 have h2:Blk ((w.setCell ⟨b,3,none⟩ (.pointer rl.ptr)).setCell ⟨bl,4,none⟩ (.pointer (some ⟨b,0,none⟩))) b (nodeCells v i lev rl.ptr r.ptr) T:=h1.other _ n1
 have g1:Blk (w.setCell ⟨b,3,none⟩ (.pointer rl.ptr)) bl (nodeCells vl il levl ll.ptr rl.ptr) T:=hbl.other _ (Ne.symm n1)
 have g2:Blk ((w.setCell ⟨b,3,none⟩ (.pointer rl.ptr)).setCell ⟨bl,4,none⟩ (.pointer (some ⟨b,0,none⟩))) bl (nodeCells vl il levl ll.ptr (some ⟨b,0,none⟩)) T:=Blk.set g1 4 (.pointer (some ⟨b,0,none⟩))
 refine ⟨rfl,⟨g2.drewN n,((hll.setCell _ b1).setCell _ d1).drewN n,h2.drewN n,((hrl.setCell _ b2).setCell _ d2).drewN n,((hr.setCell _ b3).setCell _ d3).drewN n⟩,?_⟩
 refine (((Turns.refl _ _).setCell (.inl ?_) _).setCell (.inl ?_) _).drewN n
 · simp [Tr.blocks]
 · simp [Tr.blocks]
set_option maxRecDepth 100000 in
set_option maxHeartbeats 1000000 in
theorem skew_any (t:Tr) (w:World) (h:IsTr 172 w t) (hd:t.blocks.Nodup) (hp:t≠.nil→1≤t.lev) :
  Calls Tryz.prog 135 #[.pointer t.ptr] w (Turned 172 (skewT t) t.blocks w):=by
 cases t with
 | nil =>
  show Calls _ _ #[.pointer none] _ (Turned _ .nil [] w)
  clear h hd hp
  go_enter Tryz.func135,Tryz.ntmps135
  go_wp2_with fail
  go_big_quiet (fail)
  go_wp2_with fail
  go_ret
  exact ⟨rfl,trivial,(Turns.refl _ _).drewN _⟩
 | node b l v i lev r =>
  have hp1:1≤lev:=hp (by simp)
  obtain ⟨hb,hl,hr⟩:=h
  obtain ⟨c0,c1,c2,c3,c4,cf⟩:=hb.node
  show Calls _ _ #[.pointer (some ⟨b,0,none⟩)] _ _
  cases l with
  | nil =>
   have z0:((0:Int) != lev)=true:=by rw [bne_iff_ne];omega
   have c3':w.cell? ⟨b,3,none⟩=some (.pointer none):=c3
   have M1:=Lib.hid (show ∀ W,Calls Tryz.prog 144 #[.pointer none] W fun e w'=>e=.returned (.int .i64 0)∧W=w' from fun W=>height_any .nil W trivial)
   have HB:=Lib.hid hb
   have HR:=Lib.hid hr
   clear hb hl hr hd hp c3
   go_enter Tryz.func135,Tryz.ntmps135
   go_wp2_with fail
   go_big_quiet ((go_at_call 144;exact quiet_left (M1.out _)))
   go_wp2_with fail
   go_ret
   exact ⟨rfl,⟨HB.out.drewN _,trivial,HR.out.drewN _⟩,(Turns.refl _ _).drewN _⟩
  | node bl ll vl il levl rl =>
   have M1:=Lib.hid (show ∀ W,IsTr 172 W (.node bl ll vl il levl rl)→Calls Tryz.prog 144 #[.pointer (some ⟨bl,0,none⟩)] W fun e w'=>e=.returned (.int .i64 levl)∧W=w' from fun W hW=>height_any (.node bl ll vl il levl rl) W hW)
   have c3':w.cell? ⟨b,3,none⟩=some (.pointer (some ⟨bl,0,none⟩)):=c3
   have HB:=Lib.hid hb
   have HR:=Lib.hid hr
   have HL:=Lib.hid hl
   by_cases e:levl=lev
   ·
    subst e
    obtain ⟨hbl,hll,hrl⟩:=hl
    obtain ⟨d0,d1,d2,d3,d4,df⟩:=hbl.node
    have t1:(levl != levl)=false:=by simp
    have fin:=skew_end hb hbl hll hrl hr hd
    have FIN:=Lib.hid fin
    rw [skew_yes rfl]
    clear fin hb hbl hll hrl hr hd hp c3
    go_enter Tryz.func135,Tryz.ntmps135
    go_wp2_with fail
    go_big_quiet ((go_at_call 144;exact quiet_left (M1.out _ (HL.out.drewN _))))
    go_wp2_with fail
    go_ret
    exact FIN.out _
   ·
    have t1:(levl != lev)=true:=by rw [bne_iff_ne];exact e
    rw [skew_no e]
    clear hb hl hr hd hp c3 e
    go_enter Tryz.func135,Tryz.ntmps135
    go_wp2_with fail
    go_big_quiet ((go_at_call 144;exact quiet_left (M1.out _ (HL.out.drewN _))))
    go_wp2_with fail
    go_ret
    exact ⟨rfl,⟨HB.out.drewN _,HL.out.drewN _,HR.out.drewN _⟩,(Turns.refl _ _).drewN _⟩
theorem split_end {T:TypeId} {w:World} {b br b2:Nat} {v i lev vr ir levr v2 i2 lev2:Int} {l lr l2 r2:Tr} (hb:Blk w b (nodeCells v i lev l.ptr (some ⟨br,0,none⟩)) T) (hbr:Blk w br (nodeCells vr ir levr lr.ptr (some ⟨b2,0,none⟩)) T)
  (hl:IsTr T w l) (hlr:IsTr T w lr) (hr2:IsTr T w (.node b2 l2 v2 i2 lev2 r2)) (hd:(Tr.node b l v i lev (.node br lr vr ir levr (.node b2 l2 v2 i2 lev2 r2))).blocks.Nodup) (n:Nat) :
  Turned T (.node br (.node b l v i lev lr) vr ir (levr+1) (.node b2 l2 v2 i2 lev2 r2)) (Tr.node b l v i lev (.node br lr vr ir levr (.node b2 l2 v2 i2 lev2 r2))).blocks w (.returned (.pointer (some ⟨br,0,none⟩)))
   ((((w.setCell ⟨b,4,none⟩ (.pointer lr.ptr)).setCell ⟨br,3,none⟩ (.pointer (some ⟨b,0,none⟩))).setCell ⟨br,2,none⟩ (.int .i64 (levr+1))).drewN n):=by
 generalize hR:Tr.node b2 l2 v2 i2 lev2 r2=R at *
 have hRp:R.ptr=some ⟨b2,0,none⟩:=by rw [← hR];rfl
 rw [← hRp] at hbr
 clear hR hRp
 simp only [Tr.blocks,List.nodup_cons,List.nodup_append,List.mem_append,List.mem_cons] at hd
 have n1:b≠br:=fun h=>hd.1 (by simp [h])
 have b1:b ∉ l.blocks:=fun h=>hd.1 (by simp [h])
 have b2:b ∉ lr.blocks:=fun h=>hd.1 (by simp [h])
 have b3:b ∉ R.blocks:=fun h=>hd.1 (by simp [h])
 have d1:br ∉ l.blocks:=fun h=>hd.2.2.2 br h br (by simp) rfl
 have d2:br ∉ lr.blocks:=fun h=>hd.2.2.1.1 (by simp [h])
 have d3:br ∉ R.blocks:=fun h=>hd.2.2.1.1 (by simp [h])
 have h1:Blk (w.setCell ⟨b,4,none⟩ (.pointer lr.ptr)) b (nodeCells v i lev l.ptr lr.ptr) T:=Blk.set hb 4 (.pointer lr.ptr)
 have h2:Blk ((w.setCell ⟨b,4,none⟩ (.pointer lr.ptr)).setCell ⟨br,3,none⟩ (.pointer (some ⟨b,0,none⟩))) b (nodeCells v i lev l.ptr lr.ptr) T:=h1.other _ n1
 have h3:Blk (((w.setCell ⟨b,4,none⟩ (.pointer lr.ptr)).setCell ⟨br,3,none⟩ (.pointer (some ⟨b,0,none⟩))).setCell ⟨br,2,none⟩ (.int .i64 (levr+1))) b (nodeCells v i lev l.ptr lr.ptr) T:=h2.other _ n1
 have g1:Blk (w.setCell ⟨b,4,none⟩ (.pointer lr.ptr)) br (nodeCells vr ir levr lr.ptr R.ptr) T:=hbr.other _ (Ne.symm n1)
 have g2:Blk ((w.setCell ⟨b,4,none⟩ (.pointer lr.ptr)).setCell ⟨br,3,none⟩ (.pointer (some ⟨b,0,none⟩))) br (nodeCells vr ir levr (some ⟨b,0,none⟩) R.ptr) T:=Blk.set g1 3 (.pointer (some ⟨b,0,none⟩))
 have g3:Blk (((w.setCell ⟨b,4,none⟩ (.pointer lr.ptr)).setCell ⟨br,3,none⟩ (.pointer (some ⟨b,0,none⟩))).setCell ⟨br,2,none⟩ (.int .i64 (levr+1))) br (nodeCells vr ir (levr+1) (some ⟨b,0,none⟩) R.ptr) T:=Blk.set g2 2 (.int .i64 (levr+1))
 refine ⟨rfl,⟨g3.drewN n,⟨h3.drewN n,(((hl.setCell _ b1).setCell _ d1).setCell _ d1).drewN n,(((hlr.setCell _ b2).setCell _ d2).setCell _ d2).drewN n⟩,(((hr2.setCell _ b3).setCell _ d3).setCell _ d3).drewN n⟩,?_⟩
 refine ((((Turns.refl _ _).setCell (.inl ?_) _).setCell (.inl ?_) _).setCell (.inl ?_) _).drewN n
 all_goals simp [Tr.blocks]
set_option maxRecDepth 100000 in
set_option maxHeartbeats 2000000 in
theorem split_any (t:Tr) (w:World) (h:IsTr 172 w t) (hd:t.blocks.Nodup) (hp:t≠.nil→1≤t.lev) (hq1:0≤t.rt.lev) (hq:t.rt.lev≤9223372036854775806) :
  Calls Tryz.prog 134 #[.pointer t.ptr] w (Turned 172 (splitT t) t.blocks w):=by
 cases t with
 | nil =>
  show Calls _ _ #[.pointer none] _ (Turned _ .nil [] w)
  clear h hd hp hq hq1
  go_enter Tryz.func134,Tryz.ntmps134
  go_wp2_with fail
  go_big_quiet (fail)
  go_wp2_with fail
  go_ret
  exact ⟨rfl,trivial,(Turns.refl _ _).drewN _⟩
 | node b l v i lev r =>
  have hp1:1≤lev:=hp (by simp)
  obtain ⟨hb,hl,hr⟩:=h
  obtain ⟨c0,c1,c2,c3,c4,cf⟩:=hb.node
  show Calls _ _ #[.pointer (some ⟨b,0,none⟩)] _ _
  cases r with
  | nil =>
   have c4':w.cell? ⟨b,4,none⟩=some (.pointer none):=c4
   have HB:=Lib.hid hb
   have HL:=Lib.hid hl
   show Calls _ _ _ _ (Turned _ (.node b l v i lev .nil) _ w)
   clear hb hl hr hd hp c4 hq hq1
   go_enter Tryz.func134,Tryz.ntmps134
   go_wp2_with fail
   go_big_quiet (fail)
   go_wp2_with fail
   go_ret
   exact ⟨rfl,⟨HB.out.drewN _,HL.out.drewN _,trivial⟩,(Turns.refl _ _).drewN _⟩
  | node br lr vr ir levr r2 =>
   have c4':w.cell? ⟨b,4,none⟩=some (.pointer (some ⟨br,0,none⟩)):=c4
   obtain ⟨hbr,hlr,hr2⟩:=hr
   obtain ⟨d0,d1,d2,d3,d4,df⟩:=hbr.node
   have HB:=Lib.hid hb
   have HL:=Lib.hid hl
   have HBR:=Lib.hid hbr
   have HLR:=Lib.hid hlr
   have HR2:=Lib.hid hr2
   have qa:0≤levr:=hq1
   have qb:levr≤9223372036854775806:=hq
   cases r2 with
   | nil =>
    have M1:=Lib.hid (show ∀ W,Calls Tryz.prog 144 #[.pointer none] W fun e w'=>e=.returned (.int .i64 0)∧W=w' from fun W=>height_any .nil W trivial)
    have d4':w.cell? ⟨br,4,none⟩=some (.pointer none):=d4
    have z0:((0:Int) != lev)=true:=by rw [bne_iff_ne];omega
    show Calls _ _ _ _ (Turned _ (.node b l v i lev (.node br lr vr ir levr .nil)) _ w)
    clear hb hl hbr hlr hr2 hd hp c4 d4 hq hq1
    go_enter Tryz.func134,Tryz.ntmps134
    go_wp2_with fail
    go_big_quiet ((go_at_call 144;exact quiet_left (M1.out _)))
    go_wp2_with fail
    go_ret
    exact ⟨rfl,⟨HB.out.drewN _,HL.out.drewN _,HBR.out.drewN _,HLR.out.drewN _,trivial⟩,(Turns.refl _ _).drewN _⟩
   | node b2 l2 v2 i2 lev2 r2 =>
    have M1:=Lib.hid (show ∀ W,IsTr 172 W (.node b2 l2 v2 i2 lev2 r2)→Calls Tryz.prog 144 #[.pointer (some ⟨b2,0,none⟩)] W fun e w'=>e=.returned (.int .i64 lev2)∧W=w' from fun W hW=>height_any (.node b2 l2 v2 i2 lev2 r2) W hW)
    have d4':w.cell? ⟨br,4,none⟩=some (.pointer (some ⟨b2,0,none⟩)):=d4
    by_cases e:lev2=lev
    ·
     subst e
     have t1:(lev2 != lev2)=false:=by simp
     have nbr:b≠br:=by
      simp only [Tr.blocks,List.nodup_cons] at hd
      exact fun h=>hd.1 (by simp [h])
     have FIN:=Lib.hid (split_end hb hbr hl hlr hr2 hd)
     rw [split_yes rfl]
     clear hb hl hbr hlr hr2 hd hp c4 d4 hq hq1
     go_enter Tryz.func134,Tryz.ntmps134
     go_wp2_with fail
     go_big_quiet ((go_at_call 144;exact quiet_left (M1.out _ (HR2.out.drewN _))))
     go_wp2_with fail
     go_ret
     exact FIN.out _
    ·
     have t1:(lev2 != lev)=true:=by rw [bne_iff_ne];exact e
     rw [split_no e]
     clear hb hl hbr hlr hr2 hd hp c4 d4 e hq hq1
     go_enter Tryz.func134,Tryz.ntmps134
     go_wp2_with fail
     go_big_quiet ((go_at_call 144;exact quiet_left (M1.out _ (HR2.out.drewN _))))
     go_wp2_with fail
     go_ret
     exact ⟨rfl,⟨HB.out.drewN _,HL.out.drewN _,HBR.out.drewN _,HLR.out.drewN _,HR2.out.drewN _⟩,(Turns.refl _ _).drewN _⟩
end Go.Proofs.YtefekboacghnjaaGreat
namespace Go.Proofs.YtefekboacghnjaaGreat
open Go.RowKit
def Lv (K:Int):Tr→Prop
 | .nil=>True
 | .node _ l _ _ lev r=>1≤lev∧lev≤K∧Lv K l∧Lv K r
theorem Lv.mono {K K':Int} (h:K≤K'):∀ {t:Tr},Lv K t→Lv K' t
 | .nil,_=>trivial
 | .node _ _ _ _ _ _,⟨h1,h2,h3,h4⟩=>⟨h1,by omega,Lv.mono h h3,Lv.mono h h4⟩
theorem Lv.lev {K:Int}:∀ {t:Tr},Lv K t→0≤t.lev∧(t=.nil∨1≤t.lev∧t.lev≤K)
 | .nil,_=>⟨Int.le_refl _,.inl rfl⟩
 | .node _ _ _ _ lev _,⟨h1,h2,_,_⟩=>⟨by show 0≤lev;omega,.inr ⟨h1,h2⟩⟩
theorem Lv.rt {K:Int}:∀ {t:Tr},Lv K t→Lv K t.rt
 | .nil,_=>trivial
 | .node _ _ _ _ _ _,h=>h.2.2.2
theorem Lv.skew {K:Int}:∀ {t:Tr},Lv K t→Lv K (skewT t)
 | .nil,_=>trivial
 | .node b .nil v i lev r,h=>h
 | .node b (.node bl ll vl il levl rl) v i lev r,h=>by
  by_cases e:levl=lev
  ·
   rw [skew_yes e]
   exact ⟨h.2.2.1.1,h.2.2.1.2.1,h.2.2.1.2.2.1,h.1,h.2.1,h.2.2.1.2.2.2,h.2.2.2⟩
  · rw [skew_no e];exact h
theorem Lv.split {K:Int}:∀ {t:Tr},Lv K t→Lv (K+1) (splitT t)
 | .nil,_=>trivial
 | .node b l v i lev .nil,h=>h.mono (by omega)
 | .node b l v i lev (.node br lr vr ir levr .nil),h=>h.mono (by omega)
 | .node b l v i lev (.node br lr vr ir levr (.node b2 l2 v2 i2 lev2 r2)),h=>by
  by_cases e:lev2=lev
  ·
   rw [split_yes e]
   have h':=h.mono (K':=K+1) (by omega)
   obtain ⟨a1,a2,a3,b1,b2,b3,b4⟩:=h'
   exact ⟨by omega,by have:=h.2.2.2.2.1;omega,⟨a1,a2,a3,b3⟩,b4⟩
  · rw [split_no e];exact h.mono (by omega)
structure Mid (T:TypeId) (w0:World) (S:List Nat) (ks:List (Int × Int)) (K:Int) (w:World) (t:Tr):Prop where
 tr:IsTr T w t
 keys:t.keys=ks
 nodup:t.blocks.Nodup
 sub:∀ b,b ∈ t.blocks→b ∈ S∨w0.heap.size≤b
 lv:Lv K t
 turns:Turns S w0 w
section
variable {T:TypeId} {w0 w w':World} {S:List Nat} {ks:List (Int × Int)} {K K':Int} {t t':Tr}
theorem Mid.start (h:IsTr T w t) (hn:t.blocks.Nodup) (hl:Lv K t):Mid T w t.blocks t.keys K w t:=⟨h,rfl,hn,fun _ h=>.inl h,hl,Turns.refl _ _⟩
theorem Mid.then {ks':List (Int × Int)} (h:Mid T w0 S ks K w t) (k:Mid T w t.blocks ks' K' w' t'):Mid T w0 S ks' K' w' t':=by
 refine ⟨k.tr,k.keys,k.nodup,fun b hb=>?_,k.lv,h.turns.then k.turns fun x hx hlt=>?_⟩
 ·
  rcases k.sub b hb with h1 | h1
  · exact h.sub b h1
  · exact .inr (Nat.le_trans h.turns.size h1)
 ·
  rcases h.sub x hx with h1 | h1
  · exact h1
  · omega
theorem Mid.below (h:Mid T w0 S ks K w t) (hb:Below w.heap.size w w'):Mid T w0 S ks K w' t:=⟨h.tr.below hb,h.keys,h.nodup,h.sub,h.lv,h.turns.below hb h.turns.size⟩
theorem Mid.drewN (h:Mid T w0 S ks K w t) (n:Nat):Mid T w0 S ks K (w.drewN n) t:=⟨h.tr.drewN n,h.keys,h.nodup,h.sub,h.lv,h.turns.drewN n⟩
theorem Mid.mono (h:Mid T w0 S ks K w t) (hK:K≤K'):Mid T w0 S ks K' w t:=⟨h.tr,h.keys,h.nodup,h.sub,h.lv.mono hK,h.turns⟩
theorem Mid.node (h:Mid T w0 S ks K w t) (hk:ks≠[]):∃ b l v i lev r,t=.node b l v i lev r:=by
 cases t with
 | nil=>exact absurd h.keys.symm hk
 | node b l v i lev r=>exact ⟨b,l,v,i,lev,r,rfl⟩
theorem nodup_parts {b:Nat} {l r:Tr} {v i lev:Int} (h:(Tr.node b l v i lev r).blocks.Nodup):b ∉ l.blocks∧b ∉ r.blocks∧l.blocks.Nodup∧r.blocks.Nodup∧∀ x,x ∈ l.blocks→x ∉ r.blocks:=by
 simp only [Tr.blocks,List.nodup_cons,List.nodup_append,List.mem_append] at h
 exact ⟨fun k=>h.1 (.inl k),fun k=>h.1 (.inr k),h.2.1,h.2.2.1,fun x h1 h2=>h.2.2.2 x h1 x h2 rfl⟩
theorem nodup_make {b:Nat} {l r:Tr} {v i lev:Int} (h1:b ∉ l.blocks) (h2:b ∉ r.blocks) (h3:l.blocks.Nodup) (h4:r.blocks.Nodup) (h5:∀ x,x ∈ l.blocks→x ∉ r.blocks):(Tr.node b l v i lev r).blocks.Nodup:=by
 simp only [Tr.blocks,List.nodup_cons,List.nodup_append,List.mem_append]
 refine ⟨fun h=>h.elim h1 h2,h3,h4,fun x hx y hy e=>?_⟩
 subst e
 exact h5 x hx hy
variable {b:Nat} {l r l' r':Tr} {v i lev:Int}
theorem Mid.setLeft {kl:List (Int × Int)} (h:Mid T w0 S ks K w (.node b l v i lev r)) (k:Mid T w l.blocks kl K' w' l') (hK:K≤K') :
  Mid T w0 S (kl++(v,i)::r.keys) K' (w'.setCell ⟨b,3,none⟩ (.pointer l'.ptr)) (.node b l' v i lev r):=by
 obtain ⟨hb,hl,hr⟩:=h.tr
 obtain ⟨n1,n2,n3,n4,n5⟩:=nodup_parts h.nodup
 have hlt:=hb.lt
 have m1:b ∉ l'.blocks:=fun hm=>(k.sub b hm).elim n1 (fun e=>by omega)
 have m5:∀ x,x ∈ l'.blocks→x ∉ r.blocks:=fun x hx hr'=>(k.sub x hx).elim (fun e=>n5 x e hr') (fun e=>by have:=hr.lt x hr';omega)
 have hb':Blk w' b (nodeCells v i lev l.ptr r.ptr) T:=hb.turns k.turns n1
 have hr2:IsTr T w' r:=hr.turns k.turns (fun x hx hl'=>n5 x hl' hx)
 have hsub:∀ x,x ∈ l.blocks→x<w0.heap.size→x ∈ S:=fun x hx hlt2=>(h.sub x (by simp [Tr.blocks,hx])).elim id (fun e=>by omega)
 have hbS:b ∈ S∨w0.heap.size≤b:=h.sub b (by simp [Tr.blocks])
 refine ⟨⟨Blk.set hb' 3 _,k.tr.setCell _ m1,hr2.setCell _ n2⟩,by simp [Tr.keys,k.keys],nodup_make m1 n2 k.nodup n4 m5,fun x hx=>?_,⟨h.lv.1,Int.le_trans h.lv.2.1 hK,k.lv,h.lv.2.2.2.mono hK⟩,((h.turns.then k.turns hsub).setCell hbS _)⟩
 simp only [Tr.blocks,List.mem_cons,List.mem_append] at hx
 rcases hx with rfl | hx | hx
 · exact hbS
 ·
  rcases k.sub x hx with e | e
  · exact h.sub x (by simp [Tr.blocks,e])
  · exact .inr (Nat.le_trans h.turns.size e)
 · exact h.sub x (by simp [Tr.blocks,hx])
theorem Mid.setRight {kr:List (Int × Int)} (h:Mid T w0 S ks K w (.node b l v i lev r)) (k:Mid T w r.blocks kr K' w' r') (hK:K≤K') :
  Mid T w0 S (l.keys++(v,i)::kr) K' (w'.setCell ⟨b,4,none⟩ (.pointer r'.ptr)) (.node b l v i lev r'):=by
 obtain ⟨hb,hl,hr⟩:=h.tr
 obtain ⟨n1,n2,n3,n4,n5⟩:=nodup_parts h.nodup
 have hlt:=hb.lt
 have m1:b ∉ r'.blocks:=fun hm=>(k.sub b hm).elim n2 (fun e=>by omega)
 have m5:∀ x,x ∈ l.blocks→x ∉ r'.blocks:=fun x hx hr'=>(k.sub x hr').elim (fun e=>n5 x hx e) (fun e=>by have:=hl.lt x hx;omega)
 have hb':Blk w' b (nodeCells v i lev l.ptr r.ptr) T:=hb.turns k.turns n2
 have hl2:IsTr T w' l:=hl.turns k.turns (fun x hx hl'=>n5 x hx hl')
 have hsub:∀ x,x ∈ r.blocks→x<w0.heap.size→x ∈ S:=fun x hx hlt2=>(h.sub x (by simp [Tr.blocks,hx])).elim id (fun e=>by omega)
 have hbS:b ∈ S∨w0.heap.size≤b:=h.sub b (by simp [Tr.blocks])
 refine ⟨⟨Blk.set hb' 4 _,hl2.setCell _ n1,k.tr.setCell _ m1⟩,by simp [Tr.keys,k.keys],nodup_make n1 m1 n3 k.nodup m5,fun x hx=>?_,⟨h.lv.1,Int.le_trans h.lv.2.1 hK,h.lv.2.2.1.mono hK,k.lv⟩,((h.turns.then k.turns hsub).setCell hbS _)⟩
 simp only [Tr.blocks,List.mem_cons,List.mem_append] at hx
 rcases hx with rfl | hx | hx
 · exact hbS
 · exact h.sub x (by simp [Tr.blocks,hx])
 ·
  rcases k.sub x hx with e | e
  · exact h.sub x (by simp [Tr.blocks,e])
  · exact .inr (Nat.le_trans h.turns.size e)
theorem Mid.ownL {kl:List (Int × Int)} (h:Mid T w0 S ks K w (.node b l v i lev r)) (k:Mid T w l.blocks kl K' w' l'):Blk w' b (nodeCells v i lev l.ptr r.ptr) T:=h.tr.1.turns k.turns (nodup_parts h.nodup).1
theorem Mid.ownR {kr:List (Int × Int)} (h:Mid T w0 S ks K w (.node b l v i lev r)) (k:Mid T w r.blocks kr K' w' r'):Blk w' b (nodeCells v i lev l.ptr r.ptr) T:=h.tr.1.turns k.turns (nodup_parts h.nodup).2.1
theorem Mid.left (h:Mid T w0 S ks K w (.node b l v i lev r)):Mid T w l.blocks l.keys K w l:=Mid.start h.tr.2.1 (nodup_parts h.nodup).2.2.1 h.lv.2.2.1
theorem Mid.right (h:Mid T w0 S ks K w (.node b l v i lev r)):Mid T w r.blocks r.keys K w r:=Mid.start h.tr.2.2 (nodup_parts h.nodup).2.2.2.1 h.lv.2.2.2
end
theorem skew_mid {K:Int} (t:Tr) (w:World) (h:IsTr 172 w t) (hd:t.blocks.Nodup) (hl:Lv K t) :
  Calls Tryz.prog 135 #[.pointer t.ptr] w fun e w'=>∃ t',e=.returned (.pointer t'.ptr)∧Mid 172 w t.blocks t.keys K w' t':=by
 refine (skew_any t w h hd (fun hn=>(hl.lev.2.resolve_left hn).1)).mono ?_
 rintro e w' ⟨rfl,hT,hU⟩
 exact ⟨_,rfl,hT,skew_keys t,(skew_blocks t).nodup_iff.2 hd,fun b hb=>.inl ((skew_blocks t).mem_iff.1 hb),hl.skew,hU⟩
theorem split_mid {K:Int} (t:Tr) (w:World) (h:IsTr 172 w t) (hd:t.blocks.Nodup) (hl:Lv K t) (hK:K≤9223372036854775806) :
  Calls Tryz.prog 134 #[.pointer t.ptr] w fun e w'=>∃ t',e=.returned (.pointer t'.ptr)∧Mid 172 w t.blocks t.keys (K+1) w' t':=by
 have hr:=hl.rt.lev
 refine (split_any t w h hd (fun hn=>(hl.lev.2.resolve_left hn).1) hr.1 (by
  rcases hr.2 with e | e
  · rw [e];show (0:Int)≤_;omega
  · omega)).mono ?_
 rintro e w' ⟨rfl,hT,hU⟩
 exact ⟨_,rfl,hT,split_keys t,(split_blocks t).nodup_iff.2 hd,fun b hb=>.inl ((split_blocks t).mem_iff.1 hb),hl.split,hU⟩
end Go.Proofs.YtefekboacghnjaaGreat
namespace Go.Proofs.YtefekboacghnjaaGreat
open Go.RowKit
section
variable {w0 w w':World} {S:List Nat} {ks:List (Int × Int)} {K K':Int} {t t':Tr} {b:Nat} {l r l' r':Tr} {v i lev:Int}
theorem Mid.skewC (h:Mid 172 w0 S ks K w t):Calls Tryz.prog 135 #[.pointer t.ptr] w fun e w'=>∃ t',e=.returned (.pointer t'.ptr)∧Mid 172 w0 S ks K w' t':=by
 refine (skew_mid t w h.tr h.nodup h.lv).mono ?_
 rintro e w' ⟨t',rfl,k⟩
 rw [h.keys] at k
 exact ⟨t',rfl,h.then k⟩
theorem Mid.splitC (h:Mid 172 w0 S ks K w t) (hK:K≤9223372036854775806):Calls Tryz.prog 134 #[.pointer t.ptr] w fun e w'=>∃ t',e=.returned (.pointer t'.ptr)∧Mid 172 w0 S ks (K+1) w' t':=by
 refine (split_mid t w h.tr h.nodup h.lv hK).mono ?_
 rintro e w' ⟨t',rfl,k⟩
 rw [h.keys] at k
 exact ⟨t',rfl,h.then k⟩
abbrev NodeFacts (w:World) (b:Nat) (v i lev:Int) (l r:Option Addr):Prop :=
 w.cell? ⟨b,0,none⟩=some (.int .i64 v)∧w.cell? ⟨b,1,none⟩=some (.int .i64 i)∧w.cell? ⟨b,2,none⟩=some (.int .i64 lev)∧w.cell? ⟨b,3,none⟩=some (.pointer l)∧w.cell? ⟨b,4,none⟩=some (.pointer r)∧∀ j,w.frozen? ⟨b,j,none⟩=false
theorem Mid.skewR (h:Mid 172 w0 S ks K w (.node b l v i lev r)):Calls Tryz.prog 135 #[.pointer r.ptr] w fun e w'=>∃ r',e=.returned (.pointer r'.ptr) ∧
  Hid (Mid 172 w0 S ks K (w'.setCell ⟨b,4,none⟩ (.pointer r'.ptr)) (.node b l v i lev r'))∧NodeFacts w' b v i lev l.ptr r.ptr:=by
 refine (h.right.skewC).mono ?_
 rintro e w' ⟨r',rfl,k⟩
 have:=h.setRight k (Int.le_refl _)
 rw [show l.keys++(v,i)::r.keys=ks from h.keys] at this
 exact ⟨r',rfl,this,(h.ownR k).node⟩
theorem Mid.splitR (h:Mid 172 w0 S ks K w (.node b l v i lev r)) (hK:K≤9223372036854775806):Calls Tryz.prog 134 #[.pointer r.ptr] w fun e w'=>∃ r',e=.returned (.pointer r'.ptr) ∧
  Hid (Mid 172 w0 S ks (K+1) (w'.setCell ⟨b,4,none⟩ (.pointer r'.ptr)) (.node b l v i lev r'))∧NodeFacts w' b v i lev l.ptr r.ptr:=by
 refine (h.right.splitC hK).mono ?_
 rintro e w' ⟨r',rfl,k⟩
 have:=h.setRight k (by omega)
 rw [show l.keys++(v,i)::r.keys=ks from h.keys] at this
 exact ⟨r',rfl,this,(h.ownR k).node⟩
theorem Mid.skewRR {br:Nat} {lr rr:Tr} {vr ir levr:Int} (h:Mid 172 w0 S ks K w (.node b l v i lev (.node br lr vr ir levr rr))):Calls Tryz.prog 135 #[.pointer rr.ptr] w fun e w'=>∃ r',e=.returned (.pointer r'.ptr) ∧
  Hid (Mid 172 w0 S ks K (w'.setCell ⟨br,4,none⟩ (.pointer r'.ptr)) (.node b l v i lev (.node br lr vr ir levr r')))∧NodeFacts w' br vr ir levr lr.ptr rr.ptr∧NodeFacts w' b v i lev l.ptr (some ⟨br,0,none⟩):=by
 refine (h.right.skewR).mono ?_
 rintro e w' ⟨r',rfl,k,hf⟩
 obtain ⟨n1,n2,n3,n4,n5⟩:=nodup_parts h.nodup
 have k2:=k.out
 have hb2:Blk (w'.setCell ⟨br,4,none⟩ (.pointer r'.ptr)) b (nodeCells v i lev l.ptr (some ⟨br,0,none⟩)) 172:=h.tr.1.turns k2.turns n2
 have x1:b≠br:=fun e=>n2 (by rw [e];simp [Tr.blocks])
 refine ⟨r',rfl,?_,hf,Blk.node (hb2.of (Below.heap_setCell w' ⟨br,4,none⟩ (.pointer r'.ptr) b x1).symm)⟩
 have hl2:IsTr 172 (w'.setCell ⟨br,4,none⟩ (.pointer r'.ptr)) l:=h.tr.2.1.turns k2.turns n5
 have hlt:=h.tr.1.lt
 have m1:b ∉ (Tr.node br lr vr ir levr r').blocks:=fun hm=>(k2.sub b hm).elim n2 (fun e=>by omega)
 have m5:∀ x,x ∈ l.blocks→x ∉ (Tr.node br lr vr ir levr r').blocks:=fun x hx hr'=>(k2.sub x hr').elim (fun e=>n5 x hx e) (fun e=>by have:=h.tr.2.1.lt x hx;omega)
 have hsub:∀ x,x ∈ (Tr.node br lr vr ir levr rr).blocks→x<w0.heap.size→x ∈ S:=fun x hx hlt2=>(h.sub x (by simp only [Tr.blocks,List.mem_cons,List.mem_append] at hx ⊢;exact .inr (.inr hx))).elim id (fun e=>by omega)
 refine ⟨⟨hb2,hl2,k2.tr⟩,?_,nodup_make n1 m1 n3 k2.nodup m5,fun x hx=>?_,⟨h.lv.1,h.lv.2.1,h.lv.2.2.1,k2.lv⟩,h.turns.then k2.turns hsub⟩
 ·
  rw [← h.keys]
  show l.keys++(v,i)::(Tr.node br lr vr ir levr r').keys=l.keys++(v,i)::(Tr.node br lr vr ir levr rr).keys
  rw [k2.keys]
 ·
  have hx':x=b∨x ∈ l.blocks∨x ∈ (Tr.node br lr vr ir levr r').blocks:=by
   rw [Tr.blocks,List.mem_cons,List.mem_append] at hx
   exact hx
  rcases hx' with rfl | hx | hx
  · exact h.sub x (by rw [Tr.blocks];exact List.mem_cons_self)
  · exact h.sub x (by rw [Tr.blocks,List.mem_cons,List.mem_append];exact .inr (.inl hx))
  ·
   rcases k2.sub x hx with e | e
   · exact h.sub x (by rw [Tr.blocks,List.mem_cons,List.mem_append];exact .inr (.inr e))
   · exact .inr (Nat.le_trans h.turns.size e)
theorem Mid.setLev (h:Mid 172 w0 S ks K w (.node b l v i lev r)) (m:Int) (h1:1≤m) (h2:m≤K):Mid 172 w0 S ks K (w.setCell ⟨b,2,none⟩ (.int .i64 m)) (.node b l v i m r):=by
 obtain ⟨hb,hl,hr⟩:=h.tr
 obtain ⟨n1,n2,n3,n4,n5⟩:=nodup_parts h.nodup
 exact ⟨⟨Blk.set hb 2 _,hl.setCell _ n1,hr.setCell _ n2⟩,h.keys,h.nodup,h.sub,⟨h1,h2,h.lv.2.2⟩,h.turns.setCell (h.sub b (by simp [Tr.blocks])) _⟩
theorem Mid.setLevR {br:Nat} {lr rr:Tr} {vr ir levr:Int} (h:Mid 172 w0 S ks K w (.node b l v i lev (.node br lr vr ir levr rr))) (m:Int) (h1:1≤m) (h2:m≤K) :
  Mid 172 w0 S ks K (w.setCell ⟨br,2,none⟩ (.int .i64 m)) (.node b l v i lev (.node br lr vr ir m rr)):=by
 obtain ⟨hb,hl,hbr,hlr,hrr⟩:=h.tr
 obtain ⟨n1,n2,n3,n4,n5⟩:=nodup_parts h.nodup
 obtain ⟨m1,m2,m3,m4,m5⟩:=nodup_parts n4
 have x1:b≠br:=fun e=>n2 (by rw [e];simp [Tr.blocks])
 have x2:br ∉ l.blocks:=fun e=>n5 br e (by simp [Tr.blocks])
 refine ⟨⟨hb.other _ x1,hl.setCell _ x2,Blk.set hbr 2 _,hlr.setCell _ m1,hrr.setCell _ m2⟩,h.keys,h.nodup,h.sub,⟨h.lv.1,h.lv.2.1,h.lv.2.2.1,h1,h2,h.lv.2.2.2.2.2⟩,h.turns.setCell (h.sub br (by simp [Tr.blocks])) _⟩
end
set_option maxRecDepth 100000 in
set_option maxHeartbeats 4000000 in
theorem settled_any {w0:World} {S:List Nat} {ks:List (Int × Int)} {K:Int} (w:World) (b:Nat) (l r:Tr) (v i lev:Int) (h:Mid 172 w0 S ks K w (.node b l v i lev r)) (hK0:0≤K) (hK:K≤9223372036854775000) :
  Calls Tryz.prog 139 #[.pointer (some ⟨b,0,none⟩)] w fun e w'=>∃ t',e=.returned (.pointer t'.ptr)∧Mid 172 w0 S ks (K+2) w' t':=by
 have hks:ks≠[]:=by rw [← h.keys];simp [Tr.keys]
 obtain ⟨c0,c1,c2,c3,c4,cf⟩:=h.tr.1.node
 have lv1:=h.lv.2.2.1.lev
 have lv2:=h.lv.2.2.2.lev
 have lvb:lev≤K:=h.lv.2.1
 have lvn:1≤lev:=h.lv.1
 have ub1:l.lev≤K:=by
  rcases lv1.2 with e | e
  · rw [e];exact hK0
  · exact e.2
 have ub2:r.lev≤K:=by
  rcases lv2.2 with e | e
  · rw [e];exact hK0
  · exact e.2
 have HL:=Lib.hid fun n=>height_any l (w.drewN n) (h.tr.2.1.drewN n)
 have HR:=Lib.hid fun n=>height_any r (w.drewN n) (h.tr.2.2.drewN n)
 have H:=Lib.hid h
 obtain ⟨m0,hm0⟩:∃ m,m=min l.lev r.lev:=⟨_,rfl⟩
 obtain ⟨m,hm⟩:∃ m,m=m0+1:=⟨_,rfl⟩
 have e0:min l.lev r.lev=m0:=hm0.symm
 have e1:IntKind.i64.wrap (m0+1)=m:=by rw [IntKind.wrap_i64];omega
 have m1:1≤m:=by omega
 have m2:m≤K+1:=by omega
 generalize l.lev=a at *
 generalize hc:r.lev=c at *
 have HC:=Lib.hid hc
 clear hc
 clear h hm hm0 lv1 lv2
 go_enter Tryz.func139,Tryz.ntmps139
 go_wp2_with fail
 go_big_quiet ((first | (go_at_call 144;exact quiet_left (HL.out _)) | (go_at_call 144;exact quiet_left (HR.out _))))
 by_cases hlt:m<lev
 ·
  have t1:decide (m<lev)=true:=decide_eq_true hlt
  obtain ⟨W1,hW1⟩:∃ W1,W1=(w.drewN nq).setCell ⟨b,2,none⟩ (.int .i64 m):=⟨_,rfl⟩
  have hX1:=(H.out.drewN nq).setLev m m1 (by omega)
  rw [← hW1] at hX1
  have HX:=Lib.hid hX1
  have HW1:=Lib.hid hW1
  obtain ⟨a0,a1,a2,a3,a4,af⟩:=hX1.tr.1.node
  have MH:=Lib.hid (height_any r W1 hX1.tr.2.2)
  rw [HC.out] at MH
  clear hW1 hX1
  go_wp2_with fail
  rw [← HW1.out]
  clear HW1
  refine MH.out.mono ?_
  rintro e w1 ⟨rfl,rfl⟩
  by_cases hgt:m<c
  ·
   have t2:decide (m<c)=true:=decide_eq_true hgt
   cases r with
   | nil=>exact absurd HC.out (by show ¬ (0:Int)=c;omega)
   | node br0 lr0 vr0 ir0 levr0 rr0 =>
    have hY:=HX.out.setLevR m m1 (by omega)
    obtain ⟨h0,h1,h2,h3,h4,hf0⟩:=HX.out.tr.2.2.1.node
    have a4':W1.cell? ⟨b,4,none⟩=some (.pointer (some ⟨br0,0,none⟩)):=a4
    clear a4
    have HX:=Lib.hid hY
    clear hY
    go_wp2_with fail
    refine (HX.out.skewC).mono ?_
    rintro e w2 ⟨t2,he,k2⟩
    obtain ⟨b2,l2,v2,i2,lev2,r2,rfl⟩:=k2.node hks
    replace he:e=.returned (.pointer (some ⟨b2,0,none⟩)):=he
    subst he
    obtain ⟨p0,p1,p2,p3,p4,pf⟩:=k2.tr.1.node
    have K2:=Lib.hid k2
    clear k2
    go_wp2_with fail
    refine (K2.out.skewR).mono ?_
    rintro e w3 ⟨r3,rfl,k3,q0,q1,q2,q3,q4,qf⟩
    obtain ⟨W4,hW4⟩:∃ W4,W4=w3.setCell ⟨b2,4,none⟩ (.pointer r3.ptr):=⟨_,rfl⟩
    have k4:=k3.out
    rw [← hW4] at k4
    have HW4:=Lib.hid hW4
    clear hW4 k3
    obtain ⟨s0,s1,s2,s3,s4,sf⟩:=k4.tr.1.node
    have K4:=Lib.hid k4
    clear k4
    cases r3 with
    | nil =>
     have s4':W4.cell? ⟨b2,4,none⟩=some (.pointer none):=s4
     clear s4 c0 c1 c2 c3 c4 cf
     go_wp2_with fail
     rw [← HW4.out]
     refine (K4.out.splitC (by omega)).mono ?_
     rintro e w5 ⟨t5,he,k5⟩
     obtain ⟨b5,l5,v5,i5,lev5,r5,rfl⟩:=k5.node hks
     replace he:e=.returned (.pointer (some ⟨b5,0,none⟩)):=he
     subst he
     obtain ⟨u0,u1,u2,u3,u4,uf⟩:=k5.tr.1.node
     have K5:=Lib.hid k5
     clear k5
     go_wp2_with fail
     refine (K5.out.splitR (by omega)).mono ?_
     rintro e w6 ⟨r6,rfl,k6,y0,y1,y2,y3,y4,yf⟩
     go_wp2_with fail
     go_ret
     exact ⟨.node b5 l5 v5 i5 lev5 r6,rfl,by rw [show K+2=K+1+1 by omega];exact k6.out⟩
    | node br lr vr ir levr rr =>
     have s4':W4.cell? ⟨b2,4,none⟩=some (.pointer (some ⟨br,0,none⟩)):=s4
     obtain ⟨g0,g1,g2,g3,g4,gf⟩:=K4.out.tr.2.2.1.node
     have MD:=Lib.hid (K4.out.skewRR)
     have MDd:=Lib.hid ((K4.out.drewN 1).skewRR)
     have MC:=Lib.hid (show ∀ W,W=W4∨W=W4.drew→Calls Tryz.prog 135 #[.pointer rr.ptr] W fun e w'=>∃ r',e=.returned (.pointer r'.ptr)∧w'.cell? ⟨b2,4,none⟩=some (.pointer (some ⟨br,0,none⟩))∧NodeFacts w' br vr ir levr lr.ptr rr.ptr ∧
       Hid (Mid 172 w0 S ks K (w'.setCell ⟨br,4,none⟩ (.pointer r'.ptr)) (.node b2 l2 v2 i2 lev2 (.node br lr vr ir levr r'))) from fun W hW=>by
      have:Mid 172 w0 S ks K W (.node b2 l2 v2 i2 lev2 (.node br lr vr ir levr rr)):=by
       rcases hW with rfl | rfl
       · exact K4.out
       · exact K4.out.drewN 1
      refine this.skewRR.mono ?_
      rintro e w' ⟨r',he,hm,hf,hg⟩
      exact ⟨r',he,hg.2.2.2.2.1,hf,hm⟩)
     clear s4 MD MDd c0 c1 c2 c3 c4 cf
     go_wp2_with fail
     rw [← HW4.out]
     clear HW4 q0 q1 q2 q3 q4 qf p0 p1 p2 p3 p4 pf
     go_region_with (go_at_call 135;refine (MC.out _ (by first | exact .inr rfl | exact .inl rfl)).mono ?_;rintro e w5 ⟨r5,rfl,n4,⟨m0',m1',m2',m3',m4',mf'⟩,k5⟩)
     all_goals
      clear s0 s1 s2 s3 s4' sf
      go_wp2_with fail
      refine (k5.out.splitC (by omega)).mono ?_
      rintro e w5 ⟨t5,he,k7⟩
      obtain ⟨b5,l5,v5,i5,lev5,r5,rfl⟩:=k7.node hks
      replace he:e=.returned (.pointer (some ⟨b5,0,none⟩)):=he
      subst he
      obtain ⟨u0,u1,u2,u3,u4,uf⟩:=k7.tr.1.node
      have K5:=Lib.hid k7
      clear k7
      go_wp2_with fail
      refine (K5.out.splitR (by omega)).mono ?_
      rintro e w6 ⟨r6,rfl,k6,y0,y1,y2,y3,y4,yf⟩
      go_wp2_with fail
      go_ret
      exact ⟨.node b5 l5 v5 i5 lev5 r6,rfl,by rw [show K+2=K+1+1 by omega];exact k6.out⟩
  ·
   have t2:decide (m<c)=false:=decide_eq_false hgt
   go_wp2_with fail
   refine (HX.out.skewC).mono ?_
   rintro e w2 ⟨t2,he,k2⟩
   obtain ⟨b2,l2,v2,i2,lev2,r2,rfl⟩:=k2.node hks
   replace he:e=.returned (.pointer (some ⟨b2,0,none⟩)):=he
   subst he
   obtain ⟨p0,p1,p2,p3,p4,pf⟩:=k2.tr.1.node
   have K2:=Lib.hid k2
   clear k2
   go_wp2_with fail
   refine (K2.out.skewR).mono ?_
   rintro e w3 ⟨r3,rfl,k3,q0,q1,q2,q3,q4,qf⟩
   obtain ⟨W4,hW4⟩:∃ W4,W4=w3.setCell ⟨b2,4,none⟩ (.pointer r3.ptr):=⟨_,rfl⟩
   have k4:=k3.out
   rw [← hW4] at k4
   have HW4:=Lib.hid hW4
   clear hW4 k3
   obtain ⟨s0,s1,s2,s3,s4,sf⟩:=k4.tr.1.node
   have K4:=Lib.hid k4
   clear k4
   cases r3 with
   | nil =>
    have s4':W4.cell? ⟨b2,4,none⟩=some (.pointer none):=s4
    clear s4 c0 c1 c2 c3 c4 cf
    go_wp2_with fail
    rw [← HW4.out]
    refine (K4.out.splitC (by omega)).mono ?_
    rintro e w5 ⟨t5,he,k5⟩
    obtain ⟨b5,l5,v5,i5,lev5,r5,rfl⟩:=k5.node hks
    replace he:e=.returned (.pointer (some ⟨b5,0,none⟩)):=he
    subst he
    obtain ⟨u0,u1,u2,u3,u4,uf⟩:=k5.tr.1.node
    have K5:=Lib.hid k5
    clear k5
    go_wp2_with fail
    refine (K5.out.splitR (by omega)).mono ?_
    rintro e w6 ⟨r6,rfl,k6,y0,y1,y2,y3,y4,yf⟩
    go_wp2_with fail
    go_ret
    exact ⟨.node b5 l5 v5 i5 lev5 r6,rfl,by rw [show K+2=K+1+1 by omega];exact k6.out⟩
   | node br lr vr ir levr rr =>
    have s4':W4.cell? ⟨b2,4,none⟩=some (.pointer (some ⟨br,0,none⟩)):=s4
    obtain ⟨g0,g1,g2,g3,g4,gf⟩:=K4.out.tr.2.2.1.node
    have MD:=Lib.hid (K4.out.skewRR)
    have MDd:=Lib.hid ((K4.out.drewN 1).skewRR)
    have MC:=Lib.hid (show ∀ W,W=W4∨W=W4.drew→Calls Tryz.prog 135 #[.pointer rr.ptr] W fun e w'=>∃ r',e=.returned (.pointer r'.ptr)∧w'.cell? ⟨b2,4,none⟩=some (.pointer (some ⟨br,0,none⟩))∧NodeFacts w' br vr ir levr lr.ptr rr.ptr ∧
      Hid (Mid 172 w0 S ks K (w'.setCell ⟨br,4,none⟩ (.pointer r'.ptr)) (.node b2 l2 v2 i2 lev2 (.node br lr vr ir levr r'))) from fun W hW=>by
     have:Mid 172 w0 S ks K W (.node b2 l2 v2 i2 lev2 (.node br lr vr ir levr rr)):=by
      rcases hW with rfl | rfl
      · exact K4.out
      · exact K4.out.drewN 1
     refine this.skewRR.mono ?_
     rintro e w' ⟨r',he,hm,hf,hg⟩
     exact ⟨r',he,hg.2.2.2.2.1,hf,hm⟩)
    clear s4 MD MDd c0 c1 c2 c3 c4 cf
    go_wp2_with fail
    rw [← HW4.out]
    clear HW4 q0 q1 q2 q3 q4 qf p0 p1 p2 p3 p4 pf
    go_region_with (go_at_call 135;refine (MC.out _ (by first | exact .inr rfl | exact .inl rfl)).mono ?_;rintro e w5 ⟨r5,rfl,n4,⟨m0',m1',m2',m3',m4',mf'⟩,k5⟩)
    all_goals
     clear s0 s1 s2 s3 s4' sf
     go_wp2_with fail
     refine (k5.out.splitC (by omega)).mono ?_
     rintro e w5 ⟨t5,he,k7⟩
     obtain ⟨b5,l5,v5,i5,lev5,r5,rfl⟩:=k7.node hks
     replace he:e=.returned (.pointer (some ⟨b5,0,none⟩)):=he
     subst he
     obtain ⟨u0,u1,u2,u3,u4,uf⟩:=k7.tr.1.node
     have K5:=Lib.hid k7
     clear k7
     go_wp2_with fail
     refine (K5.out.splitR (by omega)).mono ?_
     rintro e w6 ⟨r6,rfl,k6,y0,y1,y2,y3,y4,yf⟩
     go_wp2_with fail
     go_ret
     exact ⟨.node b5 l5 v5 i5 lev5 r6,rfl,by rw [show K+2=K+1+1 by omega];exact k6.out⟩
 ·
  have t1:decide (m<lev)=false:=decide_eq_false hlt
  have HX:=Lib.hid (H.out.drewN nq)
  go_wp2_with fail
  refine (HX.out.skewC).mono ?_
  rintro e w2 ⟨t2,he,k2⟩
  obtain ⟨b2,l2,v2,i2,lev2,r2,rfl⟩:=k2.node hks
  replace he:e=.returned (.pointer (some ⟨b2,0,none⟩)):=he
  subst he
  obtain ⟨p0,p1,p2,p3,p4,pf⟩:=k2.tr.1.node
  have K2:=Lib.hid k2
  clear k2
  go_wp2_with fail
  refine (K2.out.skewR).mono ?_
  rintro e w3 ⟨r3,rfl,k3,q0,q1,q2,q3,q4,qf⟩
  obtain ⟨W4,hW4⟩:∃ W4,W4=w3.setCell ⟨b2,4,none⟩ (.pointer r3.ptr):=⟨_,rfl⟩
  have k4:=k3.out
  rw [← hW4] at k4
  have HW4:=Lib.hid hW4
  clear hW4 k3
  obtain ⟨s0,s1,s2,s3,s4,sf⟩:=k4.tr.1.node
  have K4:=Lib.hid k4
  clear k4
  cases r3 with
  | nil =>
   have s4':W4.cell? ⟨b2,4,none⟩=some (.pointer none):=s4
   clear s4 c0 c1 c2 c3 c4 cf
   go_wp2_with fail
   rw [← HW4.out]
   refine (K4.out.splitC (by omega)).mono ?_
   rintro e w5 ⟨t5,he,k5⟩
   obtain ⟨b5,l5,v5,i5,lev5,r5,rfl⟩:=k5.node hks
   replace he:e=.returned (.pointer (some ⟨b5,0,none⟩)):=he
   subst he
   obtain ⟨u0,u1,u2,u3,u4,uf⟩:=k5.tr.1.node
   have K5:=Lib.hid k5
   clear k5
   go_wp2_with fail
   refine (K5.out.splitR (by omega)).mono ?_
   rintro e w6 ⟨r6,rfl,k6,y0,y1,y2,y3,y4,yf⟩
   go_wp2_with fail
   go_ret
   exact ⟨.node b5 l5 v5 i5 lev5 r6,rfl,by rw [show K+2=K+1+1 by omega];exact k6.out⟩
  | node br lr vr ir levr rr =>
   have s4':W4.cell? ⟨b2,4,none⟩=some (.pointer (some ⟨br,0,none⟩)):=s4
   obtain ⟨g0,g1,g2,g3,g4,gf⟩:=K4.out.tr.2.2.1.node
   have MD:=Lib.hid (K4.out.skewRR)
   have MDd:=Lib.hid ((K4.out.drewN 1).skewRR)
   have MC:=Lib.hid (show ∀ W,W=W4∨W=W4.drew→Calls Tryz.prog 135 #[.pointer rr.ptr] W fun e w'=>∃ r',e=.returned (.pointer r'.ptr)∧w'.cell? ⟨b2,4,none⟩=some (.pointer (some ⟨br,0,none⟩))∧NodeFacts w' br vr ir levr lr.ptr rr.ptr ∧
     Hid (Mid 172 w0 S ks K (w'.setCell ⟨br,4,none⟩ (.pointer r'.ptr)) (.node b2 l2 v2 i2 lev2 (.node br lr vr ir levr r'))) from fun W hW=>by
    have:Mid 172 w0 S ks K W (.node b2 l2 v2 i2 lev2 (.node br lr vr ir levr rr)):=by
     rcases hW with rfl | rfl
     · exact K4.out
     · exact K4.out.drewN 1
    refine this.skewRR.mono ?_
    rintro e w' ⟨r',he,hm,hf,hg⟩
    exact ⟨r',he,hg.2.2.2.2.1,hf,hm⟩)
   clear s4 MD MDd c0 c1 c2 c3 c4 cf
   go_wp2_with fail
   rw [← HW4.out]
   clear HW4 q0 q1 q2 q3 q4 qf p0 p1 p2 p3 p4 pf
   go_region_with (go_at_call 135;refine (MC.out _ (by first | exact .inr rfl | exact .inl rfl)).mono ?_;rintro e w5 ⟨r5,rfl,n4,⟨m0',m1',m2',m3',m4',mf'⟩,k5⟩)
   all_goals
    clear s0 s1 s2 s3 s4' sf
    go_wp2_with fail
    refine (k5.out.splitC (by omega)).mono ?_
    rintro e w5 ⟨t5,he,k7⟩
    obtain ⟨b5,l5,v5,i5,lev5,r5,rfl⟩:=k7.node hks
    replace he:e=.returned (.pointer (some ⟨b5,0,none⟩)):=he
    subst he
    obtain ⟨u0,u1,u2,u3,u4,uf⟩:=k7.tr.1.node
    have K5:=Lib.hid k7
    clear k7
    go_wp2_with fail
    refine (K5.out.splitR (by omega)).mono ?_
    rintro e w6 ⟨r6,rfl,k6,y0,y1,y2,y3,y4,yf⟩
    go_wp2_with fail
    go_ret
    exact ⟨.node b5 l5 v5 i5 lev5 r6,rfl,by rw [show K+2=K+1+1 by omega];exact k6.out⟩
end Go.Proofs.YtefekboacghnjaaGreat
