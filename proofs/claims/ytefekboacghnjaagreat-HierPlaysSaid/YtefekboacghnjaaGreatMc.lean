/-
  rbtree: a key more.
  rbtree: the ends of a tree, and a key less.
-/
import Derived.Test.YtefekboacghnjaaGreatMb
import Derived.Deep.RegionHeld3
namespace Go.Proofs.YtefekboacghnjaaGreat
open Go.RowKit
/-! Keys in order. -/
theorem keyLt_irrefl (a:Int × Int):¬ keyLt a a:=by unfold keyLt;omega
theorem keyLt_trans {a b c:Int × Int} (h:keyLt a b) (k:keyLt b c):keyLt a c:=by unfold keyLt at *;omega
theorem keyLt_asymm {a b:Int × Int} (h:keyLt a b):¬ keyLt b a:=by unfold keyLt at *;omega
theorem keyLt_ne {a b:Int × Int} (h:keyLt a b):a≠b:=by rintro rfl;exact keyLt_irrefl a h
theorem keyLt_total (a b:Int × Int):keyLt a b∨a=b∨keyLt b a:=by
 obtain ⟨a1,a2⟩:=a
 obtain ⟨b1,b2⟩:=b
 unfold keyLt
 by_cases h1:a1=b1
 ·
  by_cases h2:a2=b2
  · subst h1 h2;exact .inr (.inl rfl)
  · omega
 · omega
theorem cmpK_lt {a b:Int × Int} (h:keyLt a b):cmpK a b = -1:=by unfold cmpK;rw [if_neg (keyLt_ne h),if_pos h]
theorem cmpK_eq (a:Int × Int):cmpK a a=0:=if_pos rfl
theorem cmpK_gt {a b:Int × Int} (h:keyLt b a):cmpK a b=1:=by unfold cmpK;rw [if_neg (keyLt_ne h).symm,if_neg (keyLt_asymm h)]
abbrev Up (l:List (Int × Int)):Prop:=l.Pairwise keyLt
theorem Up.parts {l r:List (Int × Int)} {x:Int × Int} (h:Up (l++x::r)):Up l∧Up r∧(∀ y,y ∈ l→keyLt y x)∧(∀ y,y ∈ r→keyLt x y)∧∀ y,y ∈ l→∀ z,z ∈ r→keyLt y z:=by
 rw [Up,List.pairwise_append,List.pairwise_cons] at h
 exact ⟨h.1,h.2.1.2,fun y hy=>h.2.2 y hy x (by simp),h.2.1.1,fun y hy z hz=>h.2.2 y hy z (by simp [hz])⟩
def insK (k:Int × Int):List (Int × Int)→List (Int × Int)
 | []=>[k]
 | y::ys=>if keyLt k y then k::y::ys else if k=y then y::ys else y::insK k ys
theorem insK_left {k x:Int × Int} (h:keyLt k x) (r:List (Int × Int)):∀ l:List (Int × Int),insK k (l++x::r)=insK k l++x::r
 | []=>by simp [insK,h]
 | y::l=>by
  rw [List.cons_append]
  unfold insK
  rw [insK_left h r l]
  split
  · rfl
  · split <;> rfl
theorem insK_right {k x:Int × Int} (h:keyLt x k) (r:List (Int × Int)):∀ l:List (Int × Int),(∀ y,y ∈ l→keyLt y x)→insK k (l++x::r)=l++x::insK k r
 | [],_=>by simp [insK,keyLt_asymm h,(keyLt_ne h).symm]
 | y::l,hl=>by
  have hy:=keyLt_trans (hl y (by simp)) h
  rw [List.cons_append,List.cons_append]
  show (if keyLt k y then _ else if k=y then _ else y::insK k (l++x::r))=_
  rw [if_neg (keyLt_asymm hy),if_neg (keyLt_ne hy).symm,insK_right h r l (fun z hz=>hl z (by simp [hz]))]
theorem insK_same (x:Int × Int) (r:List (Int × Int)):∀ l:List (Int × Int),(∀ y,y ∈ l→keyLt y x)→insK x (l++x::r)=l++x::r
 | [],_=>by simp [insK,keyLt_irrefl]
 | y::l,hl=>by
  have hy:=hl y (by simp)
  rw [List.cons_append]
  show (if keyLt x y then _ else if x=y then _ else y::insK x (l++x::r))=_
  rw [if_neg (keyLt_asymm hy),if_neg (keyLt_ne hy).symm,insK_same x r l (fun z hz=>hl z (by simp [hz]))]
theorem insK_mem (k x:Int × Int):∀ l:List (Int × Int),x ∈ insK k l ↔ x=k∨x ∈ l
 | []=>by simp [insK]
 | y::l=>by
  unfold insK
  split
  · simp
  ·
   split
   ·
    rename_i e
    subst e
    simp
   ·
    rw [List.mem_cons,insK_mem k x l,List.mem_cons]
    constructor
    ·
     rintro (h | h | h)
     · exact .inr (.inl h)
     · exact .inl h
     · exact .inr (.inr h)
    ·
     rintro (h | h | h)
     · exact .inr (.inl h)
     · exact .inl h
     · exact .inr (.inr h)
theorem insK_up (k:Int × Int):∀ l:List (Int × Int),Up l→Up (insK k l)
 | [],_=>by simp [insK,Up]
 | y::l,h=>by
  rw [Up,List.pairwise_cons] at h
  unfold insK
  split
  ·
   rename_i hk
   refine List.pairwise_cons.2 ⟨fun z hz=>?_,List.pairwise_cons.2 h⟩
   rw [List.mem_cons] at hz
   rcases hz with rfl | hz
   · exact hk
   · exact keyLt_trans hk (h.1 z hz)
  ·
   split
   · exact List.pairwise_cons.2 h
   ·
    rename_i h1 h2
    have hyk:keyLt y k:=(keyLt_total k y).elim (fun e=>absurd e h1) (fun e=>e.elim (fun e=>absurd e h2) id)
    refine List.pairwise_cons.2 ⟨fun z hz=>?_,insK_up k l h.2⟩
    rcases (insK_mem k z l).1 hz with rfl | hz
    · exact hyk
    · exact h.1 z hz
theorem notin_left {k:Int × Int} {b:Nat} {l r:Tr} {v i lev:Int} (h:keyLt k (v,i)) (hr:∀ y,y ∈ r.keys→keyLt (v,i) y):decide (k ∉ (Tr.node b l v i lev r).keys)=decide (k ∉ l.keys):=by
 have e:k ∈ (Tr.node b l v i lev r).keys ↔ k ∈ l.keys:=by
  rw [Tr.keys,List.mem_append,List.mem_cons]
  refine ⟨fun h1=>h1.elim id fun h2=>h2.elim (fun e=>absurd e (keyLt_ne h)) fun h3=>absurd (keyLt_trans h (hr k h3)) (keyLt_irrefl k),.inl⟩
 exact decide_eq_decide.2 (not_congr e)
theorem notin_right {k:Int × Int} {b:Nat} {l r:Tr} {v i lev:Int} (h:keyLt (v,i) k) (hl:∀ y,y ∈ l.keys→keyLt y (v,i)):decide (k ∉ (Tr.node b l v i lev r).keys)=decide (k ∉ r.keys):=by
 have e:k ∈ (Tr.node b l v i lev r).keys ↔ k ∈ r.keys:=by
  rw [Tr.keys,List.mem_append,List.mem_cons]
  refine ⟨fun h1=>h1.elim (fun h2=>absurd (keyLt_trans (hl k h2) h) (keyLt_irrefl k)) fun h2=>h2.elim (fun e=>absurd e (keyLt_ne h).symm) id,fun h=>.inr (.inr h)⟩
 exact decide_eq_decide.2 (not_congr e)
section
variable {w0 w w':World} {S:List Nat} {ks:List (Int × Int)} {K K':Int} {t t':Tr} {b:Nat} {l r l' r':Tr} {v i lev:Int}
theorem Mid.drew (h:Mid 172 w0 S ks K w t):Mid 172 w0 S ks K w.drew t:=⟨h.tr.drew,h.keys,h.nodup,h.sub,h.lv,h.turns.drew⟩
set_option maxRecDepth 100000 in
set_option maxHeartbeats 4000000 in
theorem with_any (k1 k2:Int):∀ (t:Tr) (w:World) (K:Int),IsTr 172 w t→t.blocks.Nodup→Lv K t→1≤K→K+t.size≤9223372036854775000→Up t.keys →
  Calls Tryz.prog 110 #[.pointer t.ptr,keyV (k1,k2)] w fun e w'=>∃ t',e=.returned (.tuple #[.pointer t'.ptr,.bool (decide ((k1,k2) ∉ t.keys))])∧Mid 172 w t.blocks (insK (k1,k2) t.keys) (K+t.size+1) w' t':=by
 intro t
 induction t with
 | nil =>
  intro w K _ _ _ hK1 _ _
  show Calls _ _ #[.pointer none,_] _ fun e w'=>∃ t',e=.returned (.tuple #[.pointer t'.ptr,.bool (decide ((k1,k2) ∉ ([]:List (Int × Int))))])∧Mid 172 w [] [(k1,k2)] (K+(0:Nat)+1) w' t'
  go_enter Tryz.func110,Tryz.ntmps110
  go_wp2_with fail
  go_ret2
  refine ⟨.node (w.heap.size+1) .nil k1 k2 1 .nil,by simp [Tr.ptr],⟨⟨?_,trivial,trivial⟩,rfl,by simp [Tr.blocks],fun x hx=>.inr ?_,⟨by omega,by omega,trivial,trivial⟩,?_⟩⟩
  ·
   have:=Blk.new (w.alloc (.cells #[.int .i64 k1,.int .i64 k2] 123)) (nodeCells k1 k2 1 none none) 172
   rw [World.size_alloc] at this
   exact this
  ·
   simp [Tr.blocks] at hx
   omega
  · exact ((Turns.refl _ _).alloc _).alloc _
 | node b l v i lev r ihl ihr =>
  intro w K hT hn hL hK1 hKb hup
  have hM:=Mid.start hT hn hL
  obtain ⟨W1,hW1⟩:∃ W1,W1=w.alloc (.cells #[.int .i64 k1,.int .i64 k2] 123):=⟨_,rfl⟩
  have hb1:Below w.heap.size w W1:=by rw [hW1];exact (Below.refl _ _).alloc (Nat.le_refl _) _
  have hq:Blk W1 w.heap.size #[.int .i64 k1,.int .i64 k2] 123:=by rw [hW1];exact Blk.new _ _ _
  have hM1:=hM.below hb1
  have q0:W1.cell? ⟨w.heap.size,0,none⟩=some (.int .i64 k1):=Blk.cell hq 0
  have q1:W1.cell? ⟨w.heap.size,1,none⟩=some (.int .i64 k2):=Blk.cell hq 1
  obtain ⟨c0,c1,c2,c3,c4,cf⟩:=hM1.tr.1.node
  obtain ⟨up1,up2,up3,up4,up5⟩:=hup.parts
  have hsz:(Tr.node b l v i lev r).size=l.size+r.size+1:=rfl
  show Calls _ _ #[.pointer (some ⟨b,0,none⟩),_] _ _
  have HM1:=Lib.hid hM1
  have HW1:=Lib.hid hW1
  have HQ:=Lib.hid hq
  have HUP:=Lib.hid (And.intro up1 (And.intro up2 (And.intro up3 up4)))
  have IHL:=Lib.hid ihl
  have IHR:=Lib.hid ihr
  clear hM hM1 hW1 hq hT hn hup up1 up2 up3 up4 up5 ihl ihr
  go_enter Tryz.func110,Tryz.ntmps110
  go_wp2_with fail
  rw [← HW1.out]
  clear HW1
  go_still_tail 5,(by kernel_rfl)
  go_wp2_with fail
  refine (compare_any k1 k2 v i W1.drew).mono ?_
  rintro e w2 ⟨rfl,hb2'⟩
  obtain ⟨z0,z1⟩:w2.cell? ⟨w.heap.size,0,none⟩=some (.int .i64 k1)∧w2.cell? ⟨w.heap.size,1,none⟩=some (.int .i64 k2):=⟨(hb2'.cell (p:=⟨w.heap.size,0,none⟩) HQ.out.lt).trans q0,(hb2'.cell (p:=⟨w.heap.size,1,none⟩) HQ.out.lt).trans q1⟩
  have h2:=HM1.out.drew.below hb2'
  obtain ⟨d0,d1,d2,d3,d4,df⟩:=h2.tr.1.node
  have H2:=Lib.hid h2
  clear hb2' hb1 h2 q0 q1 c0 c1 c2 c3 c4 cf
  rcases keyLt_total (k1,k2) (v,i) with hc | hc | hc
  ·
   obtain ⟨lv,hlv⟩:∃ x,x=decide ((k1,k2) ∉ l.keys):=⟨_,rfl⟩
   have HB:Hid (decide ((k1,k2) ∉ (Tr.node b l v i lev r).keys)=lv):=Lib.hid (by rw [hlv];exact notin_left hc HUP.out.2.2.2)
   have HK:Hid (insK (k1,k2) l.keys++(v,i)::r.keys=insK (k1,k2) (Tr.node b l v i lev r).keys):=Lib.hid (insK_left hc r.keys l.keys).symm
   have MC:=Lib.hid (show ∀ W,W=w2∨W=w2.drew→Calls Tryz.prog 110 #[.pointer l.ptr,.agg #[.int .i64 k1,.int .i64 k2]] W fun e w'=>∃ l',e=.returned (.tuple #[.pointer l'.ptr,.bool lv])∧NodeFacts w' b v i lev l.ptr r.ptr ∧
     Hid (Mid 172 w (Tr.node b l v i lev r).blocks (insK (k1,k2) l.keys++(v,i)::r.keys) (K+l.size+1) (w'.setCell ⟨b,3,none⟩ (.pointer l'.ptr)) (.node b l' v i lev r)) from fun W hW=>by
    have hMW:Mid 172 w (Tr.node b l v i lev r).blocks (Tr.node b l v i lev r).keys K W (.node b l v i lev r):=by
     rcases hW with rfl | rfl
     · exact H2.out
     · exact H2.out.drew
    refine (IHL.out W K hMW.left.tr hMW.left.nodup hMW.left.lv hK1 (by rw [hsz] at hKb;omega) HUP.out.1).mono ?_
    rintro e w' ⟨l',rfl,k⟩
    exact ⟨l',by rw [hlv],(hMW.ownL k).node,hMW.setLeft k (by omega)⟩)
   clear IHL IHR HUP hlv HQ HM1
   rw [cmpK_lt hc]
   go_wp2_with fail
   go_region_with (go_at_call 110;refine (MC.out _ (by first | exact .inr rfl | exact .inl rfl)).mono ?_;rintro e w5 ⟨l5,rfl,⟨y0,y1,y2,y3,y4,yf⟩,k5⟩)
   all_goals
    have K5:=Lib.hid k5
    go_wp2_with fail
    refine (K5.out.skewC).mono ?_
    rintro e w6 ⟨t6,rfl,k6⟩
    have K6:=Lib.hid k6
    go_wp2_with fail
    refine (K6.out.splitC (by rw [hsz] at hKb;omega)).mono ?_
    rintro e w7 ⟨t7,rfl,k7⟩
    have K7:=Lib.hid k7
    clear k5 k6 k7
    go_wp2_with fail
    go_ret2
    refine ⟨t7,by rw [HB.out];rfl,?_⟩
    rw [← HK.out]
    exact K7.out.mono (by rw [hsz];omega)
  ·
   have HB:Hid (decide ((k1,k2) ∉ (Tr.node b l v i lev r).keys)=false):=Lib.hid (decide_eq_false (by rw [hc];simp [Tr.keys]))
   have HK:Hid ((Tr.node b l v i lev r).keys=insK (k1,k2) (Tr.node b l v i lev r).keys):=Lib.hid (by rw [hc];exact (insK_same (v,i) r.keys l.keys HUP.out.2.2.1).symm)
   have k5:=H2.out
   clear IHL IHR HUP HQ HM1
   rw [show cmpK (k1,k2) (v,i)=0 by rw [hc];exact cmpK_eq _]
   clear hc
   have K5:=Lib.hid k5
   go_wp2_with fail
   refine (K5.out.skewC).mono ?_
   rintro e w6 ⟨t6,rfl,k6⟩
   have K6:=Lib.hid k6
   go_wp2_with fail
   refine (K6.out.splitC (by rw [hsz] at hKb;omega)).mono ?_
   rintro e w7 ⟨t7,rfl,k7⟩
   have K7:=Lib.hid k7
   clear k5 k6 k7
   go_wp2_with fail
   go_ret2
   refine ⟨t7,by rw [HB.out];rfl,?_⟩
   rw [← HK.out]
   exact K7.out.mono (by rw [hsz];omega)
  ·
   obtain ⟨lv,hlv⟩:∃ x,x=decide ((k1,k2) ∉ r.keys):=⟨_,rfl⟩
   have HB:Hid (decide ((k1,k2) ∉ (Tr.node b l v i lev r).keys)=lv):=Lib.hid (by rw [hlv];exact notin_right hc HUP.out.2.2.1)
   have HK:Hid (l.keys++(v,i)::insK (k1,k2) r.keys=insK (k1,k2) (Tr.node b l v i lev r).keys):=Lib.hid (insK_right hc r.keys l.keys HUP.out.2.2.1).symm
   have MC:=Lib.hid (show ∀ W,W=w2∨W=w2.drew→Calls Tryz.prog 110 #[.pointer r.ptr,.agg #[.int .i64 k1,.int .i64 k2]] W fun e w'=>∃ l',e=.returned (.tuple #[.pointer l'.ptr,.bool lv])∧NodeFacts w' b v i lev l.ptr r.ptr ∧
     Hid (Mid 172 w (Tr.node b l v i lev r).blocks (l.keys++(v,i)::insK (k1,k2) r.keys) (K+r.size+1) (w'.setCell ⟨b,4,none⟩ (.pointer l'.ptr)) (.node b l v i lev l')) from fun W hW=>by
    have hMW:Mid 172 w (Tr.node b l v i lev r).blocks (Tr.node b l v i lev r).keys K W (.node b l v i lev r):=by
     rcases hW with rfl | rfl
     · exact H2.out
     · exact H2.out.drew
    refine (IHR.out W K hMW.right.tr hMW.right.nodup hMW.right.lv hK1 (by rw [hsz] at hKb;omega) HUP.out.2.1).mono ?_
    rintro e w' ⟨l',rfl,k⟩
    exact ⟨l',by rw [hlv],(hMW.ownR k).node,hMW.setRight k (by omega)⟩)
   clear IHL IHR HUP hlv HQ HM1
   rw [cmpK_gt hc]
   go_wp2_with fail
   go_region_with (go_at_call 110;refine (MC.out _ (by first | exact .inr rfl | exact .inl rfl)).mono ?_;rintro e w5 ⟨l5,rfl,⟨y0,y1,y2,y3,y4,yf⟩,k5⟩)
   all_goals
    have K5:=Lib.hid k5
    go_wp2_with fail
    refine (K5.out.skewC).mono ?_
    rintro e w6 ⟨t6,rfl,k6⟩
    have K6:=Lib.hid k6
    go_wp2_with fail
    refine (K6.out.splitC (by rw [hsz] at hKb;omega)).mono ?_
    rintro e w7 ⟨t7,rfl,k7⟩
    have K7:=Lib.hid k7
    clear k5 k6 k7
    go_wp2_with fail
    go_ret2
    refine ⟨t7,by rw [HB.out];rfl,?_⟩
    rw [← HK.out]
    exact K7.out.mono (by rw [hsz];omega)
end
end Go.Proofs.YtefekboacghnjaaGreat
namespace Go.Proofs.YtefekboacghnjaaGreat
open Go.RowKit
/-! Parts of a tree. -/
def Tr.Sub (s:Tr):Tr→Prop
 | .nil=>s=.nil
 | .node b l v i lev r=>s=.node b l v i lev r∨s.Sub l∨s.Sub r
def Tr.sizeAt (c:Nat):Tr→Nat
 | .nil=>0
 | .node b l _ _ _ r=>if b=c then l.size+r.size+1 else l.sizeAt c+r.sizeAt c
theorem sizeAt_none (c:Nat):∀ t:Tr,c ∉ t.blocks→t.sizeAt c=0
 | .nil,_=>rfl
 | .node b l v i lev r,h=>by
  simp only [Tr.blocks,List.mem_cons,List.mem_append,not_or] at h
  simp only [Tr.sizeAt]
  rw [if_neg (Ne.symm h.1),sizeAt_none c l h.2.1,sizeAt_none c r h.2.2]
theorem Tr.Sub.mem {c:Nat} {l r:Tr} {v i lev:Int}:∀ {t:Tr},(Tr.node c l v i lev r).Sub t→c ∈ t.blocks
 | .nil,h=>by simp [Tr.Sub] at h
 | .node b l' _ _ _ r',h=>by
  simp only [Tr.blocks,List.mem_cons,List.mem_append]
  rcases h with h | h | h
  · injection h with h;exact .inl h
  · exact .inr (.inl h.mem)
  · exact .inr (.inr h.mem)
theorem Tr.Sub.size {c:Nat} {l r:Tr} {v i lev:Int}:∀ {t:Tr},(Tr.node c l v i lev r).Sub t→t.blocks.Nodup→t.sizeAt c=l.size+r.size+1
 | .nil,h,_=>by simp [Tr.Sub] at h
 | .node b l' v' i' lev' r',h,hn=>by
  obtain ⟨n1,n2,n3,n4,n5⟩:=nodup_parts hn
  simp only [Tr.sizeAt]
  rcases h with h | h | h
  ·
   injection h with h1 h2 h3 h4 h5 h6
   subst h1 h2 h6
   rw [if_pos rfl]
  · rw [if_neg (fun e:b=c=>n1 (by rw [e];exact h.mem)),h.size n3,sizeAt_none c r' (n5 c h.mem),Nat.add_zero]
  · rw [if_neg (fun e:b=c=>n2 (by rw [e];exact h.mem)),h.size n4,sizeAt_none c l' (fun hm=>n5 c hm h.mem),Nat.zero_add]
theorem Tr.Sub.tr {T:TypeId} {w:World} {s:Tr}:∀ {t:Tr},s.Sub t→IsTr T w t→IsTr T w s
 | .nil,h,_=>by rw [show s=.nil from h];trivial
 | .node b l v i lev r,h,ht=>by
  rcases h with rfl | h | h
  · exact ht
  · exact h.tr ht.2.1
  · exact h.tr ht.2.2
theorem Tr.Sub.refl:∀ t:Tr,t.Sub t
 | .nil=>rfl
 | .node _ _ _ _ _ _=>.inl rfl
theorem Tr.Sub.left {b:Nat} {l r:Tr} {v i lev:Int}:∀ {t:Tr},(Tr.node b l v i lev r).Sub t→l.Sub t
 | .nil,h=>by simp [Tr.Sub] at h
 | .node _ _ _ _ _ _,h=>by
  rcases h with h | h | h
  ·
   injection h with h1 h2 h3 h4 h5 h6
   subst h2
   exact .inr (.inl (Tr.Sub.refl _))
  · exact .inr (.inl h.left)
  · exact .inr (.inr h.left)
theorem Tr.Sub.right {b:Nat} {l r:Tr} {v i lev:Int}:∀ {t:Tr},(Tr.node b l v i lev r).Sub t→r.Sub t
 | .nil,h=>by simp [Tr.Sub] at h
 | .node _ _ _ _ _ _,h=>by
  rcases h with h | h | h
  ·
   injection h with h1 h2 h3 h4 h5 h6
   subst h6
   exact .inr (.inr (Tr.Sub.refl _))
  · exact .inr (.inl h.right)
  · exact .inr (.inr h.right)
def EndOf (o:Option (Int × Int)) (S:List Nat) (w:World) (e:Ending) (w':World):Prop :=
 ∃ b' v' i',e=.returned (.pointer (some ⟨b',0,none⟩))∧o=some (v',i')∧w.cell? ⟨b',0,none⟩=some (.int .i64 v')∧w.cell? ⟨b',1,none⟩=some (.int .i64 i')∧b' ∈ S∧w'=w
def ptrSize (t:Tr):Value→Nat
 | .pointer (some a)=>t.sizeAt a.block
 | _=>0
theorem keys_ne {b:Nat} {l r:Tr} {v i lev:Int}:(Tr.node b l v i lev r).keys≠[]:=by simp [Tr.keys]
theorem keys_head {l:List (Int × Int)} (x:Int × Int) (r:List (Int × Int)) (h:l≠[]):(l++x::r).head?=l.head?:=by
 cases l with
 | nil=>exact absurd rfl h
 | cons y l=>rfl
theorem keys_last {r:List (Int × Int)} (x:Int × Int) (l:List (Int × Int)) (h:r≠[]):(l++x::r).getLast?=r.getLast?:=by
 cases r with
 | nil=>exact absurd rfl h
 | cons y r=>simp [List.getLast?_append,List.getLast?_cons]
set_option maxRecDepth 100000 in
theorem first_any (b:Nat) (l r:Tr) (v i lev:Int) (w:World) (hT:IsTr 172 w (.node b l v i lev r)) (hn:(Tr.node b l v i lev r).blocks.Nodup) :
  Calls Tryz.prog 131 #[.pointer (some ⟨b,0,none⟩)] w (EndOf (Tr.node b l v i lev r).keys.head? (Tr.node b l v i lev r).blocks w):=by
 obtain ⟨t0,ht0⟩:∃ t0,t0=Tr.node b l v i lev r:=⟨_,rfl⟩
 rw [← ht0]
 rw [← ht0] at hT hn
 have HT:=Lib.hid (And.intro hT (And.intro hn ht0))
 clear hT hn ht0
 go_enter Tryz.func131,Tryz.ntmps131
 go_wp2_with fail
 go_loop [0] (fun s0=>∃ (c:Nat) (l' r':Tr) (v' i' lev':Int),s0=.pointer (some ⟨c,0,none⟩)∧Hid ((Tr.node c l' v' i' lev' r').Sub t0∧(Tr.node c l' v' i' lev' r').keys.head?=t0.keys.head?)) (fun s0=>ptrSize t0 s0)
 case atStart=>exact ⟨b,l,r,v,i,lev,rfl,by rw [HT.out.2.2];exact ⟨Tr.Sub.refl _,rfl⟩⟩
 case round =>
  obtain ⟨c,l',r',v',i',lev',rfl,HS⟩:=hrel
  have hT:=HS.out.1.tr HT.out.1
  obtain ⟨c0,c1,c2,c3,c4,cf⟩:=hT.1.node
  clear hT
  cases l' with
  | nil =>
   have cS:w.cell? ⟨c,3,none⟩=some (.pointer none):=c3
   clear c3
   have HC:=Lib.hid (And.intro c0 c1)
   go_wp2_with fail
   go_ret
   refine ⟨c,v',i',rfl,?_,HC.out.1,HC.out.2,HS.out.1.mem,rfl⟩
   rw [← HS.out.2]
   simp [Tr.keys]
  | node c2 l2 v2 i2 lev2 r2 =>
   have cS:w.cell? ⟨c,3,none⟩=some (.pointer (some ⟨c2,0,none⟩)):=c3
   clear c3
   go_wp2_with fail
   go_round
   case rel=>exact ⟨c2,l2,r2,v2,i2,lev2,rfl,HS.out.1.left,by rw [← HS.out.2];exact (keys_head _ _ keys_ne).symm⟩
   case measure =>
    show t0.sizeAt c2<t0.sizeAt c
    rw [HS.out.1.size HT.out.2.1,HS.out.1.left.size HT.out.2.1]
    simp [Tr.size]
    try omega
set_option maxRecDepth 100000 in
theorem last_any (b:Nat) (l r:Tr) (v i lev:Int) (w:World) (hT:IsTr 172 w (.node b l v i lev r)) (hn:(Tr.node b l v i lev r).blocks.Nodup) :
  Calls Tryz.prog 138 #[.pointer (some ⟨b,0,none⟩)] w (EndOf (Tr.node b l v i lev r).keys.getLast? (Tr.node b l v i lev r).blocks w):=by
 obtain ⟨t0,ht0⟩:∃ t0,t0=Tr.node b l v i lev r:=⟨_,rfl⟩
 rw [← ht0]
 rw [← ht0] at hT hn
 have HT:=Lib.hid (And.intro hT (And.intro hn ht0))
 clear hT hn ht0
 go_enter Tryz.func138,Tryz.ntmps138
 go_wp2_with fail
 go_loop [0] (fun s0=>∃ (c:Nat) (l' r':Tr) (v' i' lev':Int),s0=.pointer (some ⟨c,0,none⟩)∧Hid ((Tr.node c l' v' i' lev' r').Sub t0∧(Tr.node c l' v' i' lev' r').keys.getLast?=t0.keys.getLast?)) (fun s0=>ptrSize t0 s0)
 case atStart=>exact ⟨b,l,r,v,i,lev,rfl,by rw [HT.out.2.2];exact ⟨Tr.Sub.refl _,rfl⟩⟩
 case round =>
  obtain ⟨c,l',r',v',i',lev',rfl,HS⟩:=hrel
  have hT:=HS.out.1.tr HT.out.1
  obtain ⟨c0,c1,c2,c3,c4,cf⟩:=hT.1.node
  clear hT
  cases r' with
  | nil =>
   have cS:w.cell? ⟨c,4,none⟩=some (.pointer none):=c4
   clear c4
   have HC:=Lib.hid (And.intro c0 c1)
   go_wp2_with fail
   go_ret
   refine ⟨c,v',i',rfl,?_,HC.out.1,HC.out.2,HS.out.1.mem,rfl⟩
   rw [← HS.out.2]
   simp [Tr.keys]
  | node c2 l2 v2 i2 lev2 r2 =>
   have cS:w.cell? ⟨c,4,none⟩=some (.pointer (some ⟨c2,0,none⟩)):=c4
   clear c4
   go_wp2_with fail
   go_round
   case rel=>exact ⟨c2,l2,r2,v2,i2,lev2,rfl,HS.out.1.right,by rw [← HS.out.2];exact (keys_last _ _ keys_ne).symm⟩
   case measure =>
    show t0.sizeAt c2<t0.sizeAt c
    rw [HS.out.1.size HT.out.2.1,HS.out.1.right.size HT.out.2.1]
    simp [Tr.size]
    try omega
theorem filter_all {k:Int × Int} {l:List (Int × Int)} (h:∀ y,y ∈ l→y≠k):l.filter (fun y=>decide (y≠k))=l:=List.filter_eq_self.2 fun y hy=>decide_eq_true (h y hy)
theorem filter_left {k x:Int × Int} {l r:List (Int × Int)} (h:keyLt k x) (hr:∀ y,y ∈ r→keyLt x y):(l++x::r).filter (fun y=>decide (y≠k))=l.filter (fun y=>decide (y≠k))++x::r:=by
 rw [List.filter_append,filter_all (l:=x::r)]
 intro y hy
 rw [List.mem_cons] at hy
 rcases hy with rfl | hy
 · exact (keyLt_ne h).symm
 · exact (keyLt_ne (keyLt_trans h (hr y hy))).symm
theorem filter_right {k x:Int × Int} {l r:List (Int × Int)} (h:keyLt x k) (hl:∀ y,y ∈ l→keyLt y x):(l++x::r).filter (fun y=>decide (y≠k))=l++x::r.filter (fun y=>decide (y≠k)):=by
 rw [List.filter_append,filter_all (l:=l) (fun y hy=>keyLt_ne (keyLt_trans (hl y hy) h)),List.filter_cons,if_pos (by simpa using keyLt_ne h)]
theorem filter_same {x:Int × Int} {l r:List (Int × Int)} (hl:∀ y,y ∈ l→keyLt y x) (hr:∀ y,y ∈ r→keyLt x y):(l++x::r).filter (fun y=>decide (y≠x))=l++r:=by
 rw [List.filter_append,filter_all (l:=l) (fun y hy=>keyLt_ne (hl y hy)),List.filter_cons,if_neg (by simp),filter_all (l:=r) (fun y hy=>(keyLt_ne (hr y hy)).symm)]
theorem filter_last {y:Int × Int} {l r:List (Int × Int)} (h:l.getLast?=some y) (hu:Up l):l.filter (fun x=>decide (x≠y))++y::r=l++r:=by
 obtain ⟨m,rfl⟩:=List.getLast?_eq_some_iff.1 h
 rw [Up,List.pairwise_append] at hu
 rw [List.filter_append,filter_all (l:=m) (fun z hz=>keyLt_ne (hu.2.2 z hz y (by simp)))]
 simp
theorem filter_head {y:Int × Int} {l r:List (Int × Int)} (h:r.head?=some y) (hu:Up r):l++y::r.filter (fun x=>decide (x≠y))=l++r:=by
 cases r with
 | nil=>simp at h
 | cons z r =>
  simp at h
  subst h
  rw [Up,List.pairwise_cons] at hu
  rw [List.filter_cons,if_neg (by simp),filter_all (l:=r) (fun x hx=>(keyLt_ne (hu.1 x hx)).symm)]
theorem in_left {k:Int × Int} {b:Nat} {l r:Tr} {v i lev:Int} (h:keyLt k (v,i)) (hr:∀ y,y ∈ r.keys→keyLt (v,i) y):decide (k ∈ (Tr.node b l v i lev r).keys)=decide (k ∈ l.keys):=by
 refine decide_eq_decide.2 ?_
 rw [Tr.keys,List.mem_append,List.mem_cons]
 exact ⟨fun h1=>h1.elim id fun h2=>h2.elim (fun e=>absurd e (keyLt_ne h)) fun h3=>absurd (keyLt_trans h (hr k h3)) (keyLt_irrefl k),.inl⟩
theorem in_right {k:Int × Int} {b:Nat} {l r:Tr} {v i lev:Int} (h:keyLt (v,i) k) (hl:∀ y,y ∈ l.keys→keyLt y (v,i)):decide (k ∈ (Tr.node b l v i lev r).keys)=decide (k ∈ r.keys):=by
 refine decide_eq_decide.2 ?_
 rw [Tr.keys,List.mem_append,List.mem_cons]
 exact ⟨fun h1=>h1.elim (fun h2=>absurd (keyLt_trans (hl k h2) h) (keyLt_irrefl k)) fun h2=>h2.elim (fun e=>absurd e (keyLt_ne h).symm) id,fun h=>.inr (.inr h)⟩
theorem Mid.setKey {w0 w:World} {S:List Nat} {ks:List (Int × Int)} {K:Int} {b:Nat} {l r:Tr} {v i lev:Int} (h:Mid 172 w0 S ks K w (.node b l v i lev r)) (v' i':Int) :
  Mid 172 w0 S (l.keys++(v',i')::r.keys) K ((w.setCell ⟨b,0,none⟩ (.int .i64 v')).setCell ⟨b,1,none⟩ (.int .i64 i')) (.node b l v' i' lev r):=by
 obtain ⟨hb,hl,hr⟩:=h.tr
 obtain ⟨n1,n2,n3,n4,n5⟩:=nodup_parts h.nodup
 have hS:=h.sub b (by simp [Tr.blocks])
 have h1:Blk (w.setCell ⟨b,0,none⟩ (.int .i64 v')) b (nodeCells v' i lev l.ptr r.ptr) 172:=Blk.set hb 0 (.int .i64 v')
 have h2:Blk ((w.setCell ⟨b,0,none⟩ (.int .i64 v')).setCell ⟨b,1,none⟩ (.int .i64 i')) b (nodeCells v' i' lev l.ptr r.ptr) 172:=Blk.set h1 1 (.int .i64 i')
 exact ⟨⟨h2,(hl.setCell _ n1).setCell _ n1,(hr.setCell _ n2).setCell _ n2⟩,rfl,h.nodup,h.sub,h.lv,(h.turns.setCell hS _).setCell hS _⟩
set_option maxRecDepth 100000 in
set_option maxHeartbeats 8000000 in
theorem without_any:∀ (t:Tr) (k1 k2:Int) (w:World) (K:Int),IsTr 172 w t→t.blocks.Nodup→Lv K t→1≤K→K+2*t.size≤9223372036854775000→Up t.keys →
  Calls Tryz.prog 115 #[.pointer t.ptr,keyV (k1,k2)] w fun e w'=>∃ t',e=.returned (.tuple #[.pointer t'.ptr,.bool (decide ((k1,k2) ∈ t.keys))])∧Mid 172 w t.blocks (t.keys.filter (fun y=>decide (y≠(k1,k2)))) (K+2*t.size) w' t':=by
 intro t
 induction t with
 | nil =>
  intro k1 k2 w K _ _ _ hK1 _ _
  show Calls _ _ #[.pointer none,_] _ fun e w'=>∃ t',e=.returned (.tuple #[.pointer t'.ptr,.bool (decide ((k1,k2) ∈ ([]:List (Int × Int))))])∧Mid 172 w [] [] (K+2*(0:Nat)) w' t'
  go_enter Tryz.func115,Tryz.ntmps115
  go_wp2_with fail
  go_ret2
  exact ⟨.nil,by simp [Tr.ptr],⟨trivial,rfl,by simp [Tr.blocks],fun x hx=>by simp [Tr.blocks] at hx,trivial,(Turns.refl _ _).alloc _⟩⟩
 | node b l v i lev r ihl ihr =>
  intro k1 k2 w K hT hn hL hK1 hKb hup
  have hM:=Mid.start hT hn hL
  obtain ⟨W1,hW1⟩:∃ W1,W1=w.alloc (.cells #[.int .i64 k1,.int .i64 k2] 123):=⟨_,rfl⟩
  have hb1:Below w.heap.size w W1:=by rw [hW1];exact (Below.refl _ _).alloc (Nat.le_refl _) _
  have hq:Blk W1 w.heap.size #[.int .i64 k1,.int .i64 k2] 123:=by rw [hW1];exact Blk.new _ _ _
  have hM1:=hM.below hb1
  have q0:W1.cell? ⟨w.heap.size,0,none⟩=some (.int .i64 k1):=Blk.cell hq 0
  have q1:W1.cell? ⟨w.heap.size,1,none⟩=some (.int .i64 k2):=Blk.cell hq 1
  obtain ⟨c0,c1,c2,c3,c4,cf⟩:=hM1.tr.1.node
  obtain ⟨up1,up2,up3,up4,up5⟩:=hup.parts
  have hsz:(Tr.node b l v i lev r).size=l.size+r.size+1:=rfl
  show Calls _ _ #[.pointer (some ⟨b,0,none⟩),_] _ _
  have HM1:=Lib.hid hM1
  have HW1:=Lib.hid hW1
  have HQ:=Lib.hid hq
  have HUP:=Lib.hid (And.intro up1 (And.intro up2 (And.intro up3 up4)))
  have IHL:=Lib.hid ihl
  have IHR:=Lib.hid ihr
  clear hM hM1 hW1 hq hT hn hup up1 up2 up3 up4 up5 ihl ihr
  go_enter Tryz.func115,Tryz.ntmps115
  go_wp2_with fail
  rw [← HW1.out]
  clear HW1
  have MCMP:=Lib.hid fun W=>compare_any k1 k2 v i W
  obtain ⟨cc,hcc⟩:∃ cc,cc=cmpK (k1,k2) (v,i):=⟨_,rfl⟩
  rw [← hcc] at MCMP
  have HCC:=Lib.hid hcc
  clear hcc
  have hz1:=Nat.le_refl W1.heap.size
  have SO:=Lib.hid fun w' (h:Below W1.heap.size W1 w')=>(⟨h,(HM1.out.below h).tr.1.node,Blk.cell (HQ.out.below h HQ.out.lt) 0,Blk.cell (HQ.out.below h HQ.out.lt) 1⟩ :
   Below W1.heap.size W1 w'∧NodeFacts w' b v i lev l.ptr r.ptr∧w'.cell? ⟨w.heap.size,0,none⟩=some (.int .i64 k1)∧w'.cell? ⟨w.heap.size,1,none⟩=some (.int .i64 k2))
  go_region_held3 (fun w'=>Below W1.heap.size W1 w'∧NodeFacts w' b v i lev l.ptr r.ptr∧w'.cell? ⟨w.heap.size,0,none⟩=some (.int .i64 k1)∧w'.cell? ⟨w.heap.size,1,none⟩=some (.int .i64 k2))
   (first | exact SO.out _ (kp_drew (by assumption)) | exact SO.out _ (kp_call (by assumption) (by assumption) hz1) | exact SO.out _ (kp_same (by assumption)) | exact SO.out _ (kp_start _ _))
   (first | (go_at_call 133;refine (MCMP.out _).mono ?_;rintro e w' ⟨rfl,hc1⟩))
  rename_i hHeld
  obtain ⟨w2,hw2⟩:∃ W,W=w':=⟨_,rfl⟩
  rw [← hw2] at hHeld ⊢
  clear hw2
  obtain ⟨hbw,⟨d0,d1,d2,d3,d4,df⟩,z0,z1⟩:=hHeld
  have H2:=Lib.hid (HM1.out.below hbw)
  clear hbw hb1 SO MCMP q0 q1 c0 c1 c2 c3 c4 cf
  rcases keyLt_total (k1,k2) (v,i) with hc | hc | hc
  ·
   rw [show cc = -1 from HCC.out.trans (cmpK_lt hc)]
   obtain ⟨lv,hlv⟩:∃ x,x=decide ((k1,k2) ∈ l.keys):=⟨_,rfl⟩
   have HB:Hid (decide ((k1,k2) ∈ (Tr.node b l v i lev r).keys)=lv):=Lib.hid (by rw [hlv];exact in_left hc HUP.out.2.2.2)
   have HK:Hid (l.keys.filter (fun y=>decide (y≠(k1,k2)))++(v,i)::r.keys=(Tr.node b l v i lev r).keys.filter (fun y=>decide (y≠(k1,k2)))):=Lib.hid (filter_left hc HUP.out.2.2.2).symm
   have MC:=Lib.hid (show ∀ W,W=w2∨W=w2.drew→Calls Tryz.prog 115 #[.pointer l.ptr,.agg #[.int .i64 k1,.int .i64 k2]] W fun e w'=>∃ l',e=.returned (.tuple #[.pointer l'.ptr,.bool lv])∧NodeFacts w' b v i lev l.ptr r.ptr ∧
     Hid (Mid 172 w (Tr.node b l v i lev r).blocks (l.keys.filter (fun y=>decide (y≠(k1,k2)))++(v,i)::r.keys) (K+2*l.size) (w'.setCell ⟨b,3,none⟩ (.pointer l'.ptr)) (.node b l' v i lev r)) from fun W hW=>by
    have hMW:Mid 172 w (Tr.node b l v i lev r).blocks (Tr.node b l v i lev r).keys K W (.node b l v i lev r):=by
     rcases hW with rfl | rfl
     · exact H2.out
     · exact H2.out.drew
    refine (IHL.out k1 k2 W K hMW.left.tr hMW.left.nodup hMW.left.lv hK1 (by rw [hsz] at hKb;omega) HUP.out.1).mono ?_
    rintro e w' ⟨l',rfl,k⟩
    exact ⟨l',by rw [hlv],(hMW.ownL k).node,hMW.setLeft k (by omega)⟩)
   clear IHL IHR HUP hlv HQ HM1
   go_wp2_with fail
   go_region_with (go_at_call 115;refine (MC.out _ (by first | exact .inr rfl | exact .inl rfl)).mono ?_;rintro e w5 ⟨l5,rfl,⟨y0,y1,y2,y3,y4,yf⟩,k5⟩)
   all_goals
    have K5:=Lib.hid k5
    clear k5
    go_wp2_with fail
    refine (settled_any _ _ _ _ _ _ _ K5.out (by omega) (by rw [hsz] at hKb;omega)).mono ?_
    rintro e w7 ⟨t7,rfl,k7⟩
    have K7:=Lib.hid k7
    clear k7
    go_wp2_with fail
    go_ret2
    refine ⟨t7,by rw [HB.out];rfl,?_⟩
    rw [← HK.out]
    exact K7.out.mono (by rw [hsz];omega)
  ·
   rw [show cc=0 from HCC.out.trans (by rw [hc];exact cmpK_eq _)]
   have HB:Hid (decide ((k1,k2) ∈ (Tr.node b l v i lev r).keys)=true):=Lib.hid (decide_eq_true (by rw [hc];simp [Tr.keys]))
   rw [hc]
   have hks:k1=v∧k2=i:=by injection hc with a b;exact ⟨a,b⟩
   obtain ⟨rfl,rfl⟩:=hks
   clear hc
   cases l with
   | node bl ll vl il levl rl =>
    have d3':w2.cell? ⟨b,3,none⟩=some (.pointer (some ⟨bl,0,none⟩)):=d3
    clear d3
    have MF:=Lib.hid (last_any _ _ _ _ _ _ w2 H2.out.left.tr H2.out.left.nodup)
    go_wp2_with fail
    refine MF.out.mono ?_
    rintro e w3 ⟨bq,v',i',rfl,hend,g0,g1,_,rfl⟩
    obtain ⟨W4,hW4⟩:∃ W4,W4=(w3.setCell ⟨b,0,none⟩ (.int .i64 v')).setCell ⟨b,1,none⟩ (.int .i64 i'):=⟨_,rfl⟩
    have h4:=H2.out.setKey v' i'
    rw [← hW4] at h4
    have HW4:=Lib.hid hW4
    clear hW4
    obtain ⟨s0,s1,s2,s3,s4,sf⟩:=h4.tr.1.node
    have H4:=Lib.hid h4
    have HK:Hid ((Tr.node bl ll vl il levl rl).keys.filter (fun y=>decide (y≠(v',i')))++(v',i')::r.keys=(Tr.node b (Tr.node bl ll vl il levl rl) k1 k2 lev r).keys.filter (fun y=>decide (y≠(k1,k2)))):=Lib.hid ((filter_last hend HUP.out.1).trans (filter_same HUP.out.2.2.1 HUP.out.2.2.2).symm)
    have MC:=Lib.hid (show ∀ W,W=W4∨W=W4.drew→Calls Tryz.prog 115 #[.pointer (some ⟨bl,0,none⟩),.agg #[.int .i64 v',.int .i64 i']] W fun e w'=>∃ l' x,e=.returned (.tuple #[.pointer l'.ptr,.bool x])∧NodeFacts w' b v' i' lev (Tr.node bl ll vl il levl rl).ptr r.ptr ∧
      Hid (Mid 172 w (Tr.node b (Tr.node bl ll vl il levl rl) k1 k2 lev r).blocks ((Tr.node bl ll vl il levl rl).keys.filter (fun y=>decide (y≠(v',i')))++(v',i')::r.keys) (K+2*(Tr.node bl ll vl il levl rl).size) (w'.setCell ⟨b,3,none⟩ (.pointer l'.ptr)) (.node b l' v' i' lev r)) from fun W hW=>by
     have hMW:Mid 172 w (Tr.node b (Tr.node bl ll vl il levl rl) k1 k2 lev r).blocks ((Tr.node bl ll vl il levl rl).keys++(v',i')::r.keys) K W (.node b (Tr.node bl ll vl il levl rl) v' i' lev r):=by
      rcases hW with rfl | rfl
      · exact H4.out
      · exact H4.out.drew
     refine (IHL.out v' i' W K hMW.left.tr hMW.left.nodup hMW.left.lv hK1 (by rw [hsz] at hKb;omega) HUP.out.1).mono ?_
     rintro e w' ⟨l',rfl,k⟩
     exact ⟨l',_,rfl,(hMW.ownL k).node,hMW.setLeft k (by omega)⟩)
    clear h4 IHL IHR HUP HQ HM1 MF
    go_wp2_with fail
    rw [← HW4.out]
    clear HW4 d0 d1 d2 d3' d4 df g0 g1
    have sS:W4.cell? ⟨b,3,none⟩=some (.pointer (some ⟨bl,0,none⟩)):=s3
    clear s3
    go_region_with (go_at_call 115;refine (MC.out _ (by first | exact .inr rfl | exact .inl rfl)).mono ?_;rintro e w5 ⟨l5,x5,rfl,⟨y0,y1,y2,y3,y4,yf⟩,k5⟩)
    all_goals
     have K5:=Lib.hid k5
     clear k5
     go_wp2_with fail
     refine (settled_any _ _ _ _ _ _ _ K5.out (by omega) (by rw [hsz] at hKb;omega)).mono ?_
     rintro e w7 ⟨t7,rfl,k7⟩
     have K7:=Lib.hid k7
     clear k7
     go_wp2_with fail
     go_ret2
     refine ⟨t7,by rw [HB.out];rfl,?_⟩
     rw [← HK.out]
     exact K7.out.mono (by rw [hsz];omega)
   | nil =>
    have d3':w2.cell? ⟨b,3,none⟩=some (.pointer none):=d3
    clear d3
    cases r with
    | nil =>
     have d4':w2.cell? ⟨b,4,none⟩=some (.pointer none):=d4
     clear d4 IHL IHR HUP HQ HM1
     go_wp2_with fail
     go_ret2
     refine ⟨.nil,by rw [HB.out];rfl,⟨trivial,by simp [Tr.keys],by simp [Tr.blocks],fun x hx=>by simp [Tr.blocks] at hx,trivial,H2.out.turns⟩⟩
    | node br lr vr ir levr rr =>
     have d4':w2.cell? ⟨b,4,none⟩=some (.pointer (some ⟨br,0,none⟩)):=d4
     clear d4
     have MF:=Lib.hid (first_any _ _ _ _ _ _ w2 H2.out.right.tr H2.out.right.nodup)
     go_wp2_with fail
     refine MF.out.mono ?_
     rintro e w3 ⟨bq,v',i',rfl,hend,g0,g1,_,rfl⟩
     obtain ⟨W4,hW4⟩:∃ W4,W4=(w3.setCell ⟨b,0,none⟩ (.int .i64 v')).setCell ⟨b,1,none⟩ (.int .i64 i'):=⟨_,rfl⟩
     have h4:=H2.out.setKey v' i'
     rw [← hW4] at h4
     have HW4:=Lib.hid hW4
     clear hW4
     obtain ⟨s0,s1,s2,s3,s4,sf⟩:=h4.tr.1.node
     have H4:=Lib.hid h4
     have HK:Hid (Tr.nil.keys++(v',i')::(Tr.node br lr vr ir levr rr).keys.filter (fun y=>decide (y≠(v',i')))=(Tr.node b Tr.nil k1 k2 lev (Tr.node br lr vr ir levr rr)).keys.filter (fun y=>decide (y≠(k1,k2)))):=Lib.hid ((filter_head hend HUP.out.2.1).trans (filter_same HUP.out.2.2.1 HUP.out.2.2.2).symm)
     have MC:=Lib.hid (show ∀ W,W=W4∨W=W4.drew→Calls Tryz.prog 115 #[.pointer (some ⟨br,0,none⟩),.agg #[.int .i64 v',.int .i64 i']] W fun e w'=>∃ l' x,e=.returned (.tuple #[.pointer l'.ptr,.bool x])∧NodeFacts w' b v' i' lev Tr.nil.ptr (Tr.node br lr vr ir levr rr).ptr ∧
       Hid (Mid 172 w (Tr.node b Tr.nil k1 k2 lev (Tr.node br lr vr ir levr rr)).blocks (Tr.nil.keys++(v',i')::(Tr.node br lr vr ir levr rr).keys.filter (fun y=>decide (y≠(v',i')))) (K+2*(Tr.node br lr vr ir levr rr).size) (w'.setCell ⟨b,4,none⟩ (.pointer l'.ptr)) (.node b Tr.nil v' i' lev l')) from fun W hW=>by
      have hMW:Mid 172 w (Tr.node b Tr.nil k1 k2 lev (Tr.node br lr vr ir levr rr)).blocks (Tr.nil.keys++(v',i')::(Tr.node br lr vr ir levr rr).keys) K W (.node b Tr.nil v' i' lev (Tr.node br lr vr ir levr rr)):=by
       rcases hW with rfl | rfl
       · exact H4.out
       · exact H4.out.drew
      refine (IHR.out v' i' W K hMW.right.tr hMW.right.nodup hMW.right.lv hK1 (by rw [hsz] at hKb;omega) HUP.out.2.1).mono ?_
      rintro e w' ⟨l',rfl,k⟩
      exact ⟨l',_,rfl,(hMW.ownR k).node,hMW.setRight k (by omega)⟩)
     clear h4 IHL IHR HUP HQ HM1 MF
     go_wp2_with fail
     rw [← HW4.out]
     clear HW4 d0 d1 d2 d3' d4' df g0 g1
     have sS:W4.cell? ⟨b,4,none⟩=some (.pointer (some ⟨br,0,none⟩)):=s4
     clear s4
     go_region_with (go_at_call 115;refine (MC.out _ (by first | exact .inr rfl | exact .inl rfl)).mono ?_;rintro e w5 ⟨l5,x5,rfl,⟨y0,y1,y2,y3,y4,yf⟩,k5⟩)
     all_goals
      have K5:=Lib.hid k5
      clear k5
      go_wp2_with fail
      refine (settled_any _ _ _ _ _ _ _ K5.out (by omega) (by rw [hsz] at hKb;omega)).mono ?_
      rintro e w7 ⟨t7,rfl,k7⟩
      have K7:=Lib.hid k7
      clear k7
      go_wp2_with fail
      go_ret2
      refine ⟨t7,by rw [HB.out];rfl,?_⟩
      rw [← HK.out]
      exact K7.out.mono (by rw [hsz];omega)
  ·
   rw [show cc=1 from HCC.out.trans (cmpK_gt hc)]
   obtain ⟨lv,hlv⟩:∃ x,x=decide ((k1,k2) ∈ r.keys):=⟨_,rfl⟩
   have HB:Hid (decide ((k1,k2) ∈ (Tr.node b l v i lev r).keys)=lv):=Lib.hid (by rw [hlv];exact in_right hc HUP.out.2.2.1)
   have HK:Hid (l.keys++(v,i)::r.keys.filter (fun y=>decide (y≠(k1,k2)))=(Tr.node b l v i lev r).keys.filter (fun y=>decide (y≠(k1,k2)))):=Lib.hid (filter_right hc HUP.out.2.2.1).symm
   have MC:=Lib.hid (show ∀ W,W=w2∨W=w2.drew→Calls Tryz.prog 115 #[.pointer r.ptr,.agg #[.int .i64 k1,.int .i64 k2]] W fun e w'=>∃ l',e=.returned (.tuple #[.pointer l'.ptr,.bool lv])∧NodeFacts w' b v i lev l.ptr r.ptr ∧
     Hid (Mid 172 w (Tr.node b l v i lev r).blocks (l.keys++(v,i)::r.keys.filter (fun y=>decide (y≠(k1,k2)))) (K+2*r.size) (w'.setCell ⟨b,4,none⟩ (.pointer l'.ptr)) (.node b l v i lev l')) from fun W hW=>by
    have hMW:Mid 172 w (Tr.node b l v i lev r).blocks (Tr.node b l v i lev r).keys K W (.node b l v i lev r):=by
     rcases hW with rfl | rfl
     · exact H2.out
     · exact H2.out.drew
    refine (IHR.out k1 k2 W K hMW.right.tr hMW.right.nodup hMW.right.lv hK1 (by rw [hsz] at hKb;omega) HUP.out.2.1).mono ?_
    rintro e w' ⟨l',rfl,k⟩
    exact ⟨l',by rw [hlv],(hMW.ownR k).node,hMW.setRight k (by omega)⟩)
   clear IHL IHR HUP hlv HQ HM1
   go_wp2_with fail
   go_region_with (go_at_call 115;refine (MC.out _ (by first | exact .inr rfl | exact .inl rfl)).mono ?_;rintro e w5 ⟨l5,rfl,⟨y0,y1,y2,y3,y4,yf⟩,k5⟩)
   all_goals
    have K5:=Lib.hid k5
    clear k5
    go_wp2_with fail
    refine (settled_any _ _ _ _ _ _ _ K5.out (by omega) (by rw [hsz] at hKb;omega)).mono ?_
    rintro e w7 ⟨t7,rfl,k7⟩
    have K7:=Lib.hid k7
    clear k7
    go_wp2_with fail
    go_ret2
    refine ⟨t7,by rw [HB.out];rfl,?_⟩
    rw [← HK.out]
    exact K7.out.mono (by rw [hsz];omega)
end Go.Proofs.YtefekboacghnjaaGreat
