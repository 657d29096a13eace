/-
  doleref20.Hier, the document's tree of groups, by value: as data; its cells.
  doleref20.Hier by value: what it is of the tree of groups; Linked, There, Depth, Under, On, task.
  doleref01.Sub, Less; doleref07: Wake, Off, On, Move.
  doleref20: the boxes of a deed of the document's while it is done.
  A drawn region: many operations that yield in every world of the region's condition, taken first, at one stroke.
-/
import Derived.Test.YtefekboacghnjaaGreatPf
import Derived.Test.YtefekboacghnjaaGreatMj
import Derived.Test.YtefekboacghnjaaGreatMo
import Derived.Deep.MidRow
import Derived.Test.YtefekboacghnjaaGreatPb
import Derived.Test.YtefekboacghnjaaGreatMa
import Derived.Deep.RegionHeld3
set_option linter.unusedVariables false
set_option linter.unusedSimpArgs false
namespace Go.Proofs.YtefekboacghnjaaGreat
open Go.RowKit Go.Maps
structure XG where
 A:Option Addr
 c:Nat
 q:QS
 up:Int
 own:En
 halt:Bool
structure XH where
 credit:Int
 gran:Int
 g:Nat→XG
def XH.put (X:XH) (i:Nat) (x:XG):XH:={ X with g:=fun j=>if j=i then x else X.g j }
theorem XH.put_same (X:XH) (i:Nat) (x:XG):(X.put i x).g i=x:=if_pos rfl
theorem XH.put_other (X:XH) {i j:Nat} (x:XG) (h:j≠i):(X.put i x).g j=X.g j:=if_neg h
def qcell (x:XG):Nat→Value
 | 0=>.slice x.A x.q.L.length x.c
 | 1=>.int .i64 x.q.cur
 | 2=>.int .i64 x.q.mn
 | _=>.bool x.q.over
def ecell (e:En):Nat→Value
 | 0=>.int .i64 e.id
 | 1=>.int .u64 e.wt
 | 2=>.int .i64 e.v
 | _=>.int .u64 e.rem
def xcell (X:XH) (k:Nat):Value :=
 if k=0 then .int .i64 X.credit
 else if k=1 then .int .i64 X.gran
 else if k<130 then qcell (X.g ((k - 2) / 4)) ((k - 2) % 4)
 else if k<162 then .int .i64 (X.g (k - 130)).up
 else if k<290 then ecell (X.g ((k - 162) / 4)).own ((k - 162) % 4)
 else .bool (X.g (k - 290)).halt
def xcells (X:XH):List Value:=(List.range 322).map (xcell X)
def xV (X:XH):Value:=.agg (xcells X).toArray
theorem xcells_len (X:XH):(xcells X).length=322:=by simp [xcells]
theorem xcells_at (X:XH) {k:Nat} (h:k<322):(xcells X)[k]?=some (xcell X k):=by
 unfold xcells
 rw [List.getElem?_map,List.getElem?_range h]
 rfl
theorem xcell_q (X:XH) {i:Nat} (h:i<32) (j:Nat) (hj:j<4):xcell X (2+i*4+j)=qcell (X.g i) j:=by
 unfold xcell
 rw [if_neg (by omega),if_neg (by omega),if_pos (by omega),show (2+i*4+j - 2) / 4=i by omega,show (2+i*4+j - 2) % 4=j by omega]
theorem xcell_up (X:XH) {i:Nat} (h:i<32):xcell X (130+i)=.int .i64 (X.g i).up:=by
 unfold xcell
 rw [if_neg (by omega),if_neg (by omega),if_neg (by omega),if_pos (by omega),show 130+i - 130=i by omega]
theorem xcell_own (X:XH) {i:Nat} (h:i<32) (j:Nat) (hj:j<4):xcell X (162+i*4+j)=ecell (X.g i).own j:=by
 unfold xcell
 rw [if_neg (by omega),if_neg (by omega),if_neg (by omega),if_neg (by omega),if_pos (by omega),show (162+i*4+j - 162) / 4=i by omega,show (162+i*4+j - 162) % 4=j by omega]
theorem xcell_halt (X:XH) {i:Nat}:xcell X (290+i)=.bool (X.g i).halt:=by
 unfold xcell
 rw [if_neg (by omega),if_neg (by omega),if_neg (by omega),if_neg (by omega),if_neg (by omega),show 290+i - 290=i by omega]
theorem xcells_set {X X':XH} {k:Nat} {v:Value} (h:∀ j,j<322→xcell X' j=if j=k then v else xcell X j):(xcells X).toArray.setIfInBounds k v=(xcells X').toArray:=by
 rw [List.setIfInBounds_toArray]
 congr 1
 refine List.ext_getElem? fun j=>?_
 rw [List.getElem?_set]
 by_cases hj:j<322
 ·
  rw [xcells_at X' hj,h j hj]
  by_cases hk:k=j
  ·
   subst hk
   rw [if_pos rfl,if_pos rfl,if_pos (by rw [xcells_len];exact hj)]
  · rw [if_neg hk,if_neg (fun e=>hk e.symm),xcells_at X hj]
 ·
  rw [List.getElem?_eq_none (l:=xcells X') (by rw [xcells_len];omega)]
  by_cases hk:k=j
  · rw [if_pos hk,if_neg (by rw [xcells_len];omega)]
  · rw [if_neg hk,List.getElem?_eq_none (by rw [xcells_len];omega)]
theorem xcell_put {X:XH} {i:Nat} {x:XG} (j:Nat):xcell (X.put i x) j =
  if j=0 then .int .i64 X.credit
  else if j=1 then .int .i64 X.gran
  else if j<130 then (if (j - 2) / 4=i then qcell x ((j - 2) % 4) else xcell X j)
  else if j<162 then (if j - 130=i then .int .i64 x.up else xcell X j)
  else if j<290 then (if (j - 162) / 4=i then ecell x.own ((j - 162) % 4) else xcell X j)
  else (if j - 290=i then .bool x.halt else xcell X j):=by
 have e:∀ k,(X.put i x).g k=if k=i then x else X.g k:=fun _=>rfl
 unfold xcell
 by_cases h0:j=0
 · rw [if_pos h0,if_pos h0];rfl
 by_cases h1:j=1
 · rw [if_neg h0,if_pos h1,if_neg h0,if_pos h1];rfl
 by_cases h2:j<130
 ·
  rw [if_neg h0,if_neg h1,if_pos h2,if_neg h0,if_neg h1,if_pos h2,e]
  by_cases h:(j - 2) / 4=i
  · rw [if_pos h,if_pos h]
  · rw [if_neg h,if_neg h,if_neg h0,if_neg h1,if_pos h2]
 by_cases h3:j<162
 ·
  rw [if_neg h0,if_neg h1,if_neg h2,if_pos h3,if_neg h0,if_neg h1,if_neg h2,if_pos h3,e]
  by_cases h:j - 130=i
  · rw [if_pos h,if_pos h]
  · rw [if_neg h,if_neg h,if_neg h0,if_neg h1,if_neg h2,if_pos h3]
 by_cases h4:j<290
 ·
  rw [if_neg h0,if_neg h1,if_neg h2,if_neg h3,if_pos h4,if_neg h0,if_neg h1,if_neg h2,if_neg h3,if_pos h4,e]
  by_cases h:(j - 162) / 4=i
  · rw [if_pos h,if_pos h]
  · rw [if_neg h,if_neg h,if_neg h0,if_neg h1,if_neg h2,if_neg h3,if_pos h4]
 rw [if_neg h0,if_neg h1,if_neg h2,if_neg h3,if_neg h4,if_neg h0,if_neg h1,if_neg h2,if_neg h3,if_neg h4,e]
 by_cases h:j - 290=i
 · rw [if_pos h,if_pos h]
 · rw [if_neg h,if_neg h,if_neg h0,if_neg h1,if_neg h2,if_neg h3,if_neg h4]
def XBlk (w:World) (b:Nat) (X:XH):Prop:=Blk w b (xcells X).toArray 38
section
variable {w w':World} {b:Nat} {X:XH}
theorem XBlk.new (w:World) (X:XH):XBlk (w.alloc (.cells (xcells X).toArray 38)) w.heap.size X:=Blk.new _ _ _
theorem XBlk.lt (h:XBlk w b X):b<w.heap.size:=Blk.lt h
theorem XBlk.below (h:XBlk w b X) (k:Below w.heap.size w w'):XBlk w' b X:=Blk.below h k (Blk.lt h)
theorem XBlk.cell (h:XBlk w b X) {k:Nat} (hk:k<322):w.cell? ⟨b,k,none⟩=some (xcell X k):=by
 rw [Blk.cell h,List.getElem?_toArray,xcells_at X hk]
theorem XBlk.frozen (h:XBlk w b X) (k:Nat):w.frozen? ⟨b,k,none⟩=false:=Blk.frozen h k
theorem XBlk.range (h:XBlk w b X):w.rangeAt b 0 (xcells X):=fun j v hv=>by
 rw [Nat.zero_add,Blk.cell h,List.getElem?_toArray]
 exact hv
theorem XBlk.q (h:XBlk w b X) {i:Nat} (hi:i<32):w.cell? ⟨b,2+i*4,none⟩=some (.slice (X.g i).A (X.g i).q.L.length (X.g i).c)∧w.cell? ⟨b,2+i*4+1,none⟩=some (.int .i64 (X.g i).q.cur) ∧
  w.cell? ⟨b,2+i*4+2,none⟩=some (.int .i64 (X.g i).q.mn)∧w.cell? ⟨b,2+i*4+3,none⟩=some (.bool (X.g i).q.over) :=
 ⟨by rw [h.cell (by omega)];exact congrArg some (xcell_q X hi 0 (by omega)),by rw [h.cell (by omega),xcell_q X hi 1 (by omega)];rfl,by rw [h.cell (by omega),xcell_q X hi 2 (by omega)];rfl,by rw [h.cell (by omega),xcell_q X hi 3 (by omega)];rfl⟩
theorem XBlk.up (h:XBlk w b X) {i:Nat} (hi:i<32):w.cell? ⟨b,130+i,none⟩=some (.int .i64 (X.g i).up):=by rw [h.cell (by omega),xcell_up X hi]
theorem XBlk.own (h:XBlk w b X) {i:Nat} (hi:i<32):w.cell? ⟨b,162+i*4,none⟩=some (.int .i64 (X.g i).own.id)∧w.cell? ⟨b,162+i*4+1,none⟩=some (.int .u64 (X.g i).own.wt) ∧
  w.cell? ⟨b,162+i*4+2,none⟩=some (.int .i64 (X.g i).own.v)∧w.cell? ⟨b,162+i*4+3,none⟩=some (.int .u64 (X.g i).own.rem) :=
 ⟨by rw [h.cell (by omega)];exact congrArg some (xcell_own X hi 0 (by omega)),by rw [h.cell (by omega),xcell_own X hi 1 (by omega)];rfl,by rw [h.cell (by omega),xcell_own X hi 2 (by omega)];rfl,by rw [h.cell (by omega),xcell_own X hi 3 (by omega)];rfl⟩
theorem XBlk.halt (h:XBlk w b X) {i:Nat} (hi:i<32):w.cell? ⟨b,290+i,none⟩=some (.bool (X.g i).halt):=by rw [h.cell (by omega),xcell_halt X]
theorem XBlk.cred (h:XBlk w b X):w.cell? ⟨b,0,none⟩=some (.int .i64 X.credit)∧w.cell? ⟨b,1,none⟩=some (.int .i64 X.gran):=⟨h.cell (by omega),h.cell (by omega)⟩
theorem XBlk.set (h:XBlk w b X) {X':XH} {k:Nat} {v:Value} (e:∀ j,j<322→xcell X' j=if j=k then v else xcell X j):XBlk (w.setCell ⟨b,k,none⟩ v) b X':=by
 have h2:=Blk.set h k v
 rw [xcells_set e] at h2
 exact h2
theorem XBlk.set_up (h:XBlk w b X) {i:Nat} (hi:i<32) (n:Int):XBlk (w.setCell ⟨b,130+i,none⟩ (.int .i64 n)) b (X.put i { X.g i with up:=n }):=h.set fun j hj=>by
 rw [xcell_put]
 unfold xcell
 by_cases h0:j=0
 · subst h0;rw [if_pos rfl,if_neg (by omega),if_pos rfl]
 by_cases h1:j=1
 · subst h1;rw [if_neg (by omega),if_pos rfl,if_neg (by omega),if_neg (by omega),if_pos rfl]
 by_cases h2:j<130
 ·
  rw [if_neg h0,if_neg h1,if_pos h2,if_neg (show ¬ j=130+i by omega),if_neg h0,if_neg h1,if_pos h2]
  split
  · rename_i e;rw [e];rfl
  · rfl
 by_cases h3:j<162
 ·
  rw [if_neg h0,if_neg h1,if_neg h2,if_pos h3,if_neg h0,if_neg h1,if_neg h2,if_pos h3]
  by_cases e:j - 130=i
  · rw [if_pos e,if_pos (by omega)]
  · rw [if_neg e,if_neg (by omega)]
 by_cases h4:j<290
 ·
  rw [if_neg h0,if_neg h1,if_neg h2,if_neg h3,if_pos h4,if_neg (show ¬ j=130+i by omega),if_neg h0,if_neg h1,if_neg h2,if_neg h3,if_pos h4]
  split
  · rename_i e;rw [e]
  · rfl
 rw [if_neg h0,if_neg h1,if_neg h2,if_neg h3,if_neg h4,if_neg (show ¬ j=130+i by omega),if_neg h0,if_neg h1,if_neg h2,if_neg h3,if_neg h4]
 split
 · rename_i e;rw [e]
 · rfl
theorem XBlk.set_halt (h:XBlk w b X) {i:Nat} (hi:i<32) (n:Bool):XBlk (w.setCell ⟨b,290+i,none⟩ (.bool n)) b (X.put i { X.g i with halt:=n }):=h.set fun j hj=>by
 rw [xcell_put]
 unfold xcell
 by_cases h0:j=0
 · subst h0;rw [if_pos rfl,if_neg (by omega),if_pos rfl]
 by_cases h1:j=1
 · subst h1;rw [if_neg (by omega),if_pos rfl,if_neg (by omega),if_neg (by omega),if_pos rfl]
 by_cases h2:j<130
 ·
  rw [if_neg h0,if_neg h1,if_pos h2,if_neg (show ¬ j=290+i by omega),if_neg h0,if_neg h1,if_pos h2]
  split
  · rename_i e;rw [e];rfl
  · rfl
 by_cases h3:j<162
 ·
  rw [if_neg h0,if_neg h1,if_neg h2,if_pos h3,if_neg (show ¬ j=290+i by omega),if_neg h0,if_neg h1,if_neg h2,if_pos h3]
  split
  · rename_i e;rw [e]
  · rfl
 by_cases h4:j<290
 ·
  rw [if_neg h0,if_neg h1,if_neg h2,if_neg h3,if_pos h4,if_neg (show ¬ j=290+i by omega),if_neg h0,if_neg h1,if_neg h2,if_neg h3,if_pos h4]
  split
  · rename_i e;rw [e]
  · rfl
 rw [if_neg h0,if_neg h1,if_neg h2,if_neg h3,if_neg h4,if_neg h0,if_neg h1,if_neg h2,if_neg h3,if_neg h4]
 by_cases e:j - 290=i
 · rw [if_pos e,if_pos (by omega)]
 · rw [if_neg e,if_neg (by omega)]
theorem XBlk.set4 (h:XBlk w b X) {X':XH} {k:Nat} {v0 v1 v2 v3:Value} (e:∀ j,j<322→xcell X' j=if j=k then v0 else if j=k+1 then v1 else if j=k+2 then v2 else if j=k+3 then v3 else xcell X j) (hk:k+3<322) :
  XBlk ((((w.setCell ⟨b,k,none⟩ v0).setCell ⟨b,k+1,none⟩ v1).setCell ⟨b,k+2,none⟩ v2).setCell ⟨b,k+3,none⟩ v3) b X':=by
 have h2:=Blk.set (Blk.set (Blk.set (Blk.set h k v0) (k+1) v1) (k+2) v2) (k+3) v3
 have e2:((((xcells X).toArray.setIfInBounds k v0).setIfInBounds (k+1) v1).setIfInBounds (k+2) v2).setIfInBounds (k+3) v3=(xcells X').toArray:=by
  simp only [List.setIfInBounds_toArray]
  congr 1
  refine List.ext_getElem? fun j=>?_
  have hl:=xcells_len X
  simp only [List.getElem?_set,List.length_set,hl]
  by_cases hj:j<322
  ·
   rw [xcells_at X' hj,e j hj,xcells_at X hj]
   by_cases e0:j=k
   ·
    subst e0
    rw [if_neg (by omega),if_neg (by omega),if_neg (by omega),if_pos rfl,if_pos hj,if_pos rfl]
   by_cases e1:j=k+1
   ·
    subst e1
    rw [if_neg (by omega),if_neg (by omega),if_pos rfl,if_pos hj,if_neg (by omega),if_pos rfl]
   by_cases e2:j=k+2
   ·
    subst e2
    rw [if_neg (by omega),if_pos rfl,if_pos hj,if_neg (by omega),if_neg (by omega),if_pos rfl]
   by_cases e3:j=k+3
   ·
    subst e3
    rw [if_pos rfl,if_pos hj,if_neg (by omega),if_neg (by omega),if_neg (by omega),if_pos rfl]
   rw [if_neg (fun h=>e3 h.symm),if_neg (fun h=>e2 h.symm),if_neg (fun h=>e1 h.symm),if_neg (fun h=>e0 h.symm),if_neg e0,if_neg e1,if_neg e2,if_neg e3]
  · rw [if_neg (by omega),if_neg (by omega),if_neg (by omega),if_neg (by omega),List.getElem?_eq_none (by rw [xcells_len];omega),List.getElem?_eq_none (by rw [xcells_len];omega)]
 rw [e2] at h2
 exact h2
theorem XBlk.set_q (h:XBlk w b X) {i:Nat} (hi:i<32) (A:Option Addr) (c n:Nat) (q:QS) (hn:n=q.L.length) :
  XBlk ((((w.setCell ⟨b,2+i*4,none⟩ (.slice A n c)).setCell ⟨b,2+i*4+1,none⟩ (.int .i64 q.cur)).setCell ⟨b,2+i*4+2,none⟩ (.int .i64 q.mn)).setCell ⟨b,2+i*4+3,none⟩ (.bool q.over)) b (X.put i { X.g i with A:=A,c:=c,q:=q }):=by
 subst hn
 refine h.set4 (fun j hj=>?_) (by omega)
 rw [xcell_put]
 by_cases e0:j=2+i*4
 ·
  subst e0
  rw [if_pos rfl,if_neg (by omega),if_neg (by omega),if_pos (by omega),if_pos (by omega),show (2+i*4 - 2) % 4=0 by omega];rfl
 by_cases e1:j=2+i*4+1
 ·
  subst e1
  rw [if_neg (by omega),if_neg (by omega),if_pos (by omega),if_pos (by omega),if_neg (by omega),if_pos rfl,show (2+i*4+1 - 2) % 4=1 by omega];rfl
 by_cases e2:j=2+i*4+2
 ·
  subst e2
  rw [if_neg (by omega),if_neg (by omega),if_pos (by omega),if_pos (by omega),if_neg (by omega),if_neg (by omega),if_pos rfl,show (2+i*4+2 - 2) % 4=2 by omega];rfl
 by_cases e3:j=2+i*4+3
 ·
  subst e3
  rw [if_neg (by omega),if_neg (by omega),if_pos (by omega),if_pos (by omega),if_neg (by omega),if_neg (by omega),if_neg (by omega),if_pos rfl,show (2+i*4+3 - 2) % 4=3 by omega];rfl
 rw [if_neg e0,if_neg e1,if_neg e2,if_neg e3]
 unfold xcell
 by_cases h0:j=0
 · subst h0;rw [if_pos rfl,if_pos rfl]
 by_cases h1:j=1
 · subst h1;rw [if_neg (by omega),if_pos rfl,if_neg (by omega),if_pos rfl]
 rw [if_neg h0,if_neg h1,if_neg h0,if_neg h1]
 by_cases h2:j<130
 · rw [if_pos h2,if_pos h2,if_neg (by omega)]
 rw [if_neg h2,if_neg h2]
 by_cases h3:j<162
 ·
  rw [if_pos h3,if_pos h3]
  split
  · rename_i e;rw [e]
  · rfl
 rw [if_neg h3,if_neg h3]
 by_cases h4:j<290
 ·
  rw [if_pos h4,if_pos h4]
  split
  · rename_i e;rw [e]
  · rfl
 rw [if_neg h4,if_neg h4]
 split
 · rename_i e;rw [e]
 · rfl
theorem XBlk.set_own (h:XBlk w b X) {i:Nat} (hi:i<32) (e:En) :
  XBlk ((((w.setCell ⟨b,162+i*4,none⟩ (.int .i64 e.id)).setCell ⟨b,162+i*4+1,none⟩ (.int .u64 e.wt)).setCell ⟨b,162+i*4+2,none⟩ (.int .i64 e.v)).setCell ⟨b,162+i*4+3,none⟩ (.int .u64 e.rem)) b (X.put i { X.g i with own:=e }):=by
 refine h.set4 (fun j hj=>?_) (by omega)
 rw [xcell_put]
 by_cases e0:j=162+i*4
 ·
  subst e0
  rw [if_pos rfl,if_neg (by omega),if_neg (by omega),if_neg (by omega),if_neg (by omega),if_pos (by omega),if_pos (by omega),show (162+i*4 - 162) % 4=0 by omega];rfl
 by_cases e1:j=162+i*4+1
 ·
  subst e1
  rw [if_neg (by omega),if_neg (by omega),if_neg (by omega),if_neg (by omega),if_pos (by omega),if_pos (by omega),if_neg (by omega),if_pos rfl,show (162+i*4+1 - 162) % 4=1 by omega];rfl
 by_cases e2:j=162+i*4+2
 ·
  subst e2
  rw [if_neg (by omega),if_neg (by omega),if_neg (by omega),if_neg (by omega),if_pos (by omega),if_pos (by omega),if_neg (by omega),if_neg (by omega),if_pos rfl,show (162+i*4+2 - 162) % 4=2 by omega];rfl
 by_cases e3:j=162+i*4+3
 ·
  subst e3
  rw [if_neg (by omega),if_neg (by omega),if_neg (by omega),if_neg (by omega),if_pos (by omega),if_pos (by omega),if_neg (by omega),if_neg (by omega),if_neg (by omega),if_pos rfl,show (162+i*4+3 - 162) % 4=3 by omega];rfl
 rw [if_neg e0,if_neg e1,if_neg e2,if_neg e3]
 unfold xcell
 by_cases h0:j=0
 · subst h0;rw [if_pos rfl,if_pos rfl]
 by_cases h1:j=1
 · subst h1;rw [if_neg (by omega),if_pos rfl,if_neg (by omega),if_pos rfl]
 rw [if_neg h0,if_neg h1,if_neg h0,if_neg h1]
 by_cases h2:j<130
 ·
  rw [if_pos h2,if_pos h2]
  split
  · rename_i e;rw [e];rfl
  · rfl
 rw [if_neg h2,if_neg h2]
 by_cases h3:j<162
 ·
  rw [if_pos h3,if_pos h3]
  split
  · rename_i e;rw [e]
  · rfl
 rw [if_neg h3,if_neg h3]
 by_cases h4:j<290
 · rw [if_pos h4,if_pos h4,if_neg (by omega)]
 rw [if_neg h4,if_neg h4]
 split
 · rename_i e;rw [e]
 · rfl
end
end Go.Proofs.YtefekboacghnjaaGreat
namespace Go.Proofs.YtefekboacghnjaaGreat
open Go.RowKit Go.Maps
theorem xinf0:(Tryz.prog.info? 38).map (·.size)=some 322:=by kernel_rfl
theorem xinf (X:XH):(Tryz.prog.info? 38).map (·.size)=some (xcells X).length:=by rw [xcells_len];exact xinf0
theorem wpList_wload_mid {P:Program} {ops:Array Oper} {rest:List Oper} {op:Oper} {a:Act} {w:World} {Q:Exit→Act→World→Prop} (hw:Region.wanted op (yielded ops a.tmps)=true) (ty:TypeId) (x:Operand) (ho:op.op=.load ty x)
  (b o:Nat) (hx:a.eval x=.pointer (some ⟨b,o,none⟩)) (cs:List Value) (d:TypeDesc) (hc:w.rangeAt b o cs)
  (hu:P.underlying ty=some d) (hd:d.isRow=true) (hi:(P.info? ty).map (·.size)=some cs.length)
  (h:wpList P ops Q rest (a.put op.dst (.agg cs.toArray)) w):wpList P ops Q (op::rest) a w:=by
 unfold wpList
 rw [if_pos hw]
 exact .inl (wp_load_mid ty x ho b o hx cs d hc hu hd hi h)
structure XAt (w:World) (S:HS) (X:XH):Prop where
 cr:X.credit=S.credit
 gr:X.gran=S.gran
 no:∀ i,i<32→S.G i=none→(X.g i).up = -1
 is:∀ i x,S.G i=some x→(X.g i).up=x.up∧(X.g i).q=x.q∧(i≠0→(X.g i).halt=x.stopped)∧(i≠0→x.on=false→(X.g i).own=x.own)
 row:∀ i,i<32→RQ w w.heap.size (X.g i).A (X.g i).c (X.g i).q.L
 led:∀ i x,S.G i=some x→x.q.led
theorem XAt.below {w w':World} {S:HS} {X:XH} (a:XAt w S X) (k:Below w.heap.size w w'):XAt w' S X:=⟨a.cr,a.gr,a.no,a.is,fun i hi=>((a.row i hi).below k).mono k.size,a.led⟩
structure XTo (w w':World) (X X':XH) (S':HS):Prop where
 at_:XAt w' S' X'
 bel:Below w.heap.size w w'
 or:∀ i a,i<32→(X'.g i).A=some a→(X'.g i).q.L≠[]→(∃ j,j<32∧(X.g j).A=some a∧(X.g j).q.L≠[])∨w.heap.size≤a.block
theorem XTo.same {w w':World} {S:HS} {X:XH} (a:XAt w S X) (k:Below w.heap.size w w'):XTo w w' X X S:=⟨a.below k,k,fun i _ hi h1 h2=>.inl ⟨i,hi,h1,h2⟩⟩
theorem XTo.sooner {w w' w'':World} {S':HS} {X X':XH} (k:Below w.heap.size w w') (b:XTo w' w'' X X' S'):XTo w w'' X X' S' :=
 ⟨b.at_,k.trans (b.bel.mono k.size),fun i ad hi h1 h2=>(b.or i ad hi h1 h2).imp id (fun e=>Nat.le_trans k.size e)⟩
theorem HTree.lt {S:HS} (T:HTree S) {i:Nat} {x:Gr} (h:S.G i=some x):i<32:=by
 refine Decidable.byContradiction fun hlt=>?_
 rw [T.top i (by omega)] at h
 simp at h
theorem XAt.queue {w w':World} {S:HS} {X:XH} (a:XAt w S X) {i:Nat} {x:Gr} (hi:S.G i=some x) (hlt:i<32) {A':Option Addr} {c':Nat} {q':QS} (hr:RfRes w w' (X.g i).A A' c' (X.g i).q q') (hl:q'.led) :
  XTo w w' X (X.put i { X.g i with A:=A',c:=c',q:=q' }) (S.put i (some { x with q:=q' })):=by
 have hb:=hr.res.bel
 refine ⟨⟨a.cr,a.gr,fun j hj hn=>?_,fun j y hy=>?_,fun j hj=>?_,fun j y hy=>?_⟩,hb,fun j ad hj h1 h2=>?_⟩
 ·
  by_cases hji:j=i
  · subst hji;rw [HS.put_same] at hn;simp at hn
  · rw [HS.put_other _ _ hji] at hn;rw [XH.put_other _ _ hji];exact a.no j hj hn
 ·
  by_cases hji:j=i
  ·
   subst hji
   rw [HS.put_same] at hy
   injection hy with hy
   subst hy
   rw [XH.put_same]
   obtain ⟨e1,_,e3,e4⟩:=a.is j x hi
   exact ⟨e1,rfl,e3,e4⟩
  · rw [HS.put_other _ _ hji] at hy;rw [XH.put_other _ _ hji];exact a.is j y hy
 ·
  by_cases hji:j=i
  · subst hji;rw [XH.put_same];exact hr.res.rq
  · rw [XH.put_other _ _ hji];exact ((a.row j hj).below hb).mono hb.size
 ·
  by_cases hji:j=i
  ·
   subst hji
   rw [HS.put_same] at hy
   injection hy with hy
   subst hy
   exact hl
  · rw [HS.put_other _ _ hji] at hy;exact a.led j y hy
 ·
  by_cases hji:j=i
  ·
   subst hji
   rw [XH.put_same] at h1 h2
   rcases hr.or h2 with ⟨e1,e2⟩ | e
   · exact .inl ⟨j,hlt,by rw [← e1];exact h1,e2⟩
   · exact .inr (e ad h1)
  · rw [XH.put_other _ _ hji] at h1 h2;exact .inl ⟨j,hj,h1,h2⟩
theorem xbox (w:World) (X:XH):∃ W,W=w.alloc (.cells (xcells X).toArray 38)∧Below w.heap.size w W∧XBlk W w.heap.size X∧W.heap.size=w.heap.size+1 :=
 ⟨_,rfl,(Below.refl _ _).alloc (Nat.le_refl _) _,XBlk.new _ _,by simp⟩
theorem xbox_cell (X:XH) {k:Nat} {v:Value} (hk:k<322) (h:xcell X k=v):(xcells X)[k]?=some v:=by rw [xcells_at X hk,h]
section
variable {w:World} {S:HS} {X:XH}
set_option maxRecDepth 100000 in
theorem xlinked_low (X:XH) (g:Int) (hg:g<1) (w:World):Calls Tryz.prog 33 #[xV X,.int .i64 g] w fun e w'=>e=.returned (.bool false)∧Below w.heap.size w w':=by
 have j3:decide (1≤g)=false:=decide_eq_false (by omega)
 show Calls Tryz.prog _ #[.agg (xcells X).toArray,.int .i64 g] w _
 go_enter Tryz.func33,Tryz.ntmps33
 go_wp2_with fail
 go_ret
 exact ⟨rfl,(Below.refl _ _).alloc (Nat.le_refl _) _⟩
set_option maxRecDepth 100000 in
theorem xlinked_high (X:XH) (g:Int) (hg:32≤g) (w:World):Calls Tryz.prog 33 #[xV X,.int .i64 g] w fun e w'=>e=.returned (.bool false)∧Below w.heap.size w w':=by
 have j3:decide (1≤g)=true:=decide_eq_true (by omega)
 have j4:decide (g<32)=false:=decide_eq_false (by omega)
 show Calls Tryz.prog _ #[.agg (xcells X).toArray,.int .i64 g] w _
 go_enter Tryz.func33,Tryz.ntmps33
 go_wp2_with fail
 go_ret
 exact ⟨rfl,(Below.refl _ _).alloc (Nat.le_refl _) _⟩
set_option maxRecDepth 100000 in
theorem xlinked_in (X:XH) {i:Nat} (h1:1≤i) (hi:i<32) (w:World):Calls Tryz.prog 33 #[xV X,.int .i64 (i:Int)] w fun e w'=>e=.returned (.bool (decide (0≤(X.g i).up)))∧Below w.heap.size w w':=by
 have hc:=xbox_cell X (show 130+i<322 by omega) (xcell_up X hi)
 have j0:(0:Int)≤(i:Int):=by omega
 have j1:(1:Int)≤(i:Int):=by omega
 have j2:(i:Int)<32:=by omega
 have j3:decide ((1:Int)≤(i:Int))=true:=decide_eq_true j1
 have j4:decide ((i:Int)<32)=true:=decide_eq_true j2
 have j5:decide (i<32)=true:=decide_eq_true hi
 have j6:decide (1≤i)=true:=decide_eq_true h1
 generalize (X.g i).up=u at *
 show Calls Tryz.prog _ #[.agg (xcells X).toArray,.int .i64 (i:Int)] w _
 go_enter Tryz.func33,Tryz.ntmps33
 go_wp2_with fail
 go_ret
 exact ⟨rfl,(Below.refl _ _).alloc (Nat.le_refl _) _⟩
theorem xlinked_any (a:XAt w S X) (T:HTree S) (g:Int) (W:World):Calls Tryz.prog 33 #[xV X,.int .i64 g] W fun e w'=>e=.returned (.bool (S.linked g).isSome)∧Below W.heap.size W w':=by
 unfold HS.linked
 by_cases h1:g<1
 ·
  have e:(if g=0 then none else S.at_ g).isSome=false:=by
   split
   · rfl
   · unfold HS.at_;rw [if_pos (by omega)];rfl
  rw [e]
  exact xlinked_low X g h1 W
 ·
  rw [if_neg (by omega)]
  by_cases h2:32≤g
  ·
   unfold HS.at_
   rw [if_pos (by omega)]
   exact xlinked_high X g h2 W
  ·
   obtain ⟨i,rfl⟩:∃ i:Nat,g=(i:Int):=⟨g.toNat,by omega⟩
   rw [S.at_nat (by omega)]
   have e:(S.G i).isSome=decide (0≤(X.g i).up):=by
    cases hx:S.G i with
    | none=>rw [a.no i (by omega) hx];rfl
    | some x =>
     obtain ⟨u,p,e1,_,_⟩:=T.up i x (by omega) hx
     rw [(a.is i x hx).1,e1,decide_eq_true (by omega)]
     rfl
   rw [e]
   exact xlinked_in X (by omega) (by omega) W
set_option maxRecDepth 100000 in
theorem xthere_root (X:XH) (w:World):Calls Tryz.prog 30 #[xV X,.int .i64 0] w fun e w'=>e=.returned (.bool true)∧Below w.heap.size w w':=by
 show Calls Tryz.prog _ #[.agg (xcells X).toArray,.int .i64 0] w _
 go_enter Tryz.func30,Tryz.ntmps30
 go_wp2_with fail
 go_ret
 exact ⟨rfl,(Below.refl _ _).alloc (Nat.le_refl _) _⟩
set_option maxRecDepth 100000 in
theorem xthere_not (X:XH) {g:Int} (hg:g≠0) (b:Bool) (M:∀ W,Calls Tryz.prog 33 #[xV X,.int .i64 g] W fun e w'=>e=.returned (.bool b)∧Below W.heap.size W w') (w:World) :
  Calls Tryz.prog 30 #[xV X,.int .i64 g] w fun e w'=>e=.returned (.bool b)∧Below w.heap.size w w':=by
 have z:decide (g=0)=false:=decide_eq_false hg
 have z1:(g == 0)=false:=beq_eq_false_iff_ne.2 hg
 obtain ⟨W1,hW1,hB,hbx,_⟩:=xbox w X
 have hrg:=hbx.range
 rw [hW1] at hrg
 have HB:=Lib.hid hB
 have HR:=Lib.hid (And.intro hrg (xinf X))
 have HW:=Lib.hid hW1
 have M1:=Lib.hid M
 clear hW1 hB hbx hrg M
 show Calls Tryz.prog _ #[.agg (xcells X).toArray,.int .i64 g] w _
 go_enter Tryz.func30,Tryz.ntmps30
 go_wp2_with (refine wpList_wload_mid rfl 38 (.tmp 2) rfl w.heap.size 0 rfl (xcells X) _ HR.out.1 Tryz.underlying38 rfl HR.out.2 ?_)
 rw [← HW.out]
 refine (M1.out _).mono ?_
 rintro e w' ⟨rfl,hb⟩
 go_wp2_with fail
 go_ret
 exact ⟨rfl,HB.out.trans (hb.mono HB.out.size)⟩
theorem xthere_any (a:XAt w S X) (T:HTree S) (g:Int) (W:World):Calls Tryz.prog 30 #[xV X,.int .i64 g] W fun e w'=>e=.returned (.bool (S.at_ g).isSome)∧Below W.heap.size W w':=by
 by_cases h0:g=0
 ·
  subst h0
  obtain ⟨x,hx,_⟩:=T.root
  have e:(S.at_ 0).isSome=true:=by
   have:=S.at_nat (i:=0) (by omega)
   rw [show ((0:Nat):Int)=0 from rfl] at this
   rw [this,hx]
   rfl
  rw [e]
  exact xthere_root X W
 ·
  refine xthere_not X h0 _ (fun W=>?_) W
  have:=xlinked_any a T g W
  rw [HS.linked,if_neg h0] at this
  exact this
set_option maxRecDepth 100000 in
theorem xtask_any (n:Int) (w:World):Calls Tryz.prog 62 #[.int .i64 n] w fun e w'=>e=.returned (.bool (decide (0≤n∧n<64)))∧w=w':=by
 by_cases h1:0≤n
 ·
  have z1:decide (0≤n)=true:=decide_eq_true h1
  by_cases h2:n<64
  ·
   have z2:decide (n<64)=true:=decide_eq_true h2
   rw [show decide (0≤n∧n<64)=true from decide_eq_true ⟨h1,h2⟩]
   go_enter Tryz.func62,Tryz.ntmps62
   go_wp2_with fail
   go_ret
   exact ⟨rfl,rfl⟩
  ·
   have z2:decide (n<64)=false:=decide_eq_false h2
   rw [show decide (0≤n∧n<64)=false from decide_eq_false (fun h=>h2 h.2)]
   go_enter Tryz.func62,Tryz.ntmps62
   go_wp2_with fail
   go_ret
   exact ⟨rfl,rfl⟩
 ·
  have z1:decide (0≤n)=false:=decide_eq_false h1
  rw [show decide (0≤n∧n<64)=false from decide_eq_false (fun h=>h1 h.1)]
  go_enter Tryz.func62,Tryz.ntmps62
  go_wp2_with fail
  go_ret
  exact ⟨rfl,rfl⟩
set_option maxRecDepth 100000 in
set_option maxHeartbeats 4000000 in
theorem xdepth_any (a:XAt w S X) (T:HTree S) {i:Nat} {x:Gr} (hx:S.G i=some x) (W:World):Calls Tryz.prog 91 #[xV X,.int .i64 (i:Int)] W fun e w'=>e=.returned (.int .i64 (x.deep:Int))∧Below W.heap.size W w':=by
 obtain ⟨W1,hW1,hB,hbx,_⟩:=xbox W X
 have HB:=Lib.hid hB
 have HX:=Lib.hid hbx
 have HW:=Lib.hid hW1
 have hd:=T.deep i x hx
 obtain ⟨D,hD⟩:∃ D,D=x.deep:=⟨_,rfl⟩
 rw [← hD] at hd ⊢
 have HS:=Lib.hid (show ∃ y:Gr,S.G i=some y∧0+y.deep=D from ⟨x,hx,by omega⟩)
 have HAT:=Lib.hid (And.intro a T)
 clear hW1 hB hbx hx hD a T
 show Calls Tryz.prog _ #[.agg (xcells X).toArray,.int .i64 (i:Int)] W _
 go_enter Tryz.func91,Tryz.ntmps91
 go_wp2_with fail
 rw [← HW.out]
 go_loopw [1,5] (fun s1 s5 wr=>∃ (j m:Nat),s1=.int .i64 (j:Int)∧s5=.int .i64 (m:Int)∧Hid (∃ y:Gr,S.G j=some y∧m+y.deep=D)∧W1=wr) (fun s1 _ _=>(grOf S (intOf s1).toNat).deep)
 case atStart=>exact ⟨i,0,rfl,rfl,HS,rfl⟩
 case round =>
  obtain ⟨j,m,rfl,rfl,HY,rfl⟩:=hrel
  obtain ⟨y,hy,hm⟩:=HY.out
  have hj:=HAT.out.2.lt hy
  by_cases h0:j=0
  ·
   subst h0
   have hm2:m=D:=by
    obtain ⟨g,e1,_,e3⟩:=HAT.out.2.root
    rw [hy] at e1
    injection e1 with e1
    subst e1
    omega
   subst hm2
   clear hm hy hj
   go_wp2_with fail
   go_ret
   exact ⟨rfl,HB.out⟩
  ·
   obtain ⟨u,p,e1,e2,e3⟩:=HAT.out.2.up j y h0 hy
   have c0:=HX.out.up hj
   rw [(HAT.out.1.is j y hy).1,e1] at c0
   have z0:((j:Int) == 0)=false:=by rw [beq_eq_false_iff_ne];omega
   have z1:((j:Int) != 0)=true:=by rw [bne_iff_ne];omega
   have z2:decide ((j:Int)=0)=false:=decide_eq_false (by omega)
   have z3:decide (j=0)=false:=decide_eq_false h0
   have j0:(0:Int)≤(j:Int):=by omega
   have j2:(j:Int)<32:=by omega
   have j5:decide (j<32)=true:=decide_eq_true hj
   have m0:(0:Int)≤(m:Int):=by omega
   have m1:(m:Int)<100:=by omega
   have HR:=Lib.hid (show ∃ y:Gr,S.G u=some y∧(m+1)+y.deep=D from ⟨p,e2,by omega⟩)
   have HM:=Lib.hid (show (grOf S ((u:Int)).toNat).deep<(grOf S ((j:Int)).toNat).deep by
    show ((S.G ((u:Int)).toNat).getD _).deep<((S.G ((j:Int)).toNat).getD _).deep
    rw [Int.toNat_natCast,Int.toNat_natCast,e2,hy]
    show p.deep<y.deep
    omega)
   clear hm hy hj e1 e2 e3
   go_wp2_with fail
   go_roundw
   case rel=>exact ⟨u,m+1,rfl,by go_num,HR,by first | rfl | trivial⟩
   case measure=>exact HM.out
set_option maxRecDepth 100000 in
set_option maxHeartbeats 4000000 in
theorem xunder_any (a:XAt w S X) (T:HTree S) {i:Nat} {x:Gr} (hx:S.G i=some x) (t:Nat) (W:World):Calls Tryz.prog 94 #[xV X,.int .i64 (i:Int),.int .i64 (t:Int)] W fun e w'=>e=.returned (.bool (underF 9 S i (t:Int)))∧Below W.heap.size W w':=by
 obtain ⟨W1,hW1,hB,hbx,_⟩:=xbox W X
 have HB:=Lib.hid hB
 have HX:=Lib.hid hbx
 have HW:=Lib.hid hW1
 have hd:=T.deep i x hx
 obtain ⟨R,hR⟩:∃ R,R=underF 9 S i (t:Int):=⟨_,rfl⟩
 rw [← hR]
 have HS:=Lib.hid (show ∃ (n:Nat) (y:Gr),y.deep<n∧S.G i=some y∧R=underF n S i (t:Int) from ⟨9,x,by omega,hx,hR⟩)
 have HAT:=Lib.hid (And.intro a T)
 clear hW1 hB hbx hx hR a T hd
 show Calls Tryz.prog _ #[.agg (xcells X).toArray,.int .i64 (i:Int),.int .i64 (t:Int)] W _
 go_enter Tryz.func94,Tryz.ntmps94
 go_wp2_with fail
 rw [← HW.out]
 go_loopw [1] (fun s1 wr=>∃ (j:Nat),s1=.int .i64 (j:Int)∧Hid (∃ (n:Nat) (y:Gr),y.deep<n∧S.G j=some y∧R=underF n S j (t:Int))∧W1=wr) (fun s1 _=>(grOf S (intOf s1).toNat).deep)
 case atStart=>exact ⟨i,rfl,HS,rfl⟩
 case round =>
  obtain ⟨j,rfl,HY,rfl⟩:=hrel
  obtain ⟨n,y,hn,hy,hR⟩:=HY.out
  have hj:=HAT.out.2.lt hy
  match n,hn with
  | n+1,hn =>
  unfold underF at hR
  by_cases hjt:j=t
  ·
   subst hjt
   rw [if_pos rfl] at hR
   subst hR
   clear hn hy hj HY
   go_wp2_with fail
   go_ret
   exact ⟨rfl,HB.out⟩
  ·
   rw [if_neg (by omega),hy] at hR
   dsimp only at hR
   have t0:((j:Int) == (t:Int))=false:=by rw [beq_eq_false_iff_ne];omega
   have t1:((j:Int) != (t:Int))=true:=by rw [bne_iff_ne];omega
   have t2:decide ((j:Int)=(t:Int))=false:=decide_eq_false (by omega)
   have t3:decide (j=t)=false:=decide_eq_false hjt
   by_cases h0:j=0
   ·
    subst h0
    have hup:y.up = -1:=by
     obtain ⟨g,e1,e2,_⟩:=HAT.out.2.root
     rw [hy] at e1
     injection e1 with e1
     subst e1
     exact e2
    rw [if_pos hup] at hR
    subst hR
    clear hn hy hj HY hup
    have t4:((0:Int) == (t:Int))=false:=by rw [beq_eq_false_iff_ne];omega
    have t5:((0:Int) != (t:Int))=true:=by rw [bne_iff_ne];omega
    have t6:decide ((0:Int)=(t:Int))=false:=decide_eq_false (by omega)
    go_wp2_with fail
    go_ret
    exact ⟨rfl,HB.out⟩
   ·
    obtain ⟨u,p,e1,e2,e3⟩:=HAT.out.2.up j y h0 hy
    have c0:=HX.out.up hj
    rw [(HAT.out.1.is j y hy).1,e1] at c0
    rw [if_neg (by omega),e1,Int.toNat_natCast] at hR
    have z0:((j:Int) == 0)=false:=by rw [beq_eq_false_iff_ne];omega
    have z1:((j:Int) != 0)=true:=by rw [bne_iff_ne];omega
    have z2:decide ((j:Int)=0)=false:=decide_eq_false (by omega)
    have z3:decide (j=0)=false:=decide_eq_false h0
    have j0:(0:Int)≤(j:Int):=by omega
    have j2:(j:Int)<32:=by omega
    have j5:decide (j<32)=true:=decide_eq_true hj
    have HR:=Lib.hid (show ∃ (n:Nat) (y:Gr),y.deep<n∧S.G u=some y∧R=underF n S u (t:Int) from ⟨n,p,by omega,e2,hR⟩)
    have HM:=Lib.hid (show (grOf S ((u:Int)).toNat).deep<(grOf S ((j:Int)).toNat).deep by
     show ((S.G ((u:Int)).toNat).getD _).deep<((S.G ((j:Int)).toNat).getD _).deep
     rw [Int.toNat_natCast,Int.toNat_natCast,e2,hy]
     show p.deep<y.deep
     omega)
    clear hn hy hj e1 e2 e3 hR HY
    go_wp2_with fail
    go_roundw
    case rel=>exact ⟨u,rfl,HR,by first | rfl | trivial⟩
    case measure=>exact HM.out
theorem on_iff (I:HInv S) {i u:Nat} {x p:Gr} (h0:i≠0) (hi:S.G i=some x) (hu:x.up=((u:Nat):Int)) (hp:S.G u=some p):decide (0≤idxZ (fnd p.q.L (2*(i:Int)+1)))=x.on:=by
 cases hf:fnd p.q.L (2*(i:Int)+1) with
 | none =>
  cases hon:x.on with
  | false=>rfl
  | true =>
   obtain ⟨e,he,hie⟩:=I.on i x u p h0 hi hu hp hon
   exact absurd (List.mem_map.2 ⟨e,he,hie⟩) (fnd_none_iff hf)
 | some k =>
  have hm:=fnd_mem hf
  obtain ⟨e,he,hie⟩:=List.mem_map.1 hm
  have hon:x.on=true:=by
   rcases I.ids u p hp e he with ⟨t,_,h⟩ | ⟨k2,y,h,_,hk,_,hyon⟩
   · omega
   ·
    have:k2=i:=by omega
    subst this
    rw [hi] at hk
    injection hk with hk
    subst hk
    exact hyon
  rw [hon]
  exact decide_eq_true (Int.natCast_nonneg _)
set_option maxRecDepth 100000 in
theorem xon_not (X:XH) {g:Int} (M:∀ W,Calls Tryz.prog 33 #[xV X,.int .i64 g] W fun e w'=>e=.returned (.bool false)∧Below W.heap.size W w') (w:World) :
  Calls Tryz.prog 31 #[xV X,.int .i64 g] w fun e w'=>e=.returned (.bool false)∧Below w.heap.size w w':=by
 obtain ⟨W1,hW1,hB,hbx,_⟩:=xbox w X
 have hrg:=hbx.range
 rw [hW1] at hrg
 have HB:=Lib.hid hB
 have HR:=Lib.hid (And.intro hrg (xinf X))
 have HW:=Lib.hid hW1
 have M1:=Lib.hid M
 clear hW1 hB hbx hrg M
 show Calls Tryz.prog _ #[.agg (xcells X).toArray,.int .i64 g] w _
 go_enter Tryz.func31,Tryz.ntmps31
 go_wp2_with (refine wpList_wload_mid rfl 38 (.tmp 2) rfl w.heap.size 0 rfl (xcells X) _ HR.out.1 Tryz.underlying38 rfl HR.out.2 ?_)
 rw [← HW.out]
 refine (M1.out _).mono ?_
 rintro e w' ⟨rfl,hb⟩
 go_wp2_with fail
 go_ret
 exact ⟨rfl,HB.out.trans (hb.mono HB.out.size)⟩
set_option maxRecDepth 100000 in
theorem xon_is (a:XAt w S X) (H:HInv S) {i:Nat} {x:Gr} (h0:i≠0) (hi:S.G i=some x) {W:World} (k:Below w.heap.size w W) :
  Calls Tryz.prog 31 #[xV X,.int .i64 (i:Int)] W fun e w'=>e=.returned (.bool x.on)∧Below W.heap.size W w':=by
 obtain ⟨u,p,hu,hp,_⟩:=H.tree.up i x h0 hi
 obtain ⟨W1,hW1,hB,hbx,_⟩:=xbox W X
 have hi32:=H.tree.lt hi
 have hu32:=H.tree.lt hp
 have ML:=xlinked_any a H.tree (i:Int) W1
 have el:(S.linked (i:Int)).isSome=true:=by rw [HS.linked,if_neg (by omega),S.at_nat hi32,hi];rfl
 rw [el] at ML
 have hq:=(a.is u p hp).2.1
 have MF:∀ W2,Below W1.heap.size W1 W2→Calls Tryz.prog 74 #[rqV (X.g u).A (X.g u).q.L.length (X.g u).c (X.g u).q.cur (X.g u).q.mn (X.g u).q.over,.int .i64 (2*(i:Int)+1)] W2 fun e w'=>e=.returned (.int .i64 (idxZ (fnd p.q.L (2*(i:Int)+1))))∧Below W2.heap.size W2 w':=fun W2 h2=>by
  have hb2:Below w.heap.size w W2:=(k.trans (hB.mono k.size)).trans (h2.mono (Nat.le_trans k.size hB.size))
  have hr:=(a.row u hu32).1.below hb2
  have hlen:=(H.qok u p hp).len
  have:=rfind_any (X.g u).A (X.g u).c (X.g u).q.L (X.g u).q.cur (X.g u).q.mn (X.g u).q.over (2*(i:Int)+1) W2 (hr.mono hb2.size) (by rw [hq];omega)
  rw [hq] at this ⊢
  exact this
 have hz:=on_iff H h0 hi hu hp
 generalize idxZ (fnd p.q.L (2*(i:Int)+1))=z at *
 have hup:=(a.is i x hi).1
 have HF:=Lib.hid (And.intro hbx (And.intro (hup.trans hu) hu32))
 have hrg:=hbx.range
 rw [hW1] at hrg
 have HB:=Lib.hid hB
 have HR:=Lib.hid (And.intro hrg (xinf X))
 have HW:=Lib.hid hW1
 have ML:=Lib.hid ML
 have MF:=Lib.hid MF
 have HZ:=Lib.hid hz
 have j0:(0:Int)≤(i:Int):=by omega
 have j2:(i:Int)<32:=by omega
 have j5:decide (i<32)=true:=decide_eq_true hi32
 have u0:(0:Int)≤(u:Int):=by omega
 have u2:(u:Int)<32:=by omega
 have u5:decide (u<32)=true:=decide_eq_true hu32
 clear hW1 hB hbx hrg hu hp hi32 hu32 el hq hup a k hi hz
 show Calls Tryz.prog _ #[.agg (xcells X).toArray,.int .i64 (i:Int)] W _
 go_enter Tryz.func31,Tryz.ntmps31
 go_wp2_with (refine wpList_wload_mid rfl 38 (.tmp 2) rfl W.heap.size 0 rfl (xcells X) _ HR.out.1 Tryz.underlying38 rfl HR.out.2 ?_)
 rw [← HW.out]
 refine ML.out.mono ?_
 rintro e w2 ⟨rfl,hb⟩
 have hbx2:=HF.out.1.below hb
 have c0:=hbx2.up (show i<32 by omega)
 rw [HF.out.2.1] at c0
 obtain ⟨q0,q1,q2,q3⟩:=hbx2.q HF.out.2.2
 have H2:=Lib.hid hb
 clear hb hbx2
 go_wp2_with fail
 refine (MF.out w2 H2.out).mono ?_
 rintro e w3 ⟨rfl,hb3⟩
 have H3:=Lib.hid hb3
 clear hb3 c0 q0 q1 q2 q3
 go_wp2_with fail
 go_ret
 refine ⟨?_,HB.out.trans ((H2.out.trans (H3.out.mono H2.out.size)).mono HB.out.size)⟩
 rw [← HZ.out]
 rfl
end
end Go.Proofs.YtefekboacghnjaaGreat
namespace Go.Proofs.YtefekboacghnjaaGreat
open Go.RowKit Go.Maps
set_option maxRecDepth 100000 in
theorem refSub_yes (a b:Int) (_ha1:-9223372036854775808≤a) (_ha2:a≤9223372036854775807) (hb1:-9223372036854775808≤b) (hb2:b≤9223372036854775807) (h1:-9223372036854775808≤a - b) (h2:a - b≤9223372036854775807) (w:World) :
  Calls Tryz.prog 141 #[.int .i64 a,.int .i64 b] w fun e w'=>e=.returned (.tuple #[.int .i64 (a - b),.bool true])∧w=w':=by
 by_cases p:b<0
 ·
  have t1:decide (b<0)=true:=decide_eq_true p
  have t2:decide (0<b)=false:=decide_eq_false (by omega)
  have t3:decide (9223372036854775807+b<a)=false:=decide_eq_false (by omega)
  go_enter Tryz.func141,Tryz.ntmps141
  go_wp2_with fail
  go_ret2
  exact ⟨rfl,rfl⟩
 ·
  have t1:decide (b<0)=false:=decide_eq_false p
  by_cases q:0<b
  ·
   have t2:decide (0<b)=true:=decide_eq_true q
   have t3:decide (a < -9223372036854775808+b)=false:=decide_eq_false (by omega)
   go_enter Tryz.func141,Tryz.ntmps141
   go_wp2_with fail
   go_ret2
   exact ⟨rfl,rfl⟩
  ·
   have t2:decide (0<b)=false:=decide_eq_false q
   go_enter Tryz.func141,Tryz.ntmps141
   go_wp2_with fail
   go_ret2
   exact ⟨rfl,rfl⟩
set_option maxRecDepth 100000 in
theorem refSub_no (a b:Int) (ha1:-9223372036854775808≤a) (ha2:a≤9223372036854775807) (hb1:-9223372036854775808≤b) (hb2:b≤9223372036854775807) (h:a - b < -9223372036854775808∨9223372036854775807<a - b) (w:World) :
  Calls Tryz.prog 141 #[.int .i64 a,.int .i64 b] w fun e w'=>e=.returned (.tuple #[.int .i64 0,.bool false])∧w=w':=by
 by_cases p:b<0
 ·
  have t1:decide (b<0)=true:=decide_eq_true p
  have t2:decide (0<b)=false:=decide_eq_false (by omega)
  have t3:decide (9223372036854775807+b<a)=true:=decide_eq_true (by omega)
  clear h
  go_enter Tryz.func141,Tryz.ntmps141
  go_wp2_with fail
  go_ret2
  exact ⟨rfl,rfl⟩
 ·
  have t1:decide (b<0)=false:=decide_eq_false p
  have t2:decide (0<b)=true:=decide_eq_true (by omega)
  have t3:decide (a < -9223372036854775808+b)=true:=decide_eq_true (by omega)
  clear h
  go_enter Tryz.func141,Tryz.ntmps141
  go_wp2_with fail
  go_ret2
  exact ⟨rfl,rfl⟩
theorem refSub_any (a b:Int) (ha1:-9223372036854775808≤a) (ha2:a≤9223372036854775807) (hb1:-9223372036854775808≤b) (hb2:b≤9223372036854775807):∃ x,∀ w:World,
  Calls Tryz.prog 141 #[.int .i64 a,.int .i64 b] w fun e w'=>e=.returned (.tuple #[.int .i64 x,.bool (!overZ a (-b))])∧w=w':=by
 by_cases h:a - b < -9223372036854775808∨9223372036854775807<a - b
 ·
  refine ⟨0,fun w=>?_⟩
  have e:overZ a (-b)=true:=decide_eq_true (by omega)
  rw [e]
  exact refSub_no a b ha1 ha2 hb1 hb2 h w
 ·
  refine ⟨a - b,fun w=>?_⟩
  have e:overZ a (-b)=false:=decide_eq_false (by omega)
  rw [e]
  exact refSub_yes a b ha1 ha2 hb1 hb2 (by omega) (by omega) w
set_option maxRecDepth 100000 in
theorem refLess_any (a b:Int) (ha1:-9223372036854775808≤a) (ha2:a≤9223372036854775807) (hb1:-9223372036854775808≤b) (hb2:b≤9223372036854775807) (w:World) :
  Calls Tryz.prog 127 #[.int .i64 a,.int .i64 b] w fun e w'=>e=.returned (.int .i64 (satZ a (-b)))∧w=w':=by
 by_cases h:a - b < -9223372036854775808∨9223372036854775807<a - b
 ·
  have M1:=Lib.hid fun W=>refSub_no a b ha1 ha2 hb1 hb2 h W
  by_cases p:b<0
  ·
   have e:satZ a (-b)=9223372036854775807:=by unfold satZ;rw [if_pos (by omega)]
   rw [e]
   have t1:decide (b<0)=true:=decide_eq_true p
   clear e h
   go_enter Tryz.func127,Tryz.ntmps127
   go_wp2_with fail
   refine (M1.out _).mono ?_
   rintro e w' ⟨rfl,rfl⟩
   go_wp2_with fail
   go_ret
   exact ⟨rfl,rfl⟩
  ·
   have e:satZ a (-b) = -9223372036854775808:=by unfold satZ;rw [if_neg (by omega),if_pos (by omega)]
   rw [e]
   have t1:decide (b<0)=false:=decide_eq_false p
   clear e h
   go_enter Tryz.func127,Tryz.ntmps127
   go_wp2_with fail
   refine (M1.out _).mono ?_
   rintro e w' ⟨rfl,rfl⟩
   go_wp2_with fail
   go_ret
   exact ⟨rfl,rfl⟩
 ·
  have e:satZ a (-b)=a - b:=by rw [satZ_in a (-b) (by omega) (by omega)];omega
  have m1:=fun W=>refSub_yes a b ha1 ha2 hb1 hb2 (by omega) (by omega) W
  rw [← e] at m1
  have M1:=Lib.hid m1
  generalize satZ a (-b)=s at *
  clear e m1 h
  go_enter Tryz.func127,Tryz.ntmps127
  go_wp2_with fail
  refine (M1.out _).mono ?_
  rintro e w' ⟨rfl,rfl⟩
  go_wp2_with fail
  go_ret
  exact ⟨rfl,rfl⟩
set_option maxRecDepth 100000 in
theorem refWake_any (own mn c:Int) (hm1:-9223372036854775808≤mn) (hm2:mn≤9223372036854775807) (w:World) :
  Calls Tryz.prog 100 #[.int .i64 own,.int .i64 mn,.int .i64 c] w fun e w'=>e=.returned (.int .i64 (wakeZ own mn c))∧w=w':=by
 have M1:=Lib.hid fun W=>refHold_any c 0 1099511627776 W
 have hh:=holdZ_credit c
 have M2:=Lib.hid fun W=>refLess_any mn (holdZ c 0 1099511627776) hm1 hm2 (by omega) (by omega) W
 have e:wakeZ own mn c=max own (satZ mn (-(holdZ c 0 1099511627776))):=rfl
 rw [e]
 generalize satZ mn (-(holdZ c 0 1099511627776))=s at *
 generalize holdZ c 0 1099511627776=cc at *
 clear e hh
 by_cases hs:s<own
 ·
  have t1:decide (s<own)=true:=decide_eq_true hs
  have e:max own s=own:=by omega
  rw [e]
  clear e hs
  go_enter Tryz.func100,Tryz.ntmps100
  go_wp2_with fail
  refine (M1.out _).mono ?_
  rintro e w' ⟨rfl,rfl⟩
  go_wp2_with fail
  refine (M2.out _).mono ?_
  rintro e w' ⟨rfl,rfl⟩
  go_wp2_with fail
  go_ret
  exact ⟨rfl,rfl⟩
 ·
  have t1:decide (s<own)=false:=decide_eq_false hs
  have e:max own s=s:=by omega
  rw [e]
  clear e hs
  go_enter Tryz.func100,Tryz.ntmps100
  go_wp2_with fail
  refine (M1.out _).mono ?_
  rintro e w' ⟨rfl,rfl⟩
  go_wp2_with fail
  refine (M2.out _).mono ?_
  rintro e w' ⟨rfl,rfl⟩
  go_wp2_with fail
  go_ret
  exact ⟨rfl,rfl⟩
set_option maxRecDepth 100000 in
theorem refOff_any (a b:Int) (ha1:-9223372036854775808≤a) (ha2:a≤9223372036854775807) (hb1:-9223372036854775808≤b) (hb2:b≤9223372036854775807) (w:World) :
  Calls Tryz.prog 120 #[.int .i64 a,.int .i64 b] w fun e w'=>e=.returned (.tuple #[.int .i64 (satZ a (-b)),.bool (overZ a (-b))])∧w=w':=by
 obtain ⟨x,M⟩:=refSub_any a b ha1 ha2 hb1 hb2
 have M1:=Lib.hid M
 have M2:=Lib.hid fun W=>refLess_any a b ha1 ha2 hb1 hb2 W
 clear M
 cases ho:overZ a (-b) with
 | false =>
  rw [ho] at M1
  clear ho
  generalize satZ a (-b)=s at *
  go_enter Tryz.func120,Tryz.ntmps120
  go_wp2_with fail
  refine (M1.out _).mono ?_
  rintro e w' ⟨rfl,rfl⟩
  go_wp2_with fail
  refine (M2.out _).mono ?_
  rintro e w' ⟨rfl,rfl⟩
  go_wp2_with fail
  go_ret2
  exact ⟨rfl,rfl⟩
 | true =>
  rw [ho] at M1
  clear ho
  generalize satZ a (-b)=s at *
  go_enter Tryz.func120,Tryz.ntmps120
  go_wp2_with fail
  refine (M1.out _).mono ?_
  rintro e w' ⟨rfl,rfl⟩
  go_wp2_with fail
  refine (M2.out _).mono ?_
  rintro e w' ⟨rfl,rfl⟩
  go_wp2_with fail
  go_ret2
  exact ⟨rfl,rfl⟩
set_option maxRecDepth 100000 in
theorem refOn_any (a b:Int) (ha1:-9223372036854775808≤a) (ha2:a≤9223372036854775807) (hb1:-9223372036854775808≤b) (hb2:b≤9223372036854775807) (w:World) :
  Calls Tryz.prog 121 #[.int .i64 a,.int .i64 b] w fun e w'=>e=.returned (.tuple #[.int .i64 (satZ a b),.bool (overZ a b)])∧w=w':=by
 obtain ⟨x,M⟩:=refAdd_any a b ha1 ha2 hb1 hb2
 have M1:=Lib.hid M
 have M2:=Lib.hid fun W=>refSat_any a b ha1 ha2 hb1 hb2 W
 clear M
 cases ho:overZ a b with
 | false =>
  rw [ho] at M1
  clear ho
  generalize satZ a b=s at *
  go_enter Tryz.func121,Tryz.ntmps121
  go_wp2_with fail
  refine (M1.out _).mono ?_
  rintro e w' ⟨rfl,rfl⟩
  go_wp2_with fail
  refine (M2.out _).mono ?_
  rintro e w' ⟨rfl,rfl⟩
  go_wp2_with fail
  go_ret2
  exact ⟨rfl,rfl⟩
 | true =>
  rw [ho] at M1
  clear ho
  generalize satZ a b=s at *
  go_enter Tryz.func121,Tryz.ntmps121
  go_wp2_with fail
  refine (M1.out _).mono ?_
  rintro e w' ⟨rfl,rfl⟩
  go_wp2_with fail
  refine (M2.out _).mono ?_
  rintro e w' ⟨rfl,rfl⟩
  go_wp2_with fail
  go_ret2
  exact ⟨rfl,rfl⟩
set_option maxRecDepth 100000 in
theorem refMove_any (v f t:Int) (hv1:-9223372036854775808≤v) (hv2:v≤9223372036854775807) (hf1:-9223372036854775808≤f) (hf2:f≤9223372036854775807) (ht1:-9223372036854775808≤t) (ht2:t≤9223372036854775807) (w:World) :
  Calls Tryz.prog 95 #[.int .i64 v,.int .i64 f,.int .i64 t] w fun e w'=>e=.returned (.tuple #[.int .i64 (satZ (satZ v (-f)) t),.bool (overZ v (-f) || overZ (satZ v (-f)) t)])∧w=w':=by
 have M1:=Lib.hid fun W=>refOff_any v f hv1 hv2 hf1 hf2 W
 have M2:=Lib.hid fun W=>refOn_any (satZ v (-f)) t (satZ_lo _ _) (satZ_hi _ _) ht1 ht2 W
 generalize overZ (satZ v (-f)) t=o2 at *
 generalize satZ (satZ v (-f)) t=s2 at *
 generalize satZ v (-f)=s at *
 generalize overZ v (-f)=o1 at *
 cases o1 with
 | false =>
  go_enter Tryz.func95,Tryz.ntmps95
  go_wp2_with fail
  refine (M1.out _).mono ?_
  rintro e w' ⟨rfl,rfl⟩
  go_wp2_with fail
  refine (M2.out _).mono ?_
  rintro e w' ⟨rfl,rfl⟩
  go_wp2_with fail
  go_ret2
  exact ⟨rfl,rfl⟩
 | true =>
  go_enter Tryz.func95,Tryz.ntmps95
  go_wp2_with fail
  refine (M1.out _).mono ?_
  rintro e w' ⟨rfl,rfl⟩
  go_wp2_with fail
  refine (M2.out _).mono ?_
  rintro e w' ⟨rfl,rfl⟩
  go_wp2_with fail
  go_ret2
  exact ⟨rfl,rfl⟩
end Go.Proofs.YtefekboacghnjaaGreat
namespace Go.Proofs.YtefekboacghnjaaGreat
open Go.RowKit Go.Maps
theorem Blk.sets {b:Nat} {t:TypeId}:∀ (vs mid pre post:List Value) (w:World),mid.length=vs.length→Blk w b (pre++(mid++post)).toArray t→Blk (w.setCells b pre.length vs) b (pre++(vs++post)).toArray t
 | [],mid,pre,post,w,hl,h=>by
  have:mid=[]:=List.eq_nil_of_length_eq_zero hl
  subst this
  exact h
 | v::vs,[],pre,post,w,hl,h=>by simp at hl
 | v::vs,m::mid,pre,post,w,hl,h=>by
  have h2:=Blk.set h pre.length v
  have e:(pre++((m::mid)++post)).toArray.setIfInBounds pre.length v=((pre++[v])++(mid++post)).toArray:=by
   rw [List.setIfInBounds_toArray]
   congr 1
   simp
  rw [e] at h2
  have h3:=Blk.sets vs mid (pre++[v]) post _ (by simpa using hl) h2
  simp only [List.length_append,List.length_cons,List.length_nil,List.append_assoc,List.cons_append,List.nil_append] at h3
  exact h3
theorem below_sets {B:Nat} {a:World} {b:Nat} (h:B≤b):∀ (vs:List Value) (o:Nat) (w:World),Below B a w→Below B a (w.setCells b o vs)
 | [],_,_,k=>k
 | v::vs,o,w,k=>below_sets h vs (o+1) _ (k.setCell h v)
theorem size_sets {b:Nat}:∀ (vs:List Value) (o:Nat) (w:World),(w.setCells b o vs).heap.size=w.heap.size
 | [],_,_=>rfl
 | v::vs,o,w=>(size_sets vs (o+1) _).trans (by simp)
theorem other_sets {b c:Nat} (h:c≠b):∀ (vs:List Value) (o:Nat) (w:World),(w.setCells b o vs).heap[c]?=w.heap[c]?
 | [],_,_=>rfl
 | v::vs,o,w=>(other_sets h vs (o+1) _).trans (Below.heap_setCell w ⟨b,o,none⟩ v c h)
/- what a function answers, where its first result lies in a box -/
theorem res_cell {P:Program} {fn:Func} {tmps:Array Value} {a:Nat} {t:TypeId} {p:Addr} {v:Value} {w:World} (h:fn.results=#[.cell a t]) (h1:tmps.getD a undef=.pointer (some p)) (hl:(loadVar t p).run P w=.ok v w) :
  (results fn tmps).run P w=.ok v w:=by
 unfold results
 rw [h]
 rw [Array.getD_eq_getD_getElem?] at h1
 simp [h1,asAddr,hl,Sem.run_bind]
theorem res_cell_tmp {P:Program} {fn:Func} {tmps:Array Value} {a b:Nat} {t:TypeId} {p:Addr} {u v:Value} {w:World} (h:fn.results=#[.cell a t,.tmp b]) (h1:tmps.getD a undef=.pointer (some p)) (h2:tmps.getD b undef=u) (hl:(loadVar t p).run P w=.ok v w) :
  (results fn tmps).run P w=.ok (.tuple #[v,u]) w:=by
 unfold results
 rw [h]
 rw [Array.getD_eq_getD_getElem?] at h1 h2
 simp [h1,h2,asAddr,hl,Sem.run_bind]
theorem res_cell2_tmp {P:Program} {fn:Func} {tmps:Array Value} {a a2 b:Nat} {t t2:TypeId} {p p2:Addr} {u v v2:Value} {w:World} (h:fn.results=#[.cell a t,.cell a2 t2,.tmp b]) (h1:tmps.getD a undef=.pointer (some p)) (h3:tmps.getD a2 undef=.pointer (some p2)) (h2:tmps.getD b undef=u)
  (hl:(loadVar t p).run P w=.ok v w) (hl2:(loadVar t2 p2).run P w=.ok v2 w):(results fn tmps).run P w=.ok (.tuple #[v,v2,u]) w:=by
 unfold results
 rw [h]
 rw [Array.getD_eq_getD_getElem?] at h1 h2 h3
 simp [h1,h2,h3,asAddr,hl,hl2,Sem.run_bind]
theorem four_low {B:Nat} {a w:World} (hb:Below B a w) (b:Nat) (h:B≤b) (k:Nat) (u0 u1 u2 u3:Value):Below B a ((((w.setCell ⟨b,k,none⟩ u0).setCell ⟨b,k+1,none⟩ u1).setCell ⟨b,k+2,none⟩ u2).setCell ⟨b,k+3,none⟩ u3) :=
 (((hb.setCell h _).setCell h _).setCell h _).setCell h _
theorem four_oth (w:World) (b k:Nat) (u0 u1 u2 u3:Value) {b':Nat} (h:b'≠b):((((w.setCell ⟨b,k,none⟩ u0).setCell ⟨b,k+1,none⟩ u1).setCell ⟨b,k+2,none⟩ u2).setCell ⟨b,k+3,none⟩ u3).heap[b']?=w.heap[b']? :=
 (Below.heap_setCell _ ⟨b,k+3,none⟩ u3 b' h).trans ((Below.heap_setCell _ ⟨b,k+2,none⟩ u2 b' h).trans ((Below.heap_setCell _ ⟨b,k+1,none⟩ u1 b' h).trans (Below.heap_setCell _ ⟨b,k,none⟩ u0 b' h)))
theorem four_siz (w:World) (b k:Nat) (u0 u1 u2 u3:Value):((((w.setCell ⟨b,k,none⟩ u0).setCell ⟨b,k+1,none⟩ u1).setCell ⟨b,k+2,none⟩ u2).setCell ⟨b,k+3,none⟩ u3).heap.size=w.heap.size:=by simp
theorem xcell_one (X:XH) (k:Nat):(xcell X k).oneCell'=true:=by
 unfold xcell
 split
 · rfl
 ·
  split
  · rfl
  ·
   split
   · unfold qcell;split <;> rfl
   ·
    split
    · rfl
    ·
     split
     · unfold ecell;split <;> rfl
     · rfl
theorem xcells_one (X:XH):(xcells X).toArray.all (·.oneCell')=true:=all_oneCell_toArray fun v hv=>by
 obtain ⟨k,_,rfl⟩:=List.mem_map.1 hv
 exact xcell_one X k
theorem xsize (X:XH):(xcells X).toArray.size=322:=by rw [List.size_toArray,xcells_len]
theorem xinfA (X:XH):(Tryz.prog.info? 38).map (·.size)=some (xcells X).toArray.size:=by rw [xsize];exact xinf0
def XRes (w:World) (b:Nat):Prop:=∃ zs:Array Value,zs.size=322∧Blk w b zs 38
theorem XRes.there {w:World} {b:Nat} (h:XRes w b) (X:XH):w.there b 0 (xcells X).toArray.size:=by
 obtain ⟨zs,h1,h2⟩:=h
 rw [xsize]
 intro j hj
 rw [Nat.zero_add,Blk.cell h2 j]
 exact ⟨by rw [Array.getElem?_eq_getElem (by omega)];rfl,Blk.frozen h2 j⟩
theorem XRes.stored {w:World} {b:Nat} (h:XRes w b) (X:XH):XBlk (w.setCells b 0 (xcells X)) b X:=by
 obtain ⟨zs,h1,h2⟩:=h
 have h3:Blk w b ([]++(zs.toList++[])).toArray 38:=by simpa using h2
 have h4:=Blk.sets (xcells X) zs.toList [] [] w (by rw [xcells_len];simpa using h1) h3
 rw [List.nil_append,List.append_nil,List.length_nil] at h4
 exact h4
theorem XRes.below {w w':World} {b:Nat} (h:XRes w b) (k:Below w.heap.size w w'):XRes w' b:=by
 obtain ⟨zs,h1,h2⟩:=h
 exact ⟨zs,h1,h2.below k h2.lt⟩
theorem XRes.of {w w':World} {b:Nat} (h:XRes w b) (k:w'.heap[b]?=w.heap[b]?):XRes w' b:=by
 obtain ⟨zs,h1,h2⟩:=h
 exact ⟨zs,h1,h2.of k⟩
theorem xload {w:World} {b:Nat} {X:XH} (h:XBlk w b X):(loadVar 38 ⟨b,0,none⟩).run Tryz.prog w=.ok (xV X) w :=
 run_loadVar_mid w b 0 _ (xcells X) _ h.range Tryz.underlying38 rfl (xinf X)
theorem XAt.rows {w w':World} {S:HS} {X:XH} (a:XAt w S X) (hs:w.heap.size≤w'.heap.size) (e:∀ i ad,i<32→(X.g i).A=some ad→(X.g i).q.L≠[]→w'.heap[ad.block]?=w.heap[ad.block]?):∀ i,i<32→RQ w' w'.heap.size (X.g i).A (X.g i).c (X.g i).q.L:=fun i hi=>by
 have h:=a.row i hi
 refine ⟨?_,h.2⟩
 by_cases hne:(X.g i).q.L=[]
 · exact .inl hne
 ·
  obtain ⟨b,off,q1,q2,q3⟩:=h.1.at_ (List.length_pos_iff.2 hne)
  exact .inr ⟨b,off,q1,Nat.lt_of_lt_of_le q2 hs,fun j hj=>(q3 j hj).of (e i _ hi q1 hne)⟩
theorem XAt.lt {w:World} {S:HS} {X:XH} (a:XAt w S X) {i:Nat} {ad:Addr} (hi:i<32) (h1:(X.g i).A=some ad) (hne:(X.g i).q.L≠[]):ad.block<w.heap.size:=by
 obtain ⟨b,off,q1,q2,_⟩:=(a.row i hi).1.at_ (List.length_pos_iff.2 hne)
 rw [h1] at q1
 injection q1 with q1
 rw [q1]
 exact q2
theorem XAt.like {w:World} {S S':HS} {X:XH} (a:XAt w S X) (h1:S'.credit=S.credit) (h2:S'.gran=S.gran) (h3:∀ i,S.G i=none→S'.G i=none) (h4:∀ i x,S.G i=some x→∃ x',S'.G i=some x'∧x'.up=x.up∧x'.q=x.q∧x'.stopped=x.stopped∧(i≠0→x'.on=false→x.on=false∧x'.own=x.own)):XAt w S' X:=by
 have back:∀ i x',S'.G i=some x'→∃ x,S.G i=some x∧x'.up=x.up∧x'.q=x.q∧x'.stopped=x.stopped∧(i≠0→x'.on=false→x.on=false∧x'.own=x.own):=fun i x' hx'=>by
  cases hx:S.G i with
  | none=>rw [h3 i hx] at hx';simp at hx'
  | some x =>
   obtain ⟨y,e1,e2⟩:=h4 i x hx
   rw [hx'] at e1
   injection e1 with e1
   subst e1
   exact ⟨x,rfl,e2⟩
 refine ⟨a.cr.trans h1.symm,a.gr.trans h2.symm,fun i hi hn=>?_,fun i x' hx'=>?_,a.row,fun i x' hx'=>?_⟩
 ·
  cases hx:S.G i with
  | none=>exact a.no i hi hx
  | some x =>
   obtain ⟨y,e1,_⟩:=h4 i x hx
   rw [hn] at e1
   simp at e1
 ·
  obtain ⟨x,hx,e1,e2,e3,e4⟩:=back i x' hx'
  obtain ⟨f1,f2,f3,f4⟩:=a.is i x hx
  exact ⟨f1.trans e1.symm,f2.trans e2.symm,fun h0=>(f3 h0).trans e3.symm,fun h0 hon=>(f4 h0 (e4 h0 hon).1).trans (e4 h0 hon).2.symm⟩
 ·
  obtain ⟨x,hx,_,e2,_⟩:=back i x' hx'
  rw [e2]
  exact a.led i x hx
theorem XAt.put_on {w:World} {S:HS} {X:XH} (a:XAt w S X) {i:Nat} {x:Gr} (hx:S.G i=some x) (e:En):XAt w (S.put i (some { x with own:=e,on:=true })) X :=
 a.like rfl rfl (fun j hj=>by
  by_cases hji:j=i
  · subst hji;rw [hx] at hj;simp at hj
  · rw [HS.put_other _ _ hji];exact hj) fun j y hy=>by
  by_cases hji:j=i
  ·
   subst hji
   rw [hx] at hy
   injection hy with hy
   subst hy
   exact ⟨_,HS.put_same _ _ _,rfl,rfl,rfl,fun _ h=>by simp at h⟩
  · exact ⟨y,(HS.put_other _ _ hji).trans hy,rfl,rfl,rfl,fun _ h=>⟨h,rfl⟩⟩
structure XFr (r k:Nat) (w W:World) (X Y:XH) (S:HS):Prop where
 box:XBlk W w.heap.size Y
 res:XRes W (w.heap.size+r)
 at_:XAt W S Y
 bel:Below w.heap.size w W
 lim:0<r∧r≤k∧w.heap.size+k<W.heap.size
 or:∀ i a,i<32→(Y.g i).A=some a→(Y.g i).q.L≠[]→(a.block<w.heap.size∧∃ j,j<32∧(X.g j).A=some a∧(X.g j).q.L≠[])∨w.heap.size+k<a.block
theorem XFr.new {w:World} {X:XH} {S:HS} (a:XAt w S X):∃ W,W=(w.alloc (.cells (xcells X).toArray 38)).alloc (.cells Tryz.zeroCells38 38)∧XFr 1 1 w W X X S∧W.heap.size=w.heap.size+2:=by
 have hb:Below w.heap.size w ((w.alloc (.cells (xcells X).toArray 38)).alloc (.cells Tryz.zeroCells38 38)):=((Below.refl _ _).alloc (Nat.le_refl _) _).alloc (by simp) _
 have n1:=Blk.new (w.alloc (.cells (xcells X).toArray 38)) Tryz.zeroCells38 38
 rw [World.size_alloc] at n1
 exact ⟨_,rfl,⟨Blk.alloc (XBlk.new w X) _,⟨_,Tryz.zeroCells38_size,n1⟩,a.below hb,hb,⟨by omega,by omega,by simp⟩,fun i ad hi h1 h2=>.inl ⟨a.lt hi h1 h2,i,hi,h1,h2⟩⟩,by simp⟩
section
variable {r k:Nat} {w W W':World} {X Y Y':XH} {S S':HS}
theorem XFr.below (f:XFr r k w W X Y S) (hk:Below W.heap.size W W'):XFr r k w W' X Y S:=⟨f.box.below hk,f.res.below hk,f.at_.below hk,f.bel.trans (hk.mono f.bel.size),⟨f.lim.1,f.lim.2.1,Nat.lt_of_lt_of_le f.lim.2.2 hk.size⟩,f.or⟩
theorem XFr.like (f:XFr r k w W X Y S) (a:XAt W S' Y):XFr r k w W X Y S':=⟨f.box,f.res,a,f.bel,f.lim,f.or⟩
theorem XFr.lt (f:XFr r k w W X Y S):w.heap.size+k<W.heap.size:=f.lim.2.2
theorem XFr.apart (f:XFr r k w W X Y S) {i:Nat} {ad:Addr} (hi:i<32) (h1:(Y.g i).A=some ad) (hne:(Y.g i).q.L≠[]):ad.block≠w.heap.size∧ad.block≠w.heap.size+r:=by
 have:=f.lim
 rcases f.or i ad hi h1 hne with ⟨h,_⟩ | h <;> omega
theorem XFr.set2 (f:XFr r k w W X Y S) (hb:XBlk W' w.heap.size Y') (ho:∀ b,b≠w.heap.size→b<W.heap.size→W'.heap[b]?=W.heap[b]?) (hs:W.heap.size≤W'.heap.size) (hk:Below w.heap.size w W') (hrw:∀ i,((Y'.g i).A=(Y.g i).A∧(Y'.g i).c=(Y.g i).c∧(Y'.g i).q.L=(Y.g i).q.L)∨((Y'.g i).A=none∧(Y'.g i).c=0∧(Y'.g i).q.L=[]))
  (h1:Y'.credit=S'.credit) (h2:Y'.gran=S'.gran) (h3:∀ i,i<32→S'.G i=none→(Y'.g i).up = -1) (h4:∀ i x,S'.G i=some x→(Y'.g i).up=x.up∧(Y'.g i).q=x.q∧(i≠0→(Y'.g i).halt=x.stopped)∧(i≠0→x.on=false→(Y'.g i).own=x.own))
  (h5:∀ i x,S'.G i=some x→x.q.led):XFr r k w W' X Y' S':=by
 have hlim:=f.lim
 refine ⟨hb,f.res.of (ho _ (by omega) (by omega)),⟨h1,h2,h3,h4,fun i hi=>?_,h5⟩,hk,⟨hlim.1,hlim.2.1,by omega⟩,fun i ad hi e1 e2=>?_⟩
 ·
  rcases hrw i with h | ⟨e1,e2,e3⟩
  ·
   have:=f.at_.rows (w':=W') hs (fun j ad hj e1 e2=>ho _ (f.apart hj e1 e2).1 (f.at_.lt hj e1 e2)) i hi
   rw [h.1,h.2.1,h.2.2]
   exact this
  ·
   rw [e1,e2,e3]
   exact ⟨.inl rfl,fun _=>⟨rfl,rfl⟩,Nat.le_refl _⟩
 ·
  rcases hrw i with h | ⟨_,_,e3⟩
  ·
   rw [h.1] at e1
   rw [h.2.2] at e2
   exact f.or i ad hi e1 e2
  · exact absurd e3 e2
theorem XFr.set (f:XFr r k w W X Y S) (hb:XBlk W' w.heap.size Y') (ho:∀ b,b≠w.heap.size→W'.heap[b]?=W.heap[b]?) (hs:W'.heap.size=W.heap.size) (hk:Below w.heap.size w W') (hrw:∀ i,((Y'.g i).A=(Y.g i).A∧(Y'.g i).c=(Y.g i).c∧(Y'.g i).q.L=(Y.g i).q.L)∨((Y'.g i).A=none∧(Y'.g i).c=0∧(Y'.g i).q.L=[]))
  (h1:Y'.credit=S'.credit) (h2:Y'.gran=S'.gran) (h3:∀ i,i<32→S'.G i=none→(Y'.g i).up = -1) (h4:∀ i x,S'.G i=some x→(Y'.g i).up=x.up∧(Y'.g i).q=x.q∧(i≠0→(Y'.g i).halt=x.stopped)∧(i≠0→x.on=false→(Y'.g i).own=x.own))
  (h5:∀ i x,S'.G i=some x→x.q.led):XFr r k w W' X Y' S' :=
 f.set2 hb (fun b h _=>ho b h) (Nat.le_of_eq hs.symm) hk hrw h1 h2 h3 h4 h5
theorem XFr.queue (f:XFr r k w W X Y S) {i:Nat} {x:Gr} (hi:S.G i=some x) (hlt:i<32) {A':Option Addr} {c' n:Nat} {q':QS} {W1 W2:World} (hr:RfRes W W1 (Y.g i).A A' c' (Y.g i).q q') (hl:q'.led) (hk:Below W1.heap.size W1 W2) (hn:n=q'.L.length) :
  XFr r k w ((((W2.setCell ⟨w.heap.size,2+i*4,none⟩ (.slice A' n c')).setCell ⟨w.heap.size,2+i*4+1,none⟩ (.int .i64 q'.cur)).setCell ⟨w.heap.size,2+i*4+2,none⟩ (.int .i64 q'.mn)).setCell ⟨w.heap.size,2+i*4+3,none⟩ (.bool q'.over)) X
   (Y.put i { Y.g i with A:=A',c:=c',q:=q' }) (S.put i (some { x with q:=q' })):=by
 have hT:=f.at_.queue hi hlt hr hl
 have hB:Below W.heap.size W W2:=hr.res.bel.trans (hk.mono hr.res.bel.size)
 have f2:=f.below hB
 have a2:=hT.at_.below hk
 have hlow:=four_low (f2.bel) w.heap.size (Nat.le_refl _) (2+i*4) (.slice A' n c') (.int .i64 q'.cur) (.int .i64 q'.mn) (.bool q'.over)
 have hoth:∀ b,b≠w.heap.size→_:=fun b hb=>four_oth W2 w.heap.size (2+i*4) (.slice A' n c') (.int .i64 q'.cur) (.int .i64 q'.mn) (.bool q'.over) hb
 have hsz:=four_siz W2 w.heap.size (2+i*4) (.slice A' n c') (.int .i64 q'.cur) (.int .i64 q'.mn) (.bool q'.over)
 have hbx:=f2.box.set_q hlt A' c' n q' hn
 generalize (((W2.setCell ⟨w.heap.size,2+i*4,none⟩ (.slice A' n c')).setCell ⟨w.heap.size,2+i*4+1,none⟩ (.int .i64 q'.cur)).setCell ⟨w.heap.size,2+i*4+2,none⟩ (.int .i64 q'.mn)).setCell ⟨w.heap.size,2+i*4+3,none⟩ (.bool q'.over)=W3 at *
 have hor:∀ j a,j<32→((Y.put i { Y.g i with A:=A',c:=c',q:=q' }).g j).A=some a→((Y.put i { Y.g i with A:=A',c:=c',q:=q' }).g j).q.L≠[]→(a.block<w.heap.size∧∃ j,j<32∧(X.g j).A=some a∧(X.g j).q.L≠[])∨w.heap.size+k<a.block:=fun j a hj e1 e2=>by
  rcases hT.or j a hj e1 e2 with ⟨k2,hk1,hk2,hk3⟩ | h
  · exact f.or k2 a hk1 hk2 hk3
  ·
   have:=f.lt
   have:=f.lim
   exact .inr (by omega)
 have hlim:=f2.lim
 refine ⟨hbx,f2.res.of (hoth _ (by omega)),⟨a2.cr,a2.gr,a2.no,a2.is,a2.rows (by omega) (fun j ad hj e1 e2=>hoth _ ?_),a2.led⟩,hlow,⟨hlim.1,hlim.2.1,by omega⟩,hor⟩
 rcases hor j ad hj e1 e2 with ⟨h,_⟩ | h <;> omega
theorem XFr.done (f:XFr r k w W X Y S):XBlk (W.setCells (w.heap.size+r) 0 (xcells Y)) (w.heap.size+r) Y∧XTo w (W.setCells (w.heap.size+r) 0 (xcells Y)) X Y S:=by
 have hlim:=f.lim
 refine ⟨f.res.stored Y,⟨f.at_.cr,f.at_.gr,f.at_.no,f.at_.is,f.at_.rows (by rw [size_sets];exact Nat.le_refl _) (fun i ad hi e1 e2=>other_sets (f.apart hi e1 e2).2 _ _ _),f.at_.led⟩,below_sets (by omega) _ _ _ f.bel,fun i ad hi e1 e2=>?_⟩
 rcases f.or i ad hi e1 e2 with ⟨_,h⟩ | h
 · exact .inl h
 · exact .inr (by omega)
theorem XFr.done2 (f:XFr r k w W X Y S) {W1:World} {Y1:XH} {S1:HS} (t:XTo W W1 Y Y1 S1):XBlk (W1.setCells (w.heap.size+r) 0 (xcells Y1)) (w.heap.size+r) Y1∧XTo w (W1.setCells (w.heap.size+r) 0 (xcells Y1)) X Y1 S1:=by
 have hor:∀ i a,i<32→(Y1.g i).A=some a→(Y1.g i).q.L≠[]→(a.block<w.heap.size∧∃ j,j<32∧(X.g j).A=some a∧(X.g j).q.L≠[])∨w.heap.size+k<a.block:=fun i a hi e1 e2=>by
  rcases t.or i a hi e1 e2 with ⟨j,h1,h2,h3⟩ | h
  · exact f.or j a h1 h2 h3
  ·
   have:=f.lt
   have:=f.lim
   exact .inr (by omega)
 have hlim:=f.lim
 have kb:=f.bel.trans (t.bel.mono f.bel.size)
 refine ⟨(f.res.below t.bel).stored Y1,⟨t.at_.cr,t.at_.gr,t.at_.no,t.at_.is,t.at_.rows (by rw [size_sets];exact Nat.le_refl _) (fun i ad hi e1 e2=>other_sets ?_ _ _ _),t.at_.led⟩,below_sets (by omega) _ _ _ kb,fun i ad hi e1 e2=>?_⟩
 · rcases hor i ad hi e1 e2 with ⟨h,_⟩ | h <;> omega
 ·
  rcases hor i ad hi e1 e2 with ⟨_,h⟩ | h
  · exact .inl h
  · exact .inr (by omega)
theorem XFr.beside (f:XFr r k w W X Y S) {b:Nat} (ho:∀ c,c≠b→W'.heap[c]?=W.heap[c]?) (hs:W'.heap.size=W.heap.size) (hB:Below w.heap.size w W') (h1:w.heap.size<b) (h2:b≤w.heap.size+k) (hb:w.heap.size+r≠b):XFr r k w W' X Y S:=by
 have hlim:=f.lim
 refine ⟨Blk.of f.box (ho _ (by omega)),f.res.of (ho _ hb),⟨f.at_.cr,f.at_.gr,f.at_.no,f.at_.is,f.at_.rows (by omega) (fun i ad hi e1 e2=>ho _ ?_),f.at_.led⟩,hB,⟨hlim.1,hlim.2.1,by omega⟩,f.or⟩
 rcases f.or i ad hi e1 e2 with ⟨h,_⟩ | h <;> omega
theorem XFr.pack (f:XFr r k w W X Y S):W.rangeAt w.heap.size 0 (xcells Y)∧(Tryz.prog.info? 38).map (·.size)=some (xcells Y).length∧W.there (w.heap.size+r) 0 (xcells Y).toArray.size∧(Tryz.prog.info? 38).map (·.size)=some (xcells Y).toArray.size∧(xcells Y).toArray.all (·.oneCell')=true :=
 ⟨f.box.range,xinf Y,f.res.there Y,xinfA Y,xcells_one Y⟩
theorem XFr.pack2 (f:XFr r k w W X Y S) {W1:World} (hb:Below W.heap.size W W1) (Z:XH):W1.rangeAt w.heap.size 0 (xcells Y)∧(Tryz.prog.info? 38).map (·.size)=some (xcells Y).length∧W1.there (w.heap.size+r) 0 (xcells Z).toArray.size∧(Tryz.prog.info? 38).map (·.size)=some (xcells Z).toArray.size∧(xcells Z).toArray.all (·.oneCell')=true :=
 ⟨(f.below hb).box.range,xinf Y,(f.res.below hb).there Z,xinfA Z,xcells_one Z⟩
theorem XFr.new2 {w:World} {X:XH} {S:HS} (a:XAt w S X) (e:En):∃ W,W=((w.alloc (.cells (xcells X).toArray 38)).alloc (.cells #[.int .i64 e.id,.int .u64 e.wt,.int .i64 e.v,.int .u64 e.rem] 34)).alloc (.cells Tryz.zeroCells38 38) ∧
  XFr 2 2 w W X X S∧Blk W (w.heap.size+1) #[.int .i64 e.id,.int .u64 e.wt,.int .i64 e.v,.int .u64 e.rem] 34:=by
 have hb:Below w.heap.size w (((w.alloc (.cells (xcells X).toArray 38)).alloc (.cells #[.int .i64 e.id,.int .u64 e.wt,.int .i64 e.v,.int .u64 e.rem] 34)).alloc (.cells Tryz.zeroCells38 38)):=(((Below.refl _ _).alloc (Nat.le_refl _) _).alloc (by simp) _).alloc (by simp;omega) _
 have n0:=Blk.new (w.alloc (.cells (xcells X).toArray 38)) #[.int .i64 e.id,.int .u64 e.wt,.int .i64 e.v,.int .u64 e.rem] 34
 rw [World.size_alloc] at n0
 have n1:=Blk.new ((w.alloc (.cells (xcells X).toArray 38)).alloc (.cells #[.int .i64 e.id,.int .u64 e.wt,.int .i64 e.v,.int .u64 e.rem] 34)) Tryz.zeroCells38 38
 rw [World.size_alloc,World.size_alloc] at n1
 exact ⟨_,rfl,⟨Blk.alloc (Blk.alloc (XBlk.new w X) _) _,⟨_,Tryz.zeroCells38_size,n1⟩,a.below hb,hb,⟨by omega,by omega,by simp⟩,fun i ad hi h1 h2=>.inl ⟨a.lt hi h1 h2,i,hi,h1,h2⟩⟩,n0.alloc _⟩
end
end Go.Proofs.YtefekboacghnjaaGreat
namespace Go.Proofs.YtefekboacghnjaaGreat
open Go.RowKit Go.Maps
def listedL:List Nat→Array Bool→Array Bool
 | [],s=>s
 | i::l,s=>listedL l (s.setIfInBounds i true)
def putsL:List (Nat × Value)→Act→Act
 | [],a=>a
 | (d,v)::l,a=>putsL l (a.put (some d) v)
def takesB (md:Region.Mode) (ops:Array Oper):List Nat→Array Bool→Bool
 | [],_=>true
 | i::l,s=>Region.free md ops s i && (Region.ready md ops s).contains i && takesB md ops l (s.setIfInBounds i true)
def Takes (P:Program) (ops:Array Oper) (S:World→Prop):List Nat→List (Nat × Value)→Act→Prop
 | i::l,(d,v)::m,a=>(∃ o,ops[i]?=some o∧o.dst=some d∧YieldsIf P ops S o v a)∧Takes P ops S l m (a.put (some d) v)
 | [],[],_=>True
 | _,_,_=>False
theorem wpAnyH_takes {P:Program} {ops:Array Oper} {Q:Exit→Act→World→Prop} {md:Region.Mode} {S:World→Prop} {fuel:Nat} {w:World} (hs:Region.noSelect ops=true) (hQ:∀ c a (d:Nat) v w,Q (.panic c) (a.put (some d) v) w→Q (.panic c) a w) (hS:S w) :
  ∀ (l:List Nat) (m:List (Nat × Value)) (k:Nat) (listed:Array Bool) (a:Act),l.length=k→takesB md ops l listed=true→Takes P ops S l m a→wpAnyH P md ops Q S fuel (listedL l listed) (putsL m a) w→wpAnyH P md ops Q S (fuel+k) listed a w
 | [],[],k,listed,a,hk,_,_,h=>by subst hk;exact h
 | [],_::_,_,_,_,_,_,hY,_=>hY.elim
 | _::_,[],_,_,_,_,_,hY,_=>hY.elim
 | i::l,(d,v)::m,k,listed,a,hk,hB,hY,h=>by
  subst hk
  obtain ⟨⟨o,ho,hd,hy⟩,hY2⟩:=hY
  unfold takesB at hB
  rw [Bool.and_eq_true,Bool.and_eq_true] at hB
  refine wpAnyH_take (fuel:=fuel+l.length) ho hs hB.1.1 hB.1.2 (fun c a w h=>hQ c a d v w (by rw [hd] at h;exact h)) hy hS ?_
  rw [hd]
  exact wpAnyH_takes hs hQ hS l m l.length _ _ rfl hB.2 hY2 h
section
variable {P:Program} {ops:Array Oper} {S:World→Prop} {i d:Nat} {v:Value} {l:List Nat} {m:List (Nat × Value)} {a:Act} {o:Oper}
theorem tkI (ho:ops[i]?=some o) (hd:o.dst=some d) (hw:Region.wanted o (yielded ops a.tmps)=true) (hv:∀ w,S w→(execOp a.eval o).run P w=.ok (.value v) w) (h:Takes P ops S l m (a.put (some d) v)):Takes P ops S (i::l) ((d,v)::m) a:=⟨⟨o,ho,hd,.inl ⟨hw,hv⟩⟩,h⟩
theorem tkO (ho:ops[i]?=some o) (hd:o.dst=some d) (hw:Region.wanted o (yielded ops a.tmps)=false) (h:Takes P ops S l m (a.put (some d) undef)):Takes P ops S (i::l) ((d,undef)::m) a:=⟨⟨o,ho,hd,.inr ⟨hw,rfl⟩⟩,h⟩
theorem tkY (ho:ops[i]?=some o) (hd:o.dst=some d) (hy:YieldsIf P ops S o v a) (h:Takes P ops S l m (a.put (some d) v)):Takes P ops S (i::l) ((d,v)::m) a:=⟨⟨o,ho,hd,hy⟩,h⟩
theorem tk1 {Q:Exit→Act→World→Prop} {md:Region.Mode} {fuel:Nat} {listed:Array Bool} {w:World} (hi:ops[i]?=some o) (hS:S w) (hv:∀ w,S w→(execOp a.eval o).run P w=.ok (.value v) w)
  (h:wpAnyH P md ops Q S fuel (listed.setIfInBounds i true) (a.put (some d) v) w) (hB:(Region.noSelect ops && Region.free md ops listed i && (Region.ready md ops listed).contains i)=true:=by kernel_rfl) (hd:o.dst=some d:=by rfl)
  (hQ:∀ c a w,Q (.panic c) (a.put (some d) v) w→Q (.panic c) a w:=by exact fun _ _ _ h=>h) (hw:Region.wanted o (yielded ops a.tmps)=true:=by rfl):wpAnyH P md ops Q S (fuel+1) listed a w:=by
 rw [Bool.and_eq_true,Bool.and_eq_true] at hB
 rw [← hd] at h
 have hQ:∀ c a w,Q (.panic c) (a.put o.dst v) w→Q (.panic c) a w:=by rw [hd];exact hQ
 exact wpAnyH_take hi hB.1.1 hB.1.2 hB.2 hQ (.inl ⟨hw,hv⟩) hS h
theorem tk0 {Q:Exit→Act→World→Prop} {md:Region.Mode} {fuel:Nat} {listed:Array Bool} {w:World} (hi:ops[i]?=some o) (hS:S w)
  (h:wpAnyH P md ops Q S fuel (listed.setIfInBounds i true) (a.put (some d) undef) w) (hB:(Region.noSelect ops && Region.free md ops listed i && (Region.ready md ops listed).contains i)=true:=by kernel_rfl) (hd:o.dst=some d:=by rfl)
  (hQ:∀ c a w,Q (.panic c) (a.put (some d) undef) w→Q (.panic c) a w:=by exact fun _ _ _ h=>h) (hw:Region.wanted o (yielded ops a.tmps)=false:=by rfl):wpAnyH P md ops Q S (fuel+1) listed a w:=by
 rw [Bool.and_eq_true,Bool.and_eq_true] at hB
 rw [← hd] at h
 have hQ:∀ c a w,Q (.panic c) (a.put o.dst undef) w→Q (.panic c) a w:=by rw [hd];exact hQ
 exact wpAnyH_take hi hB.1.1 hB.1.2 hB.2 hQ (.inr ⟨hw,rfl⟩) hS h
theorem tkN:Takes P ops S [] [] a:=True.intro
end
end Go.Proofs.YtefekboacghnjaaGreat
