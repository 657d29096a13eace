/-
  hier.Hier: Flag, whatever stands in the queues.
  HierPlays: the tree of groups, the document's tree in its box beside it.
  hier.Hier: what is refused; Nice; Unlink; Flag.
  The tree of groups: Move, whatever stands under the group.
  hier.Hier: Charge of too much.
-/
import Derived.Test.YtefekboacghnjaaGreatMo
import Derived.Test.YtefekboacghnjaaGreatPg
import Derived.Test.YtefekboacghnjaaGreatMg
import Derived.Test.YtefekboacghnjaaGreatMm
set_option linter.unusedVariables false
set_option linter.unusedSimpArgs false
namespace Go.Proofs.YtefekboacghnjaaGreat
open Go.RowKit Go.Maps
def overG (S:HS) (i:Nat):Bool:=match S.G i with | some x=>x.q.over | none=>false
def flagB (S:HS):Nat→Bool
 | 0=>false
 | n+1=>flagB S n || overG S n
theorem flagB_step {S:HS} {n:Nat} (h:flagB S n=true):∀ m,n≤m→flagB S m=true:=by
 intro m hm
 induction m with
 | zero=>rwa [Nat.le_zero.1 hm] at h
 | succ m ih =>
  by_cases e:n=m+1
  · rwa [← e]
  ·
   show (flagB S m || overG S m)=true
   rw [ih (by omega)]
   rfl
section
variable {w:World} {h:Nat} {gb qb:Nat→Nat} {Fq:Nat→List Nat} {S:HS} {K:Int}
set_option maxRecDepth 100000 in
set_option maxHeartbeats 8000000 in
theorem hflag_any (m:HMem w h gb qb Fq S K) :
  Calls Tryz.prog 28 #[.pointer (some ⟨h,0,none⟩)] w fun e w'=>e=.returned (.bool (flagB S 32))∧w=w':=by
 obtain ⟨cs,hcs⟩:∃ cs:List Value,cs=(List.range 32).map (gpV gb S):=⟨_,rfl⟩
 have hlen:cs.length=32:=by rw [hcs];simp
 have hat:∀ i,i<32→cs[i]?=some (gpV gb S i):=fun i hi=>by rw [hcs];simp [hi]
 have hrg:w.rangeAt h 2 cs:=fun j v hv=>by
  have hj:j<32:=by
   rw [← hlen]
   exact (List.getElem?_eq_some_iff.1 hv).1
  rw [hat j hj] at hv
  rw [Blk.cell m.blk,hcells_at gb S hj]
  exact hv
 have hinf:(Tryz.prog.info? 53).map (·.size)=some cs.length:=by rw [hlen];rfl
 have HL:=Lib.hid (And.intro hrg hinf)
 have HC:=Lib.hid (And.intro hat m)
 clear hrg hinf m hcs hlen hat
 obtain ⟨fb,hfb⟩:∃ fb,fb=flagB S 32:=⟨_,rfl⟩
 rw [← hfb]
 have HFB:=Lib.hid hfb
 clear hfb
 go_enter Tryz.func28,Tryz.ntmps28
 go_wp2_with (refine wpList_load_mid rfl 53 (.tmp 9) rfl h 2 rfl cs _ HL.out.1 Tryz.underlying53 rfl HL.out.2 ?_)
 clear HL
 go_loopw [11] (fun s11 wr=>∃ i:Nat,i≤32∧s11=.int .i64 i∧w=wr∧Hid (flagB S i=false)) (fun s11 _=>32 - (intOf s11).toNat)
 case atStart=>exact ⟨0,by omega,rfl,rfl,Lib.hid rfl⟩
 case round =>
  obtain ⟨i,hi,rfl,rfl,HN⟩:=hrel
  by_cases hlt:i<32
  ·
   have i0:(0:Int)≤(i:Int):=Int.natCast_nonneg _
   have i1:(i:Int)<32:=by omega
   have i2:decide (i<32)=true:=decide_eq_true hlt
   have i3:decide ((i:Int)<32)=true:=decide_eq_true i1
   have hv:=HC.out.1 i hlt
   have HI:=run_index32 cs hlt hv w
   unfold gpV at HI
   cases hx:S.G i with
   | none =>
    rw [hx] at HI
    simp only [Option.map_none] at HI
    have HN2:Hid (flagB S (i+1)=false):=Lib.hid (show (flagB S i || overG S i)=false by rw [HN.out];unfold overG;rw [hx];rfl)
    clear hv HN
    go_wp2_with fail
    go_roundw
    case rel=>exact ⟨i+1,hlt,by go_num,by first | trivial | rfl,HN2⟩
    case measure=>simp [intOf];omega
   | some x =>
    rw [hx] at HI
    simp only [Option.map_some] at HI
    have x2:=(HC.out.2.cells hx).2.2.1
    have MQ:=Lib.hid (qflag_any (HC.out.2.que i x hx))
    have HO:=Lib.hid (show overG S i=x.q.over by unfold overG;rw [hx])
    clear hv hx
    by_cases ho:x.q.over=true
    ·
     rw [ho] at MQ HO
     have ht:fb=true:=by
      rw [HFB.out]
      refine flagB_step (n:=i+1) ?_ 32 (by omega)
      show (flagB S i || overG S i)=true
      rw [HO.out]
      simp
     have HT:=Lib.hid ht
     clear ht HFB HN HO ho
     go_wp2_with fail
     refine MQ.out.mono ?_
     rintro r w' ⟨rfl,rfl⟩
     go_wp2_with fail
     go_ret
     exact ⟨by rw [HT.out];rfl,rfl⟩
    ·
     have ho2:x.q.over=false:=by simpa using ho
     rw [ho2] at MQ HO
     have HN2:Hid (flagB S (i+1)=false):=Lib.hid (show (flagB S i || overG S i)=false by rw [HN.out,HO.out];rfl)
     clear HN HO ho ho2
     go_wp2_with fail
     refine MQ.out.mono ?_
     rintro r w' ⟨rfl,rfl⟩
     go_wp2_with fail
     go_roundw
     case rel=>exact ⟨i+1,hlt,by go_num,by first | trivial | rfl,HN2⟩
     case measure=>simp [intOf];omega
  ·
   obtain rfl:i=32:=by omega
   have HT:=Lib.hid (HFB.out.trans HN.out)
   clear HFB HN
   go_wp2_with fail
   go_ret
   exact ⟨by rw [HT.out];rfl,rfl⟩
end
end Go.Proofs.YtefekboacghnjaaGreat
namespace Go.Proofs.YtefekboacghnjaaGreat
open Go.RowKit Go.Maps
def XRow (X:XH) (a:Addr):Prop:=∃ i,i<32∧(X.g i).A=some a∧(X.g i).q.L≠[]
def bcells (h:Nat) (X:XH):Array Value:=([Value.pointer (some ⟨h,0,none⟩)]++(xcells X++[])).toArray
structure RH (w0 w:World) (p h:Nat) (S Z:HS) (Y X:XH) (K:Int) (B:List (Nat × Option Obj)):Prop where
 ex:∃ F,HAt w h F S K∧(∀ b,b ∈ F→w0.heap.size≤b)∧p ∉ F∧(∀ z,z ∈ B→z.1 ∉ F)∧∀ a,XRow X a→a.block ∉ F
 bel:Below w0.heap.size w0 w
 p0:w0.heap.size≤p
 box:Blk w p (bcells h Y) 41
 at_:XAt w Z X
 row:∀ a,XRow X a→a.block≠p∧∀ z,z ∈ B→z.1≠a.block
 keep:∀ z,z ∈ B→w0.heap.size≤z.1∧z.1<w.heap.size∧z.1≠p∧w.heap[z.1]?=z.2
theorem deed9 {w:World} {b:Nat} {v0 v1 v2 v3 v4 v5 v6 v7 v8:Value} (h:Blk w b #[v0,v1,v2,v3,v4,v5,v6,v7,v8] 44) :
  w.cell? ⟨b,0,none⟩=some v0∧w.cell? ⟨b,1,none⟩=some v1∧w.cell? ⟨b,2,none⟩=some v2∧w.cell? ⟨b,3,none⟩=some v3∧w.cell? ⟨b,4,none⟩=some v4∧w.cell? ⟨b,5,none⟩=some v5∧w.cell? ⟨b,6,none⟩=some v6∧w.cell? ⟨b,7,none⟩=some v7∧w.cell? ⟨b,8,none⟩=some v8 :=
 ⟨Blk.cell h 0,Blk.cell h 1,Blk.cell h 2,Blk.cell h 3,Blk.cell h 4,Blk.cell h 5,Blk.cell h 6,Blk.cell h 7,Blk.cell h 8⟩
section
variable {w0 w w':World} {p h:Nat} {S S' Z Z':HS} {Y X X':XH} {K K':Int} {B:List (Nat × Option Obj)} {F F':List Nat}
theorem XRow.lt (a:XAt w Z X) {ad:Addr} (hr:XRow X ad):ad.block<w.heap.size:=by
 obtain ⟨i,hi,h1,h2⟩:=hr
 exact a.lt hi h1 h2
theorem RH.lt (r:RH w0 w p h S Z Y X K B):p<w.heap.size:=r.box.lt
theorem RH.mono (r:RH w0 w p h S Z Y X K B) (hK:K≤K') (h2:K'≤1000000000000000):RH w0 w p h S Z Y X K' B:=by
 obtain ⟨F,h1,h3⟩:=r.ex
 exact ⟨⟨F,h1.mono hK h2,h3⟩,r.bel,r.p0,r.box,r.at_,r.row,r.keep⟩
theorem RH.less (r:RH w0 w p h S Z Y X K B):RH w0 w p h S Z Y X K []:=by
 obtain ⟨F,h1,h2,h3,_,h5⟩:=r.ex
 exact ⟨⟨F,h1,h2,h3,fun z hz=>by simp at hz,h5⟩,r.bel,r.p0,r.box,r.at_,fun a ha=>⟨(r.row a ha).1,fun z hz=>by simp at hz⟩,fun z hz=>by simp at hz⟩
theorem RH.below (r:RH w0 w p h S Z Y X K B) (k:Below w.heap.size w w'):RH w0 w' p h S Z Y X K B:=by
 obtain ⟨F,h1,h2⟩:=r.ex
 refine ⟨⟨F,h1.below k,h2⟩,r.bel.trans (k.mono r.bel.size),r.p0,r.box.below k r.box.lt,r.at_.below k,r.row,fun z hz=>?_⟩
 obtain ⟨a,b,c,d⟩:=r.keep z hz
 exact ⟨a,Nat.lt_of_lt_of_le b k.size,c,(k.block _ b).trans d⟩
theorem RH.alloc (r:RH w0 w p h S Z Y X K B) (o:Obj):RH w0 (w.alloc o) p h S Z Y X K ((w.heap.size,some o)::B):=by
 have k:Below w.heap.size w (w.alloc o):=(Below.refl _ _).alloc (Nat.le_refl _) o
 have r2:=r.below k
 obtain ⟨F,h1,h2,h3,h4,h5⟩:=r.ex
 have hp:=r.lt
 refine ⟨⟨F,h1.below k,h2,h3,fun z hz=>?_,h5⟩,r2.bel,r.p0,r2.box,r2.at_,fun a ha=>⟨(r.row a ha).1,fun z hz=>?_⟩,fun z hz=>?_⟩
 ·
  rcases List.mem_cons.1 hz with rfl | hz
  · exact fun hm=>Nat.lt_irrefl _ (h1.lt _ hm)
  · exact h4 z hz
 ·
  rcases List.mem_cons.1 hz with rfl | hz
  ·
   have:=ha.lt r.at_
   show w.heap.size≠a.block
   omega
  · exact (r.row a ha).2 z hz
 ·
  rcases List.mem_cons.1 hz with rfl | hz
  · exact ⟨r.bel.size,by simp,by show w.heap.size≠p;omega,World.alloc_heap_new w o⟩
  · exact r2.keep z hz
theorem RH.turn (r:RH w0 w p h S Z Y X K B) (h1:∀ b,b ∈ F→w0.heap.size≤b) (h2:p ∉ F) (h3:∀ z,z ∈ B→z.1 ∉ F) (h4:∀ a,XRow X a→a.block ∉ F) (hT:HTurned w F h S' K' w' F'):RH w0 w' p h S' Z Y X K' B:=by
 have hnot:∀ b,b<w.heap.size→b ∉ F→b ∉ F':=fun b hb hn hm=>by
  rcases hT.sub b hm with e | e
  · exact hn e
  · omega
 refine ⟨⟨F',hT.at_,fun b hb=>?_,hnot p r.lt h2,fun z hz=>hnot _ (r.keep z hz).2.1 (h3 z hz),fun a ha=>hnot _ (ha.lt r.at_) (h4 a ha)⟩,Below.turns r.bel hT.turns h1 r.bel.size,r.p0,r.box.turns hT.turns h2,?_,r.row,fun z hz=>?_⟩
 ·
  rcases hT.sub b hb with e | e
  · exact h1 b e
  · exact Nat.le_trans r.bel.size e
 · exact ⟨r.at_.cr,r.at_.gr,r.at_.no,r.at_.is,r.at_.rows hT.turns.size (fun i ad hi e1 e2=>hT.turns.block _ (r.at_.lt hi e1 e2) (h4 ad ⟨i,hi,e1,e2⟩)),r.at_.led⟩
 ·
  obtain ⟨a,b,c,d⟩:=r.keep z hz
  exact ⟨a,Nat.lt_of_lt_of_le b hT.turns.size,c,(hT.turns.block _ b (h3 z hz)).trans d⟩
theorem RH.go (r:RH w0 w p h S Z Y X K B) {f:FuncId} {args:Array Value} {v:Value} (M:∀ F,HAt w h F S K→Calls Tryz.prog f args w fun e w'=>e=.returned v∧∃ F',Hid (HTurned w F h S' K' w' F')) :
  Calls Tryz.prog f args w fun e w'=>e=.returned v∧Hid (RH w0 w' p h S' Z Y X K' B):=by
 obtain ⟨F,h1,h2,h3,h4,h5⟩:=r.ex
 refine (M F h1).mono fun e w' hp=>?_
 obtain ⟨he,F',hT⟩:=hp
 exact ⟨he,r.turn h2 h3 h4 h5 hT.out⟩
theorem RH.doc (r:RH w0 w p h S Z Y X K B) (t:XTo w w' X X' Z'):RH w0 w' p h S Z' Y X' K B:=by
 have r2:=r.below t.bel
 obtain ⟨F,h1,h2,h3,h4,h5⟩:=r.ex
 have hor:∀ a,XRow X' a→XRow X a∨w.heap.size≤a.block:=fun a ha=>by
  obtain ⟨i,hi,e1,e2⟩:=ha
  exact t.or i a hi e1 e2
 have hp:=r.lt
 refine ⟨⟨F,h1.below t.bel,h2,h3,h4,fun a ha=>?_⟩,r2.bel,r.p0,r2.box,t.at_,fun a ha=>?_,r2.keep⟩
 ·
  rcases hor a ha with e | e
  · exact h5 a e
  · exact fun hm=>by have:=h1.lt _ hm;omega
 ·
  rcases hor a ha with e | e
  · exact r.row a e
  · exact ⟨by omega,fun z hz=>by have:=(r.keep z hz).2.1;omega⟩
theorem RH.setB {b:Nat} {o o':Option Obj} (r:RH w0 w p h S Z Y X K ((b,o)::B)) (hB:Below w0.heap.size w0 w') (hs:w'.heap.size=w.heap.size) (ho:∀ c,c≠b→w'.heap[c]?=w.heap[c]?) (hb:w'.heap[b]?=o') (hd:∀ z,z ∈ B→z.1≠b):RH w0 w' p h S Z Y X K ((b,o')::B):=by
 obtain ⟨F,h1,h2,h3,h4,h5⟩:=r.ex
 have hbF:=h4 (b,o) List.mem_cons_self
 have hbp:=(r.keep (b,o) List.mem_cons_self)
 refine ⟨⟨F,h1.of fun c hc=>ho c (fun e=>hbF (e ▸ hc)),h2,h3,fun z hz=>?_,h5⟩,hB,r.p0,Blk.of r.box (ho p (Ne.symm hbp.2.2.1)),?_,fun a ha=>⟨(r.row a ha).1,fun z hz=>?_⟩,fun z hz=>?_⟩
 ·
  rcases List.mem_cons.1 hz with rfl | hz
  · exact hbF
  · exact h4 z (List.mem_cons_of_mem _ hz)
 · exact ⟨r.at_.cr,r.at_.gr,r.at_.no,r.at_.is,r.at_.rows (by omega) (fun i ad hi e1 e2=>ho _ (Ne.symm ((r.row ad ⟨i,hi,e1,e2⟩).2 (b,o) List.mem_cons_self))),r.at_.led⟩
 ·
  rcases List.mem_cons.1 hz with rfl | hz
  · exact (r.row a ha).2 (b,o) List.mem_cons_self
  · exact (r.row a ha).2 z (List.mem_cons_of_mem _ hz)
 ·
  rcases List.mem_cons.1 hz with rfl | hz
  · exact ⟨hbp.1,by rw [hs];exact hbp.2.1,hbp.2.2.1,hb⟩
  ·
   obtain ⟨a,b2,c,d⟩:=r.keep z (List.mem_cons_of_mem _ hz)
   exact ⟨a,by rw [hs];exact b2,c,(ho _ (hd z hz)).trans d⟩
theorem bcells_ptr (h:Nat) (X:XH):(bcells h X)[0]?=some (.pointer (some ⟨h,0,none⟩)):=by simp [bcells]
theorem bcells_at (h:Nat) (X:XH) (j:Nat):(bcells h X)[1+j]?=(xcells X)[j]?:=by
 unfold bcells
 rw [List.append_nil,List.getElem?_toArray,Nat.add_comm]
 rfl
theorem RH.store (r:RH w0 w p h S Z Y X K B):RH w0 (w.setCells p 1 (xcells X)) p h S Z X X K B:=by
 obtain ⟨F,h1,h2,h3,h4,h5⟩:=r.ex
 have hb:=Blk.sets (xcells X) (xcells Y) [.pointer (some ⟨h,0,none⟩)] [] w (by rw [xcells_len,xcells_len]) r.box
 refine ⟨⟨F,h1.of fun c hc=>other_sets (show c≠p from fun e=>h3 (e ▸ hc)) _ _ _,h2,h3,h4,h5⟩,below_sets r.p0 _ _ _ r.bel,r.p0,hb,?_,r.row,fun z hz=>?_⟩
 · exact ⟨r.at_.cr,r.at_.gr,r.at_.no,r.at_.is,r.at_.rows (by rw [size_sets];exact Nat.le_refl _) (fun i ad hi e1 e2=>other_sets (r.row ad ⟨i,hi,e1,e2⟩).1 _ _ _),r.at_.led⟩
 ·
  obtain ⟨a,b,c,d⟩:=r.keep z hz
  exact ⟨a,by rw [size_sets];exact b,c,(other_sets c _ _ _).trans d⟩
theorem RH.ptr (r:RH w0 w p h S Z Y X K B):w.cell? ⟨p,0,none⟩=some (.pointer (some ⟨h,0,none⟩)):=by rw [Blk.cell r.box,bcells_ptr]
theorem RH.range (r:RH w0 w p h S Z Y X K B):w.rangeAt p 1 (xcells Y):=fun j v hv=>by
 rw [Blk.cell r.box,bcells_at]
 exact hv
theorem RH.there (r:RH w0 w p h S Z Y X K B) (V:XH):w.there p 1 (xcells V).toArray.size:=by
 rw [xsize]
 intro j hj
 rw [Blk.cell r.box,bcells_at,xcells_at Y hj]
 exact ⟨rfl,Blk.frozen r.box _⟩
theorem RH.room (r:RH w0 w p h S Z Y X K B) {b:Nat} {cs:Array Value} (hc:cs.size=322) (hb:Blk w b cs 38) (V:XH):w.there b 0 (xcells V).toArray.size:=XRes.there ⟨cs,hc,hb⟩ V
theorem RH.lay {b:Nat} {cs:Array Value} (hc:cs.size=322) (r:RH w0 w p h S Z Y X K ((b,some (.cells cs 38 (0,0)))::B)) (hd:∀ z,z ∈ B→z.1≠b) (V:XH) :
  RH w0 (w.setCells b 0 (xcells V)) p h S Z Y X K ((b,some (.cells (xcells V).toArray 38 (0,0)))::B):=by
 obtain ⟨k1,k2,k3,k4⟩:=r.keep _ List.mem_cons_self
 have hb:Blk w b cs 38:=k4
 exact r.setB (below_sets k1 _ _ _ r.bel) (size_sets _ _ _) (fun c hc=>other_sets hc _ _ _) (XRes.stored ⟨cs,hc,hb⟩ V) hd
end
end Go.Proofs.YtefekboacghnjaaGreat
namespace Go.Proofs.YtefekboacghnjaaGreat
open Go.RowKit Go.Maps
section
variable {w:World} {h:Nat} {gb qb:Nat→Nat} {Fq:Nat→List Nat} {S:HS} {K:Int} {F:List Nat}
theorem hat_ptr (m:HMem w h gb qb Fq S K) (g:Int):∃ o,Calls Tryz.prog 40 #[.pointer (some ⟨h,0,none⟩),.int .i64 g] w fun e w'=>e=.returned (.pointer o)∧w=w':=by
 rcases S.at_cases g with e | ⟨i,x,rfl,_,hx,_⟩
 · exact ⟨none,hat_none m e⟩
 · exact ⟨_,hat_some m hx⟩
set_option maxRecDepth 100000 in
theorem hmin_none (m:HMem w h gb qb Fq S K) {g:Int} (hg:S.at_ g=none):Calls Tryz.prog 35 #[.pointer (some ⟨h,0,none⟩),.int .i64 g] w fun e w'=>e=.returned (.int .i64 0)∧w=w':=by
 have M:=Lib.hid (hat_none m hg)
 clear m hg
 go_enter Tryz.func35,Tryz.ntmps35
 go_wp2_with ((go_at_call 40;refine M.out.mono ?_;rintro e w' ⟨rfl,rfl⟩))
 go_ret
 exact ⟨rfl,rfl⟩
set_option maxRecDepth 100000 in
theorem hload_none (m:HMem w h gb qb Fq S K) {g:Int} (hg:S.at_ g=none):Calls Tryz.prog 36 #[.pointer (some ⟨h,0,none⟩),.int .i64 g] w fun e w'=>e=.returned (.int .u64 0)∧w=w':=by
 have M:=Lib.hid (hat_none m hg)
 clear m hg
 go_enter Tryz.func36,Tryz.ntmps36
 go_wp2_with ((go_at_call 40;refine M.out.mono ?_;rintro e w' ⟨rfl,rfl⟩))
 go_ret
 exact ⟨rfl,rfl⟩
set_option maxRecDepth 100000 in
theorem hqueue_none (m:HMem w h gb qb Fq S K) {g:Int} (hg:S.at_ g=none):Calls Tryz.prog 34 #[.pointer (some ⟨h,0,none⟩),.int .i64 g] w fun e w'=>e=.returned (.slice none 0 0)∧w=w':=by
 have M:=Lib.hid (hat_none m hg)
 clear m hg
 go_enter Tryz.func34,Tryz.ntmps34
 go_wp2_with ((go_at_call 40;refine M.out.mono ?_;rintro e w' ⟨rfl,rfl⟩))
 go_ret
 exact ⟨rfl,rfl⟩
set_option maxRecDepth 100000 in
theorem hon_none (m:HMem w h gb qb Fq S K) {g:Int} (hg:S.linked g=none):Calls Tryz.prog 13 #[.pointer (some ⟨h,0,none⟩),.int .i64 g] w fun e w'=>e=.returned (.bool false)∧w=w':=by
 have M:=Lib.hid (hlinked_none m hg)
 clear m hg
 go_enter Tryz.func13,Tryz.ntmps13
 go_wp2_with ((go_at_call 51;refine M.out.mono ?_;rintro e w' ⟨rfl,rfl⟩))
 go_ret
 exact ⟨rfl,rfl⟩
set_option maxRecDepth 100000 in
theorem hstopped_none (m:HMem w h gb qb Fq S K) {g:Int} (hg:S.linked g=none):Calls Tryz.prog 32 #[.pointer (some ⟨h,0,none⟩),.int .i64 g] w fun e w'=>e=.returned (.bool false)∧w=w':=by
 have M:=Lib.hid (hlinked_none m hg)
 clear m hg
 go_enter Tryz.func32,Tryz.ntmps32
 go_wp2_with ((go_at_call 51;refine M.out.mono ?_;rintro e w' ⟨rfl,rfl⟩))
 go_ret
 exact ⟨rfl,rfl⟩
set_option maxRecDepth 100000 in
theorem hstop_none (m:HMem w h gb qb Fq S K) {g:Int} (b:Bool) (hg:S.linked g=none):Calls Tryz.prog 60 #[.pointer (some ⟨h,0,none⟩),.int .i64 g,.bool b] w fun e w'=>e=.returned (.int .i64 1)∧w=w':=by
 have M:=Lib.hid (hlinked_none m hg)
 clear m hg
 go_enter Tryz.func60,Tryz.ntmps60
 go_wp2_with ((go_at_call 51;refine M.out.mono ?_;rintro e w' ⟨rfl,rfl⟩))
 go_ret
 exact ⟨rfl,rfl⟩
set_option maxRecDepth 100000 in
theorem hweigh_none (m:HMem w h gb qb Fq S K) {g:Int} (n:Nat) (hg:S.linked g=none):Calls Tryz.prog 58 #[.pointer (some ⟨h,0,none⟩),.int .i64 g,.int .u64 (n:Nat)] w fun e w'=>e=.returned (.int .i64 1)∧w=w':=by
 have M:=Lib.hid (hlinked_none m hg)
 clear m hg
 go_enter Tryz.func58,Tryz.ntmps58
 go_wp2_with ((go_at_call 51;refine M.out.mono ?_;rintro e w' ⟨rfl,rfl⟩))
 go_ret
 exact ⟨rfl,rfl⟩
set_option maxRecDepth 100000 in
theorem hunlink_none (m:HMem w h gb qb Fq S K) {g:Int} (hg:S.linked g=none):Calls Tryz.prog 54 #[.pointer (some ⟨h,0,none⟩),.int .i64 g] w fun e w'=>e=.returned (.int .i64 1)∧w=w':=by
 have M:=Lib.hid (hlinked_none m hg)
 clear m hg
 go_enter Tryz.func54,Tryz.ntmps54
 go_wp2_with ((go_at_call 51;refine M.out.mono ?_;rintro e w' ⟨rfl,rfl⟩))
 go_ret
 exact ⟨rfl,rfl⟩
set_option maxRecDepth 100000 in
theorem hmove_none (m:HMem w h gb qb Fq S K) {g k:Int} (hg:S.linked g=none∨S.at_ k=none):Calls Tryz.prog 56 #[.pointer (some ⟨h,0,none⟩),.int .i64 g,.int .i64 k] w fun e w'=>e=.returned (.int .i64 1)∧w=w':=by
 obtain ⟨o,M2⟩:=hat_ptr m k
 by_cases h1:S.linked g=none
 ·
  have M:=Lib.hid (hlinked_none m h1)
  have M2:=Lib.hid M2
  clear m hg h1
  go_enter Tryz.func56,Tryz.ntmps56
  go_wp2_with (first | (go_at_call 51;refine M.out.mono ?_;rintro e w' ⟨rfl,rfl⟩) | (go_at_call 40;refine M2.out.mono ?_;rintro e w' ⟨rfl,rfl⟩))
  go_ret
  exact ⟨rfl,rfl⟩
 ·
  have h2:S.at_ k=none:=hg.resolve_left h1
  have M2:=Lib.hid (hat_none m h2)
  obtain ⟨o,M⟩:∃ o,Calls Tryz.prog 51 #[.pointer (some ⟨h,0,none⟩),.int .i64 g] w fun e w'=>e=.returned (.pointer o)∧w=w':=by
   obtain ⟨o,M⟩:=hat_ptr m g
   by_cases h0:g=0
   · subst h0;exact ⟨none,hlinked_root _ _⟩
   · exact ⟨o,hlinked_at h0 M⟩
  have M:=Lib.hid M
  clear m hg h1 h2
  go_enter Tryz.func56,Tryz.ntmps56
  go_wp2_with (first | (go_at_call 51;refine M.out.mono ?_;rintro e w' ⟨rfl,rfl⟩) | (go_at_call 40;refine M2.out.mono ?_;rintro e w' ⟨rfl,rfl⟩))
  all_goals
   go_ret
   exact ⟨rfl,rfl⟩
set_option maxRecDepth 100000 in
theorem hweigh_bad (m:HMem w h gb qb Fq S K) {i:Nat} {x:Gr} (h0:i≠0) (hx:S.G i=some x) {n:Nat} (hn:n<2∨262144<n):Calls Tryz.prog 58 #[.pointer (some ⟨h,0,none⟩),.int .i64 (i:Int),.int .u64 (n:Nat)] w fun e w'=>e=.returned (.int .i64 4)∧w=w':=by
 have M:=Lib.hid (hlinked_some m h0 hx)
 clear m hx h0
 by_cases h2:n<2
 ·
  have z1:decide ((n:Int)<2)=true:=decide_eq_true (by omega)
  have z2:decide (n<2)=true:=decide_eq_true h2
  clear hn
  go_enter Tryz.func58,Tryz.ntmps58
  go_wp2_with ((go_at_call 51;refine M.out.mono ?_;rintro e w' ⟨rfl,rfl⟩))
  go_ret
  exact ⟨rfl,rfl⟩
 ·
  have z1:decide ((n:Int)<2)=false:=decide_eq_false (by omega)
  have z2:decide (n<2)=false:=decide_eq_false h2
  have z3:decide ((262144:Int)<(n:Int))=true:=decide_eq_true (by omega)
  have z4:decide (262144<n)=true:=decide_eq_true (by omega)
  clear hn
  go_enter Tryz.func58,Tryz.ntmps58
  go_wp2_with ((go_at_call 51;refine M.out.mono ?_;rintro e w' ⟨rfl,rfl⟩))
  go_ret
  exact ⟨rfl,rfl⟩
set_option maxRecDepth 100000 in
theorem hlink_arg (m:HMem w h gb qb Fq S K) {g pa:Int} (hbad:g<1∨31<g∨S.at_ pa=none):Calls Tryz.prog 9 #[.pointer (some ⟨h,0,none⟩),.int .i64 g,.int .i64 pa] w fun e w'=>e=.returned (.int .i64 1)∧w=w':=by
 obtain ⟨o,M⟩:=hat_ptr m pa
 by_cases h1:g<1
 ·
  have z1:decide (g<1)=true:=decide_eq_true h1
  have M:=Lib.hid M
  clear m hbad
  go_enter Tryz.func9,Tryz.ntmps9
  go_wp2_with ((go_at_call 40;refine M.out.mono ?_;rintro e w' ⟨rfl,rfl⟩))
  go_ret
  exact ⟨rfl,rfl⟩
 ·
  have z1:decide (g<1)=false:=decide_eq_false h1
  by_cases h2:31<g
  ·
   have z2:decide (32≤g)=true:=decide_eq_true (by omega)
   have M:=Lib.hid M
   clear m hbad
   go_enter Tryz.func9,Tryz.ntmps9
   go_wp2_with ((go_at_call 40;refine M.out.mono ?_;rintro e w' ⟨rfl,rfl⟩))
   go_ret
   exact ⟨rfl,rfl⟩
  ·
   have z2:decide (32≤g)=false:=decide_eq_false (by omega)
   have M:=Lib.hid (hat_none m (hbad.resolve_left h1 |>.resolve_left h2))
   clear m hbad
   go_enter Tryz.func9,Tryz.ntmps9
   go_wp2_with ((go_at_call 40;refine M.out.mono ?_;rintro e w' ⟨rfl,rfl⟩))
   go_ret
   exact ⟨rfl,rfl⟩
set_option maxRecDepth 100000 in
theorem hlink_busy (m:HMem w h gb qb Fq S K) {i pa:Nat} {x p:Gr} (h0:1≤i) (hx:S.G i=some x) (hp:S.G pa=some p):Calls Tryz.prog 9 #[.pointer (some ⟨h,0,none⟩),.int .i64 (i:Int),.int .i64 (pa:Int)] w fun e w'=>e=.returned (.int .i64 6)∧w=w':=by
 have M:=Lib.hid (hat_some m hp)
 have c2:=m.ptr_some hx
 have hi:=m.idx hx
 have z1:decide ((i:Int)<1)=false:=decide_eq_false (by omega)
 have z2:decide ((32:Int)≤(i:Int))=false:=decide_eq_false (by omega)
 have z3:(0:Int)≤(i:Int):=by omega
 have z4:(i:Int)<32:=by omega
 clear m hx hp
 go_enter Tryz.func9,Tryz.ntmps9
 go_wp2_with ((go_at_call 40;refine M.out.mono ?_;rintro e w' ⟨rfl,rfl⟩))
 go_ret
 exact ⟨rfl,rfl⟩
set_option maxRecDepth 100000 in
theorem hput_bad (m:HMem w h gb qb Fq S K) {g:Int} {e:En} (hbad:S.at_ g=none∨¬(0≤e.id∧e.id<64)):Calls Tryz.prog 10 #[.pointer (some ⟨h,0,none⟩),.int .i64 g,enV e] w fun r w'=>r=.returned (.int .i64 1)∧Below w.heap.size w w':=by
 have MA:∃ o,(Calls Tryz.prog 40 #[.pointer (some ⟨h,0,none⟩),.int .i64 g] (w.alloc (.cells #[.int .i64 e.id,.int .u64 e.wt,.int .i64 e.v,.int .u64 e.rem] 34)) fun r w'=>r=.returned (.pointer o)∧(w.alloc (.cells #[.int .i64 e.id,.int .u64 e.wt,.int .i64 e.v,.int .u64 e.rem] 34))=w')∧(o=none∨decide (0≤e.id∧e.id<64)=false):=by
  have m1:=m.below ((Below.refl _ _).alloc (Nat.le_refl _) (.cells #[.int .i64 e.id,.int .u64 e.wt,.int .i64 e.v,.int .u64 e.rem] 34))
  by_cases hg:S.at_ g=none
  · exact ⟨none,hat_none m1 hg,.inl rfl⟩
  ·
   obtain ⟨o,M⟩:=hat_ptr m1 g
   exact ⟨o,M,.inr (decide_eq_false (hbad.resolve_left hg))⟩
 obtain ⟨o,MA,hc⟩:=MA
 have MA:=Lib.hid MA
 have MT:=Lib.hid fun W=>htask_any e.id W
 generalize decide (0≤e.id∧e.id<64)=b at *
 clear m hbad
 cases o with
 | none =>
  clear hc
  go_enter Tryz.func10,Tryz.ntmps10
  go_wp2_with fail
  refine MA.out.mono ?_
  rintro r w' ⟨rfl,rfl⟩
  go_wp2_with fail
  go_ret
  exact ⟨rfl,(Below.refl _ _).alloc (Nat.le_refl _) _⟩
 | some o =>
  obtain rfl:b=false:=hc.resolve_left (by simp)
  clear hc
  go_enter Tryz.func10,Tryz.ntmps10
  go_wp2_with fail
  refine MA.out.mono ?_
  rintro r w' ⟨rfl,rfl⟩
  go_wp2_with fail
  refine (MT.out _).mono ?_
  rintro r w' ⟨rfl,rfl⟩
  go_wp2_with fail
  go_ret
  exact ⟨rfl,(Below.refl _ _).alloc (Nat.le_refl _) _⟩
set_option maxRecDepth 100000 in
theorem hnice_bad (m:HMem w h gb qb Fq S K) {g t:Int} {n:Nat} (hbad:S.at_ g=none∨¬(0≤t∧t<64)):Calls Tryz.prog 21 #[.pointer (some ⟨h,0,none⟩),.int .i64 g,.int .i64 t,.int .u64 (n:Nat)] w fun r w'=>r=.returned (.int .i64 1)∧w=w':=by
 have MA:∃ o,(Calls Tryz.prog 40 #[.pointer (some ⟨h,0,none⟩),.int .i64 g] w fun r w'=>r=.returned (.pointer o)∧w=w')∧(o=none∨decide (0≤t∧t<64)=false):=by
  by_cases hg:S.at_ g=none
  · exact ⟨none,hat_none m hg,.inl rfl⟩
  ·
   obtain ⟨o,M⟩:=hat_ptr m g
   exact ⟨o,M,.inr (decide_eq_false (hbad.resolve_left hg))⟩
 obtain ⟨o,MA,hc⟩:=MA
 have MA:=Lib.hid MA
 have MT:=Lib.hid fun W=>htask_any t W
 generalize decide (0≤t∧t<64)=b at *
 clear m hbad
 cases o with
 | none =>
  clear hc
  go_enter Tryz.func21,Tryz.ntmps21
  go_wp2_with fail
  refine MA.out.mono ?_
  rintro r w' ⟨rfl,rfl⟩
  go_wp2_with fail
  go_ret
  exact ⟨rfl,rfl⟩
 | some o =>
  obtain rfl:b=false:=hc.resolve_left (by simp)
  clear hc
  go_enter Tryz.func21,Tryz.ntmps21
  go_wp2_with fail
  refine MA.out.mono ?_
  rintro r w' ⟨rfl,rfl⟩
  go_wp2_with fail
  refine (MT.out _).mono ?_
  rintro r w' ⟨rfl,rfl⟩
  go_wp2_with fail
  go_ret
  exact ⟨rfl,rfl⟩
set_option maxRecDepth 100000 in
theorem hdrop_bad (m:HMem w h gb qb Fq S K) {g t:Int} (hbad:S.at_ g=none∨¬(0≤t∧t<64)):Calls Tryz.prog 19 #[.pointer (some ⟨h,0,none⟩),.int .i64 g,.int .i64 t] w fun r w'=>r=.returned (.tuple #[.agg zeroE,.int .i64 1])∧Below w.heap.size w w':=by
 have MA:∃ o,(Calls Tryz.prog 40 #[.pointer (some ⟨h,0,none⟩),.int .i64 g] (w.alloc (.cells zeroE 34)) fun r w'=>r=.returned (.pointer o)∧(w.alloc (.cells zeroE 34))=w')∧(o=none∨decide (0≤t∧t<64)=false):=by
  have m1:=m.below ((Below.refl _ _).alloc (Nat.le_refl _) (.cells zeroE 34))
  by_cases hg:S.at_ g=none
  · exact ⟨none,hat_none m1 hg,.inl rfl⟩
  ·
   obtain ⟨o,M⟩:=hat_ptr m1 g
   exact ⟨o,M,.inr (decide_eq_false (hbad.resolve_left hg))⟩
 obtain ⟨o,MA,hc⟩:=MA
 have MA:=Lib.hid MA
 have MT:=Lib.hid fun W=>htask_any t W
 generalize decide (0≤t∧t<64)=b at *
 clear m hbad
 cases o with
 | none =>
  clear hc
  go_enter Tryz.func19,Tryz.ntmps19
  go_wp2_with fail
  refine MA.out.mono ?_
  rintro r w' ⟨rfl,rfl⟩
  go_wp2_with fail
  exact bodyPost_ret (v:=.tuple #[.agg zeroE,.int .i64 1]) (by simp [results,Tryz.results19,go_sem]) rfl ⟨rfl,(Below.refl _ _).alloc (Nat.le_refl _) _⟩
 | some o =>
  obtain rfl:b=false:=hc.resolve_left (by simp)
  clear hc
  go_enter Tryz.func19,Tryz.ntmps19
  go_wp2_with fail
  refine MA.out.mono ?_
  rintro r w' ⟨rfl,rfl⟩
  go_wp2_with fail
  refine (MT.out _).mono ?_
  rintro r w' ⟨rfl,rfl⟩
  go_wp2_with fail
  exact bodyPost_ret (v:=.tuple #[.agg zeroE,.int .i64 1]) (by simp [results,Tryz.results19,go_sem]) rfl ⟨rfl,(Below.refl _ _).alloc (Nat.le_refl _) _⟩
set_option maxRecDepth 100000 in
theorem hnice_ok (H:HAt w h F S K) {i:Nat} {x:Gr} (hx:S.G i=some x) {t:Int} (t0:0≤t) (t1:t<64) {n:Nat} (hn:n<18446744073709551616) :
  Calls Tryz.prog 21 #[.pointer (some ⟨h,0,none⟩),.int .i64 (i:Int),.int .i64 t,.int .u64 (n:Nat)] w fun r w'=>r=.returned (.int .i64 (weighC x.q (2*t) n))∧∃ F',Hid (HTurned w F h (S.put i (some { x with q:=weighQ x.q (2*t) n })) K w' F'):=by
 obtain ⟨gb,qb,Fq,m,rfl⟩:=H.ex
 have MA:=Lib.hid (hat_some m hx)
 have MT:=fun W=>htask_any t W
 rw [decide_eq_true ⟨t0,t1⟩] at MT
 have MT:=Lib.hid MT
 have x2:=(m.cells hx).2.2.1
 have MW:=Lib.hid ((qweigh_any (m.que i x hx) (2*t) (by omega) (by omega) n hn).mono (R':=fun r w'=>r=.returned (.int .i64 (weighC x.q (2*t) n))∧∃ F',Hid (HTurned w (hblocks h gb Fq S) h (S.put i (some { x with q:=weighQ x.q (2*t) n })) K w' F')) fun r w' hp=>by
  obtain ⟨F',hr,hT⟩:=hp
  obtain ⟨bm,bt,S1,g1,hM,_⟩:=(m.que i x hx).ex
  obtain ⟨F2,hT2⟩:=m.turned hx hT.out (Int.le_refl _) hM.k2
  exact ⟨hr,F2,Lib.hid hT2⟩)
 clear m H hx
 go_enter Tryz.func21,Tryz.ntmps21
 go_wp2_with fail
 refine MA.out.mono ?_
 rintro r w' ⟨rfl,rfl⟩
 go_wp2_with fail
 refine (MT.out _).mono ?_
 rintro r w' ⟨rfl,rfl⟩
 go_wp2_with fail
 refine MW.out.mono ?_
 rintro r w' ⟨rfl,hT⟩
 have HT:=Lib.hid hT
 clear hT
 go_wp2_with fail
 go_ret
 exact ⟨rfl,HT.out⟩
end
end Go.Proofs.YtefekboacghnjaaGreat
namespace Go.Proofs.YtefekboacghnjaaGreat
open Go.RowKit Go.Maps
section
variable {w:World} {h:Nat} {gb qb:Nat→Nat} {Fq:Nat→List Nat} {S:HS} {K:Int}
set_option maxRecDepth 100000 in
set_option maxHeartbeats 16000000 in
theorem hmove_all (m:HMem w h gb qb Fq S K) (T:HTree S) {i j:Nat} {x p:Gr} (h0:i≠0) (hx:S.G i=some x) (hp:S.G j=some p) (hok:∀ u y,S.G u=some y→y.q.ok) (hv1:-9223372036854775808≤x.own.v) (hv2:x.own.v≤9223372036854775807) (hu:underF 9 S j (i:Int)=false) :
  Calls Tryz.prog 56 #[.pointer (some ⟨h,0,none⟩),.int .i64 (i:Int),.int .i64 (j:Int)] w fun e w'=>e=.returned (.int .i64 (moveC S i x p)) ∧
   Hid ((moveC S i x p=0→HMem w' h gb qb Fq (moveHS S i j x p) K∧Turns (hblocks h gb Fq S) w w')∧(moveC S i x p≠0→Below w.heap.size w w')):=by
 obtain ⟨i0,hi,iz0,iz1,iz2⟩:=info_parts infoGp
 have hi32:=m.idx hx
 have ML:=Lib.hid (hlinked_some m h0 hx)
 have MA:=Lib.hid (hat_some m hp)
 have MU:=Lib.hid (hunder_any m T (i:Int) hp)
 rw [hu] at MU
 have MV:=Lib.hid fun (k:Nat) (z:Gr) (hz:S.G k=some z) (W:World) (hW:Below w.heap.size w W)=>hunder_any (m.below hW) T (i:Int) hz
 have MEN:=Lib.hid fun (k:Nat) (z:Gr) (hz:S.G k=some z) (W:World) (hW:Below w.heap.size w W)=>qents_any ((m.below hW).que k z hz)
 obtain ⟨cs,hcs⟩:∃ cs:List Value,cs=(List.range 32).map (gpV gb S):=⟨_,rfl⟩
 have hlen:cs.length=32:=by rw [hcs];simp
 have hat:∀ i,i<32→cs[i]?=some (gpV gb S i):=fun i hi=>by rw [hcs];simp [hi]
 have hrg:w.rangeAt h 2 cs:=fun j v hv=>by
  have hj:j<32:=by
   rw [← hlen]
   exact (List.getElem?_eq_some_iff.1 hv).1
  rw [hat j hj] at hv
  rw [Blk.cell m.blk,hcells_at gb S hj]
  exact hv
 have hinf:(Tryz.prog.info? 53).map (·.size)=some cs.length:=by rw [hlen];rfl
 have HLD:=Lib.hid (And.intro hrg hinf)
 have HC:=Lib.hid (And.intro hat m)
 have HX:=Lib.hid (And.intro hx (And.intro hp (And.intro hok (And.intro hv1 (And.intro hv2 (And.intro h0 T))))))
 clear m T hx hp hu h0 hok hv1 hv2 hcs hlen hat hrg hinf
 go_enter Tryz.func56,Tryz.ntmps56
 go_wp2_with (first
  | (go_at_call 51;refine ML.out.mono ?_;rintro r w' ⟨rfl,rfl⟩)
  | (go_at_call 40;refine MA.out.mono ?_;rintro r w' ⟨rfl,rfl⟩)
  | (go_at_call 92;refine MU.out.mono ?_;rintro r w' ⟨rfl,rfl⟩)
  | (refine wpList_load_mid rfl 53 (.tmp 34) rfl h 2 rfl cs _ HLD.out.1 Tryz.underlying53 rfl HLD.out.2 ?_))
 clear HLD ML MA MU
 go_loopw [9,10,36] (fun s9 s10 s36 wr=>∃ k mm:Nat,k≤32∧s36=.int .i64 k∧s10=.int .i64 mm∧mm=deepest S (unders S i k)∧wr.ownsRow w.heap.size 52 1 s9 (unders S i k).length ((unders S i k).map fun q=>.pointer (some ⟨gb q,0,none⟩))∧Below w.heap.size w wr∧∀ q,q ∈ unders S i k→(grOf S q).q.L=[]) (fun _ _ s36 _=>32 - (intOf s36).toNat)
 case atStart=>exact ⟨0,0,by omega,rfl,rfl,rfl,World.ownsRow_nil _ _ _ _,Below.refl _ _,fun q hq=>by simp [unders] at hq⟩
 case round =>
  obtain ⟨k,mm,hk,rfl,rfl,hmm,hown,hB,hem⟩:=hrel
  by_cases hlt:k<32
  ·
   have k0:(0:Int)≤(k:Int):=Int.natCast_nonneg _
   have k1:(k:Int)<32:=by omega
   have k2:decide (k<32)=true:=decide_eq_true hlt
   have k3:decide ((k:Int)<32)=true:=decide_eq_true k1
   have hv:=HC.out.1 k hlt
   have HI:=fun W=>run_index32 cs hlt hv W
   unfold gpV at HI
   have HR:=Lib.hid (And.intro hmm (And.intro hown (And.intro hB hem)))
   have HLT:=Lib.hid hlt
   cases hz:S.G k with
   | none =>
    rw [hz] at HI
    simp only [Option.map_none] at HI
    have HUS:=Lib.hid (show unders S i (k+1)=unders S i k by rw [unders_step,hz];rfl)
    clear hv hown hB hem hmm
    go_wp2_with fail
    go_roundw
    case rel=>exact ⟨k+1,mm,HLT.out,by go_num,rfl,by rw [HUS.out];exact HR.out.1,by rw [HUS.out];exact HR.out.2.1,HR.out.2.2.1,by rw [HUS.out];exact HR.out.2.2.2⟩
    case measure=>simp [intOf];omega
   | some z =>
    rw [hz] at HI
    simp only [Option.map_some] at HI
    cases hun:underF 9 S k (i:Int) with
    | false =>
     have MV1:=MV.out k z hz wr HR.out.2.2.1
     rw [hun] at MV1
     replace MV1:=Lib.hid MV1
     have HUS:=Lib.hid (show unders S i (k+1)=unders S i k by rw [unders_step,hz,hun];rfl)
     clear hv hown hB hem hmm
     go_wp2_with (go_at_call 92;refine MV1.out.mono ?_;rintro r w' ⟨rfl,rfl⟩)
     go_roundw
     case rel=>exact ⟨k+1,mm,HLT.out,by go_num,rfl,by rw [HUS.out];exact HR.out.1,by rw [HUS.out];exact HR.out.2.1,HR.out.2.2.1,by rw [HUS.out];exact HR.out.2.2.2⟩
     case measure=>simp [intOf];omega
    | true =>
     have MV1:=MV.out k z hz wr HR.out.2.2.1
     rw [hun] at MV1
     replace MV1:=Lib.hid MV1
     have HUS:=Lib.hid (show unders S i (k+1)=unders S i k++[k] by rw [unders_step,hz,hun];rfl)
     have y2:=((HC.out.2.below hB).cells hz).2.2.1
     have ME:=Lib.hid (MEN.out k z hz wr HR.out.2.2.1)
     have HZ:=Lib.hid (And.intro hz (And.intro hun (ents_pos (HX.out.2.2.1 k z hz))))
     clear hv hown hB hem hmm
     go_wp2_with (go_at_call 92;refine MV1.out.mono ?_;rintro r w' ⟨rfl,rfl⟩)
     refine ME.out.mono ?_
     rintro r w2 ⟨v,hr,HV⟩
     obtain ⟨A,cc,rfl,hrow,hlen⟩:=own_ents HV.out.1
     subst hr
     have HB2:=Lib.hid (HR.out.2.2.1.trans (HV.out.2.mono HR.out.2.2.1.size))
     have hown2:=own_below HR.out.2.1 HV.out.2
     obtain ⟨el,hel⟩:∃ el,el=z.q.ents.length:=⟨_,rfl⟩
     have hp:=HZ.out.2.2
     rw [← hel] at hp ⊢
     clear hrow hlen hel y2
     by_cases hq:z.q.L=[]
     ·
      have he0:el=0:=by rw [hp,hq];rfl
      subst he0
      have HQ:=Lib.hid hq
      have nlt:=unders_len S i k
      obtain ⟨nn,hnn⟩:∃ nn,nn=(unders S i k).length:=⟨_,rfl⟩
      obtain ⟨xs,hxs⟩:∃ xs:List Value,xs=(unders S i k).map fun q=>.pointer (some ⟨gb q,0,none⟩):=⟨_,rfl⟩
      rw [← hnn,← hxs] at hown2
      rw [← hnn] at nlt
      have HNN:=Lib.hid (And.intro hnn hxs)
      obtain ⟨zd,hzd⟩:∃ zd,zd=z.deep:=⟨_,rfl⟩
      obtain ⟨m2,hm2⟩:∃ m2,m2=max mm zd:=⟨_,rfl⟩
      have hmax:max (mm:Int) (zd:Int)=(m2:Int):=by omega
      have HM2:=Lib.hid (And.intro hm2 hzd)
      have YD:Hid (∀ W,Below w.heap.size w W→W.cell? ⟨gb k,1,none⟩=some (.int .i64 (zd:Int))):=Lib.hid fun W hW=>by
       rw [hzd]
       exact ((HC.out.2.below hW).cells HZ.out.1).2.1
      have hsz2:=HB2.out.size
      clear hp hq hnn hxs hm2 hzd
      go_wp2_with (at_builtin;refine wpList_append_own _ rfl (.tmp 56) (.tmp 58) 139 rfl w.heap.size 52 i0 _ 1 8 Tryz.underlying139 hi iz0 iz1 iz2 rfl (by decide) _ nn xs rfl (hown2.alloc _) ⟨w2.heap.size,0,none⟩ 1 1 [.pointer (some ⟨gb k,0,none⟩)] rfl rfl (cell_one_new _ _ _) (by simp [Value.oneCell']) (by unfold maxLen;omega) (by omega) (by simp;omega) ?_;intro v' w3 hown3 hgrow3 _;have hB3:Below w.heap.size w w3:=(HB2.out.alloc HB2.out.size _).grown hgrow3 (by simp;omega) (fun b hb=>(hown2.lt b hb).1);have y1:=YD.out w3 hB3;have HB3:=Lib.hid hB3;clear hB3)
      go_roundw
      case rel =>
       refine ⟨k+1,m2,HLT.out,by go_num,rfl,?_,?_,HB3.out,?_⟩
       · rw [HUS.out,deepest_snoc,grOf_some HZ.out.1,HM2.out.1,HM2.out.2,HR.out.1]
       ·
        rw [HUS.out,List.length_append,List.map_append,← HNN.out.1,← HNN.out.2]
        exact hown3
       ·
        rw [HUS.out]
        intro q hq
        rcases List.mem_append.1 hq with hq | hq
        · exact HR.out.2.2.2 q hq
        ·
         rw [List.mem_singleton] at hq
         rw [hq,grOf_some HZ.out.1]
         exact HQ.out
      case measure=>simp [intOf];omega
     ·
      have hpos:0<el:=by rw [hp];exact List.length_pos_iff.2 hq
      have z2:decide ((0:Int)<(el:Int))=true:=decide_eq_true (by omega)
      have z3:decide (0<el)=true:=decide_eq_true hpos
      have HMC:=Lib.hid (show moveC S i x p=6 from if_pos ⟨k,unders_mem.2 ⟨HLT.out,⟨z,HZ.out.1⟩,HZ.out.2.1⟩,by rw [grOf_some HZ.out.1];exact hq⟩)
      clear hp hq hown2
      go_wp2_with fail
      go_ret
      refine ⟨by rw [HMC.out];rfl,Lib.hid ⟨fun h6=>?_,fun _=>HB2.out⟩⟩
      rw [HMC.out] at h6
      exact absurd h6 (by decide)
  ·
   obtain rfl:k=32:=by omega
   obtain ⟨Ls,hLs⟩:∃ Ls,Ls=unders S i 32:=⟨_,rfl⟩
   rw [← hLs] at hmm hown hem
   have hLex:∀ q,q ∈ Ls→∃ y,S.G q=some y:=fun q hq=>by rw [hLs] at hq;exact (unders_mem.1 hq).2.1
   have hmc:moveC S i x p=if 8<(mm:Int)+moveBy x p then 5 else 0:=by
    unfold moveC
    rw [← hLs,← hmm,if_neg]
    rintro ⟨q,hq,hne⟩
    exact hne (hem q hq)
   have hm8:mm≤8:=by rw [hmm];exact deepest_le HX.out.2.2.2.2.2.2 Ls hLex
   obtain ⟨A,c,rfl,hA⟩:∃ A c,u9=.slice A Ls.length c∧∀ k q,Ls[k]?=some q→∃ b,A=some ⟨b,0,none⟩∧w.heap.size≤b∧b<wr.heap.size∧wr.cell? ⟨b,k,none⟩=some (.pointer (some ⟨gb q,0,none⟩)):=by
    rcases row_cells hown with ⟨rfl,h0⟩ | ⟨b,c,rfl,hb1,hb2,_,hc⟩
    ·
     refine ⟨none,0,by rw [h0],fun k q hk=>?_⟩
     have:=(List.getElem?_eq_some_iff.1 hk).1
     omega
    ·
     refine ⟨_,c,rfl,fun k q hk=>⟨b,rfl,hb1,hb2,?_⟩⟩
     have hkl:=(List.getElem?_eq_some_iff.1 hk).1
     rw [hc k (by omega),List.getElem?_map,hk]
     rfl
   have hTd:=HX.out.2.2.2.2.2.2
   have hxd:=hTd.deep i x HX.out.1
   have hpd:=hTd.deep j p HX.out.2.1
   have mB:=HC.out.2.below hB
   have p1:=(mB.cells HX.out.2.1).2.1
   have x1:=(mB.cells HX.out.1).2.1
   have hbz:moveBy x p=((p.deep:Int)+1) - (x.deep:Int):=rfl
   have HDQ:=Lib.hid fun (q:Nat) (y:Gr) (hq:q ∈ Ls) (hy:S.G q=some y)=>(show x.deep≤y.deep∧y.deep≤8 by
    rw [hLs] at hq
    exact ⟨under_deep hTd HX.out.1 9 q y hy (unders_mem.1 hq).2.2,hTd.deep q y hy⟩)
   have HVV:Hid (moveHS S i j x p=(deepL (moveBy x p) S Ls).put i (some { grOf (deepL (moveBy x p) S Ls) i with own:={ x.own with v:=movV S x p },up:=(j:Int) })):=Lib.hid (by
    unfold moveHS
    rw [← hLs])
   have hnd:Ls.Nodup:=by rw [hLs];exact unders_nodup S i 32
   have HLN:=Lib.hid (congrArg List.length hLs)
   have HLS:=Lib.hid (And.intro hLex (And.intro hnd hA))
   have HWR:=Lib.hid (And.intro hB mB)
   clear hLs hmm hown hem hTd hLex hA mB hnd
   generalize moveBy x p=bz at *
   obtain ⟨xd,hxd'⟩:∃ xd,xd=x.deep:=⟨_,rfl⟩
   obtain ⟨pd,hpd'⟩:∃ pd,pd=p.deep:=⟨_,rfl⟩
   rw [← hxd'] at hxd x1 hbz HDQ
   rw [← hpd'] at hpd p1 hbz
   have e1:IntKind.i64.wrap ((pd:Int)+1)=(pd:Int)+1:=by rw [IntKind.wrap_i64];omega
   have e2:IntKind.i64.wrap ((pd:Int)+1 - (xd:Int))=bz:=by rw [IntKind.wrap_i64];omega
   obtain ⟨sm,hsm⟩:∃ sm,sm=(mm:Int)+bz:=⟨_,rfl⟩
   have e3:IntKind.i64.wrap ((mm:Int)+bz)=sm:=by rw [IntKind.wrap_i64];omega
   rw [← hsm] at hmc
   have HBD:=Lib.hid (And.intro hbz (And.intro hxd (And.intro hpd hmc)))
   clear hxd' hpd' hbz hsm hmc hxd hpd hB hm8
   go_wp2_with fail
   go_big_quiet (fail)
   by_cases h8:8<sm
   ·
    have z1:decide ((8:Int)<sm)=true:=decide_eq_true h8
    have HMC:=Lib.hid (show moveC S i x p=5 from HBD.out.2.2.2.trans (if_pos h8))
    go_wp2_with fail
    go_ret
    refine ⟨by rw [HMC.out];rfl,Lib.hid ⟨fun h6=>?_,fun _=>HWR.out.1.trans (below_drewN (Below.refl _ _) _)⟩⟩
    rw [HMC.out] at h6
    exact absurd h6 (by decide)
   ·
    have z1:decide ((8:Int)<sm)=false:=decide_eq_false h8
    have HMC:=Lib.hid (show moveC S i x p=0 from HBD.out.2.2.2.trans (if_neg h8))
    obtain ⟨nl,hnl⟩:∃ nl,nl=Ls.length:=⟨_,rfl⟩
    rw [← hnl]
    have HNL:=Lib.hid hnl
    have hnl32:nl≤32:=by rw [hnl,HLN.out];exact unders_len S i 32
    clear h8 hnl e1 e2 p1 x1
    go_wp2_with fail
    clear e3
    go_loopw [83] (fun s83 W=>∃ k:Nat,k≤nl∧s83=.int .i64 k∧HMem W h gb qb Fq (deepL bz S (Ls.take k)) K∧Turns (hblocks h gb Fq S) w W∧∀ b,w.heap.size≤b→b<wr.heap.size→W.heap[b]?=wr.heap[b]?) (fun s83 _=>nl - (intOf s83).toNat)
    case atStart=>exact ⟨0,Nat.zero_le _,rfl,HWR.out.2.below (below_drewN (Below.refl _ _) _),Turns.of_below (HWR.out.1.trans (below_drewN (Below.refl _ _) _)),fun b _ _=>rfl⟩
    case round =>
     obtain ⟨k,hk,rfl,hM,hT,hrow⟩:=hrel
     by_cases hgo:k<nl
     ·
      have hkl:k<Ls.length:=by rw [← HNL.out];exact hgo
      obtain ⟨q,hq⟩:∃ q,Ls[k]?=some q:=⟨_,List.getElem?_eq_getElem hkl⟩
      have hqm:q ∈ Ls:=List.mem_of_getElem? hq
      obtain ⟨y,hy⟩:=HLS.out.1 q hqm
      have hnin:q ∉ Ls.take k:=by
       intro hin
       obtain ⟨a,ha,hqa⟩:=List.getElem_of_mem hin
       have hal:a<k:=by rw [List.length_take] at ha;omega
       have h2:Ls[a]?=some q:=by rw [← hqa,List.getElem_take,List.getElem?_eq_getElem (by omega)]
       have h3:=(List.getElem?_inj (by omega) HLS.out.2.1).1 (h2.trans hq.symm)
       omega
      have hDy:(deepL bz S (Ls.take k)).G q=some y:=(deepL_other _ _ hnin).trans hy
      obtain ⟨b,rfl,hb1,hb2,hc⟩:=HLS.out.2.2 k q hq
      have c0:wr.cell? ⟨b,k,none⟩=some (.pointer (some ⟨gb q,0,none⟩)):=by
       rw [← hc]
       simp only [World.cell?,hrow b hb1 hb2]
      have d1:=(hM.cells hDy).2.1
      have df:=(hM.cells hDy).2.2.2.2.2.2.2.2.2
      obtain ⟨hy1,hy2⟩:=HDQ.out q y hqm hy
      obtain ⟨yd,hyd⟩:∃ yd,yd=y.deep:=⟨_,rfl⟩
      rw [← hyd] at d1 hy1 hy2
      obtain ⟨dn,hdn⟩:∃ dn,dn=(yd:Int)+bz:=⟨_,rfl⟩
      have hbd:=HBD.out
      have e5:IntKind.i64.wrap ((yd:Int)+bz)=dn:=by rw [IntKind.wrap_i64];omega
      have hdn0:0≤dn:=by omega
      have z2:decide ((k:Int)<(nl:Int))=true:=decide_eq_true (by omega)
      have z3:decide (k<nl)=true:=decide_eq_true hgo
      have j0:(0:Int)≤(k:Int):=Int.natCast_nonneg _
      have j1:(k:Int)<(nl:Int):=by omega
      have HK:=Lib.hid (And.intro hM (And.intro hT (And.intro hrow (And.intro hDy (And.intro (hyd ▸ hdn) (And.intro hdn0 hq))))))
      have HGO:=Lib.hid hgo
      clear hM hT hrow hDy hdn hdn0 hq hqm hy hnin hc hbd hy1 hy2 hyd hkl
      go_wp2_with fail
      go_roundw
      case rel =>
       obtain ⟨hM,hT,hrow,hDy,hdn,hdn0,hq⟩:=HK.out
       have htk:Ls.take (k+1)=Ls.take k++[q]:=by
        rw [List.take_add_one,hq]
        rfl
       refine ⟨k+1,HGO.out,by go_num,?_,?_,?_⟩
       ·
        rw [htk,deepL_snoc]
        exact hM.deeper hDy hdn hdn0
       ·
        refine hT.setCell (p:=⟨gb q,1,none⟩) (.inl ?_) _
        obtain ⟨y0,hy0⟩:=HLS.out.1 q (List.mem_of_getElem? hq)
        exact (hblocks_mem HC.out.2.top).2 (.inr ⟨q,y0,hy0,.inl rfl⟩)
       ·
        intro b2 h1 h2
        obtain ⟨y0,hy0⟩:=HLS.out.1 q (List.mem_of_getElem? hq)
        have hlt:=(HC.out.2.grp q y0 hy0).lt
        exact (Below.heap_setCell _ ⟨gb q,1,none⟩ _ b2 (by show b2≠gb q;omega)).trans (hrow b2 h1 h2)
      case measure=>simp [intOf];omega
     ·
      obtain rfl:k=nl:=by omega
      rw [List.take_of_length_le (by rw [← HNL.out];exact Nat.le_refl _)] at hM
      obtain ⟨x',hx',hxu,hxq,hxo⟩:=deepL_like (by_:=bz) Ls S x HLS.out.1 HX.out.1
      obtain ⟨p',hp',_,hpq,_⟩:=deepL_like (by_:=bz) Ls S p HLS.out.1 HX.out.2.1
      obtain ⟨u,pu,hu1,hu2,_⟩:=HX.out.2.2.2.2.2.2.up i x HX.out.2.2.2.2.2.1 HX.out.1
      obtain ⟨pu',hpu',_,hpuq,_⟩:=deepL_like (by_:=bz) Ls S pu HLS.out.1 hu2
      have hpok:=HX.out.2.2.1 j p HX.out.2.1
      have hpuok:=HX.out.2.2.1 u pu hu2
      have hu32:=HC.out.2.idx hu2
      have hvv:movV S x p=satZ (satZ x.own.v (-pu.q.mn)) p.q.mn:=by
       unfold movV
       rw [hu1,Int.toNat_natCast,grOf_some hu2]
      obtain ⟨ov,hov⟩:∃ ov,ov=x.own.v:=⟨_,rfl⟩
      obtain ⟨am,ham⟩:∃ am,am=pu.q.mn:=⟨_,rfl⟩
      obtain ⟨bm,hbm⟩:∃ bm,bm=p.q.mn:=⟨_,rfl⟩
      rw [← hov,← ham,← hbm] at hvv
      have M1:=Lib.hid fun W' (hW:Below wr.heap.size wr W')=>qmin_any ((hM.below hW).que u pu' hpu')
      have M2:=Lib.hid fun W' (hW:Below wr.heap.size wr W')=>qmin_any ((hM.below hW).que j p' hp')
      rw [hpuq,← ham] at M1
      rw [hpq,← hbm] at M2
      have M3:=fun W'=>rmove_any ov am bm (by rw [hov];exact HX.out.2.2.2.1) (by rw [hov];exact HX.out.2.2.2.2.1) (by rw [ham];exact hpuok.m1) (by rw [ham];exact hpuok.m2) (by rw [hbm];exact hpok.m1) (by rw [hbm];exact hpok.m2) W'
      rw [← hvv] at M3
      obtain ⟨vv,hvv2⟩:∃ vv,vv=movV S x p:=⟨_,rfl⟩
      rw [← hvv2] at M3 HVV
      generalize (overZ ov (-am) || overZ (satZ ov (-am)) bm)=oo at M3
      have g5:wr.cell? ⟨gb i,5,none⟩=some (.int .i64 ov):=by rw [hov,← hxo];exact (hM.cells hx').2.2.2.2.2.1
      have g0:wr.cell? ⟨gb i,0,none⟩=some (.int .i64 (u:Int)):=by rw [← hu1,← hxu];exact (hM.cells hx').1
      have SO:=Lib.hid fun W' (hW:Below wr.heap.size wr W')=>(⟨(hW.cell (p:=⟨gb i,0,none⟩) (hM.grp i x' hx').lt).trans g0,(hM.below hW).ptr_some hpu',((hM.below hW).cells hpu').2.2.1,((hM.below hW).cells hp').2.2.1,Blk.frozen ((hM.below hW).grp i x' hx')⟩ :
       W'.cell? ⟨gb i,0,none⟩=some (.int .i64 (u:Int))∧W'.cell? ⟨h,2+u,none⟩=some (.pointer (some ⟨gb u,0,none⟩))∧W'.cell? ⟨gb u,2,none⟩=some (.pointer (some ⟨qb u,0,none⟩))∧W'.cell? ⟨gb j,2,none⟩=some (.pointer (some ⟨qb j,0,none⟩))∧∀ l,W'.frozen? ⟨gb i,l,none⟩=false)
      have SOS:=Lib.hid fun W' (hW:Below wr.heap.size wr W')=>(show
       (W'.setCell ⟨gb i,5,none⟩ (.int .i64 vv)).cell? ⟨gb i,0,none⟩=some (.int .i64 (u:Int))∧(W'.setCell ⟨gb i,5,none⟩ (.int .i64 vv)).cell? ⟨h,2+u,none⟩=some (.pointer (some ⟨gb u,0,none⟩))∧(W'.setCell ⟨gb i,5,none⟩ (.int .i64 vv)).cell? ⟨gb u,2,none⟩=some (.pointer (some ⟨qb u,0,none⟩))∧(W'.setCell ⟨gb i,5,none⟩ (.int .i64 vv)).cell? ⟨gb j,2,none⟩=some (.pointer (some ⟨qb j,0,none⟩))∧∀ l,(W'.setCell ⟨gb i,5,none⟩ (.int .i64 vv)).frozen? ⟨gb i,l,none⟩=false from by
       have m2:=(hM.below hW).vset hx' vv
       obtain ⟨zu,hzu⟩:=HS.put_like hx' hpu' { x' with own:={ x'.own with v:=vv } }
       obtain ⟨zj,hzj⟩:=HS.put_like hx' hp' { x' with own:={ x'.own with v:=vv } }
       have hs:=HS.put_same (deepL bz S Ls) i (some { x' with own:={ x'.own with v:=vv } })
       refine ⟨?_,m2.ptr_some hzu,(m2.cells hzu).2.2.1,(m2.cells hzj).2.2.1,Blk.frozen (m2.grp i _ hs)⟩
       rw [← hu1,← hxu]
       exact (m2.cells hs).1)
      have M4:Hid (∀ W',Below wr.heap.size wr W'→Calls Tryz.prog 93 #[.int .i64 ov,.int .i64 am,.int .i64 bm] W' fun e w'=>e=.returned (.tuple #[.int .i64 vv,.bool oo])∧w'.cell? ⟨gb i,5,none⟩=some (.int .i64 ov)∧Below wr.heap.size wr w'):=Lib.hid fun W' hW=>(M3 W').mono fun e w' hp=>by
       have hB:=hW.trans (hp.2.mono hW.size)
       exact ⟨hp.1,(hB.cell (p:=⟨gb i,5,none⟩) (hM.grp i x' hx').lt).trans g5,hB⟩
      have c1:=hM.ptr_some hpu'
      have c2:=(hM.cells hpu').2.2.1
      have c3:=(hM.cells hp').2.2.1
      have cf:=Blk.frozen (hM.grp i x' hx')
      have j0:(0:Int)≤(u:Int):=Int.natCast_nonneg _
      have j1:(u:Int)<32:=by omega
      have j2:decide (u<32)=true:=decide_eq_true hu32
      have z2:decide ((k:Int)<(k:Int))=false:=decide_eq_false (by omega)
      have HE:=Lib.hid (And.intro hM (And.intro hT (And.intro hx' hxo)))
      clear hM hT hrow hx' hxu hxq hxo hp' hpq hu1 hu2 hpu' hpuq hpok hpuok hov ham hbm hvv hvv2 HDQ M3
      go_wp2_with fail
      apply wp_region_to (fun W'=>Hid (∃ W0,Below wr.heap.size wr W0∧W'=W0.setCell ⟨gb i,5,none⟩ (.int .i64 vv)))
      case h =>
       refine wp_region_held_drew (S:=(fun W'=>W'.cell? ⟨gb i,0,none⟩=some (.int .i64 (u:Int))∧W'.cell? ⟨h,2+u,none⟩=some (.pointer (some ⟨gb u,0,none⟩))∧W'.cell? ⟨gb u,2,none⟩=some (.pointer (some ⟨qb u,0,none⟩))∧W'.cell? ⟨gb j,2,none⟩=some (.pointer (some ⟨qb j,0,none⟩))∧∀ l,W'.frozen? ⟨gb i,l,none⟩=false)) (by kernel_rfl) (SO.out _ (Below.refl _ _).drew) (fun hHeld=>?_)
       refine wpAnyH_takes (by kernel_rfl) (fun _ _ _ _ _ h=>h) hHeld [0,1,2,3,4,6,7,8,9,10,11,12,13,14,15,16,17,19,20,21,22] [(97,.pointer (some ⟨gb i,0,none⟩)),(98,.pointer (some ⟨gb i,0,none⟩)),(99,.pointer (some ⟨gb i,0,none⟩)),(100,.pointer (some ⟨gb i,3,none⟩)),(101,.pointer (some ⟨gb i,5,none⟩)),(103,.pointer (some ⟨h,0,none⟩)),(104,.pointer (some ⟨gb i,0,none⟩)),(105,.pointer (some ⟨gb i,0,none⟩)),(106,.pointer (some ⟨gb i,0,none⟩)),(107,.int .i64 (u:Int)),(108,.pointer (some ⟨h,0,none⟩)),(109,.pointer (some ⟨h,2,none⟩)),(110,.pointer (some ⟨h,2+u,none⟩)),(111,.pointer (some ⟨gb u,0,none⟩)),(112,.pointer (some ⟨gb u,0,none⟩)),(113,.pointer (some ⟨gb u,2,none⟩)),(114,.pointer (some ⟨qb u,0,none⟩)),(116,.pointer (some ⟨gb j,0,none⟩)),(117,.pointer (some ⟨gb j,0,none⟩)),(118,.pointer (some ⟨gb j,2,none⟩)),(119,.pointer (some ⟨qb j,0,none⟩))] 21 _ _ rfl (by kernel_rfl) ?_ ?_
       ·
        refine tkI rfl rfl (by rfl) ?_ <| tkI rfl rfl (by rfl) ?_ <| tkI rfl rfl (by rfl) ?_ <| tkI rfl rfl (by rfl) ?_ <| tkI rfl rfl (by rfl) ?_ <| tkI rfl rfl (by rfl) ?_ <| tkI rfl rfl (by rfl) ?_ <| tkI rfl rfl (by rfl) ?_ <| tkI rfl rfl (by rfl) ?_ <| tkI rfl rfl (by rfl) ?_ <| tkI rfl rfl (by rfl) ?_ <| tkI rfl rfl (by rfl) ?_ <| tkI rfl rfl (by rfl) ?_ <| tkI rfl rfl (by rfl) ?_ <| tkI rfl rfl (by rfl) ?_ <| tkI rfl rfl (by rfl) ?_ <| tkI rfl rfl (by rfl) ?_ <| tkI rfl rfl (by rfl) ?_ <| tkI rfl rfl (by rfl) ?_ <| tkI rfl rfl (by rfl) ?_ <| tkI rfl rfl (by rfl) ?_ <| tkN
        all_goals (intro W hSw;obtain ⟨k0,k1,k2,k3,k4⟩:=hSw;clear hHeld;go_simp)
       simp only [putsL,listedL,Act.put,List.setIfInBounds_toArray,List.set_cons_zero,List.set_cons_succ]
       refine wpAnyH_ready (rs:=[5,18]) (by kernel_rfl) (by simp) ?_
       refine AllReadyH.cons rfl (fun K hK=>?_) ?_
       ·
        go_simp
        refine hK.out _ _ (SO.out _ (Below.refl _ _).drew) (fun hHeld=>?_)
        clear hK K
        try simp only [Act.put,List.setIfInBounds_toArray,List.set_cons_zero,List.set_cons_succ]
        refine wpAnyH_ready (rs:=[18]) (by kernel_rfl) (by simp) ?_
        refine AllReadyH.cons rfl (fun K hK=>?_) ?_
        ·
         go_simp
         refine (M1.out _ (Below.refl _ _).drew).mono ?_
         rintro r w' ⟨rfl,rfl⟩
         refine hK.out _ _ (SO.out _ (Below.refl _ _).drew) (fun hHeld=>?_)
         clear hK K
         try simp only [Act.put,List.setIfInBounds_toArray,List.set_cons_zero,List.set_cons_succ]
         refine wpAnyH_ready (rs:=[23]) (by kernel_rfl) (by simp) ?_
         refine AllReadyH.cons rfl (fun K hK=>?_) ?_
         ·
          go_simp
          refine (M2.out _ (Below.refl _ _).drew).mono ?_
          rintro r w' ⟨rfl,rfl⟩
          refine hK.out _ _ (SO.out _ (Below.refl _ _).drew) (fun hHeld=>?_)
          clear hK K
          try simp only [Act.put,List.setIfInBounds_toArray,List.set_cons_zero,List.set_cons_succ]
          refine wpAnyH_ready (rs:=[24]) (by kernel_rfl) (by simp) ?_
          refine AllReadyH.cons rfl (fun K hK=>?_) AllReadyH.nil
          go_simp
          refine (M4.out _ (Below.refl _ _).drew).mono ?_
          rintro r w' ⟨rfl,y5,hb⟩
          refine hK.out _ _ (SO.out _ hb) (fun hHeld=>?_)
          clear hK K
          try simp only [Act.put,List.setIfInBounds_toArray,List.set_cons_zero,List.set_cons_succ]
          refine wpAnyH_takes (by kernel_rfl) (fun _ _ _ _ _ h=>h) hHeld [25,26,27,28,29,30] [(96,.tuple #[.int .i64 vv,.bool oo]),(122,.int .i64 vv),(123,.bool oo),(124,.pointer (some ⟨gb i,0,none⟩)),(125,.pointer (some ⟨gb i,3,none⟩)),(126,.pointer (some ⟨gb i,5,none⟩))] 6 _ _ rfl (by kernel_rfl) ?_ ?_
          ·
           refine tkI rfl rfl (by rfl) ?_ <| tkI rfl rfl (by rfl) ?_ <| tkI rfl rfl (by rfl) ?_ <| tkI rfl rfl (by rfl) ?_ <| tkI rfl rfl (by rfl) ?_ <| tkI rfl rfl (by rfl) ?_ <| tkN
           all_goals (intro W hSw;obtain ⟨k0,k1,k2,k3,k4⟩:=hSw;clear hHeld;go_simp)
          simp only [putsL,listedL,Act.put,List.setIfInBounds_toArray,List.set_cons_zero,List.set_cons_succ]
          refine wpAnyH_ready (rs:=[31]) (by kernel_rfl) (by simp) ?_
          refine AllReadyH.cons rfl (fun K hK=>?_) AllReadyH.nil
          have kf:=hHeld.2.2.2.2
          go_simp
          refine hK.out _ _ (SOS.out _ hb) (fun _=>?_)
          refine wpAnyH_done (by kernel_rfl) ?_ _
          exact ⟨rfl,⟨_,hb,rfl⟩⟩
         exact AllReadyH.nil
        exact AllReadyH.nil
       refine AllReadyH.cons rfl (fun K hK=>?_) ?_
       ·
        go_simp
        refine (M1.out _ (Below.refl _ _).drew).mono ?_
        rintro r w' ⟨rfl,rfl⟩
        refine hK.out _ _ (SO.out _ (Below.refl _ _).drew) (fun hHeld=>?_)
        clear hK K
        try simp only [Act.put,List.setIfInBounds_toArray,List.set_cons_zero,List.set_cons_succ]
        refine wpAnyH_ready (rs:=[5,23]) (by kernel_rfl) (by simp) ?_
        refine AllReadyH.cons rfl (fun K hK=>?_) ?_
        ·
         go_simp
         refine hK.out _ _ (SO.out _ (Below.refl _ _).drew) (fun hHeld=>?_)
         clear hK K
         try simp only [Act.put,List.setIfInBounds_toArray,List.set_cons_zero,List.set_cons_succ]
         refine wpAnyH_ready (rs:=[23]) (by kernel_rfl) (by simp) ?_
         refine AllReadyH.cons rfl (fun K hK=>?_) ?_
         ·
          go_simp
          refine (M2.out _ (Below.refl _ _).drew).mono ?_
          rintro r w' ⟨rfl,rfl⟩
          refine hK.out _ _ (SO.out _ (Below.refl _ _).drew) (fun hHeld=>?_)
          clear hK K
          try simp only [Act.put,List.setIfInBounds_toArray,List.set_cons_zero,List.set_cons_succ]
          refine wpAnyH_ready (rs:=[24]) (by kernel_rfl) (by simp) ?_
          refine AllReadyH.cons rfl (fun K hK=>?_) AllReadyH.nil
          go_simp
          refine (M4.out _ (Below.refl _ _).drew).mono ?_
          rintro r w' ⟨rfl,y5,hb⟩
          refine hK.out _ _ (SO.out _ hb) (fun hHeld=>?_)
          clear hK K
          try simp only [Act.put,List.setIfInBounds_toArray,List.set_cons_zero,List.set_cons_succ]
          refine wpAnyH_takes (by kernel_rfl) (fun _ _ _ _ _ h=>h) hHeld [25,26,27,28,29,30] [(96,.tuple #[.int .i64 vv,.bool oo]),(122,.int .i64 vv),(123,.bool oo),(124,.pointer (some ⟨gb i,0,none⟩)),(125,.pointer (some ⟨gb i,3,none⟩)),(126,.pointer (some ⟨gb i,5,none⟩))] 6 _ _ rfl (by kernel_rfl) ?_ ?_
          ·
           refine tkI rfl rfl (by rfl) ?_ <| tkI rfl rfl (by rfl) ?_ <| tkI rfl rfl (by rfl) ?_ <| tkI rfl rfl (by rfl) ?_ <| tkI rfl rfl (by rfl) ?_ <| tkI rfl rfl (by rfl) ?_ <| tkN
           all_goals (intro W hSw;obtain ⟨k0,k1,k2,k3,k4⟩:=hSw;clear hHeld;go_simp)
          simp only [putsL,listedL,Act.put,List.setIfInBounds_toArray,List.set_cons_zero,List.set_cons_succ]
          refine wpAnyH_ready (rs:=[31]) (by kernel_rfl) (by simp) ?_
          refine AllReadyH.cons rfl (fun K hK=>?_) AllReadyH.nil
          have kf:=hHeld.2.2.2.2
          go_simp
          refine hK.out _ _ (SOS.out _ hb) (fun _=>?_)
          refine wpAnyH_done (by kernel_rfl) ?_ _
          exact ⟨rfl,⟨_,hb,rfl⟩⟩
         exact AllReadyH.nil
        refine AllReadyH.cons rfl (fun K hK=>?_) ?_
        ·
         go_simp
         refine (M2.out _ (Below.refl _ _).drew).mono ?_
         rintro r w' ⟨rfl,rfl⟩
         refine hK.out _ _ (SO.out _ (Below.refl _ _).drew) (fun hHeld=>?_)
         clear hK K
         try simp only [Act.put,List.setIfInBounds_toArray,List.set_cons_zero,List.set_cons_succ]
         refine wpAnyH_ready (rs:=[5]) (by kernel_rfl) (by simp) ?_
         refine AllReadyH.cons rfl (fun K hK=>?_) ?_
         ·
          go_simp
          refine hK.out _ _ (SO.out _ (Below.refl _ _).drew) (fun hHeld=>?_)
          clear hK K
          try simp only [Act.put,List.setIfInBounds_toArray,List.set_cons_zero,List.set_cons_succ]
          refine wpAnyH_ready (rs:=[24]) (by kernel_rfl) (by simp) ?_
          refine AllReadyH.cons rfl (fun K hK=>?_) AllReadyH.nil
          go_simp
          refine (M4.out _ (Below.refl _ _).drew).mono ?_
          rintro r w' ⟨rfl,y5,hb⟩
          refine hK.out _ _ (SO.out _ hb) (fun hHeld=>?_)
          clear hK K
          try simp only [Act.put,List.setIfInBounds_toArray,List.set_cons_zero,List.set_cons_succ]
          refine wpAnyH_takes (by kernel_rfl) (fun _ _ _ _ _ h=>h) hHeld [25,26,27,28,29,30] [(96,.tuple #[.int .i64 vv,.bool oo]),(122,.int .i64 vv),(123,.bool oo),(124,.pointer (some ⟨gb i,0,none⟩)),(125,.pointer (some ⟨gb i,3,none⟩)),(126,.pointer (some ⟨gb i,5,none⟩))] 6 _ _ rfl (by kernel_rfl) ?_ ?_
          ·
           refine tkI rfl rfl (by rfl) ?_ <| tkI rfl rfl (by rfl) ?_ <| tkI rfl rfl (by rfl) ?_ <| tkI rfl rfl (by rfl) ?_ <| tkI rfl rfl (by rfl) ?_ <| tkI rfl rfl (by rfl) ?_ <| tkN
           all_goals (intro W hSw;obtain ⟨k0,k1,k2,k3,k4⟩:=hSw;clear hHeld;go_simp)
          simp only [putsL,listedL,Act.put,List.setIfInBounds_toArray,List.set_cons_zero,List.set_cons_succ]
          refine wpAnyH_ready (rs:=[31]) (by kernel_rfl) (by simp) ?_
          refine AllReadyH.cons rfl (fun K hK=>?_) AllReadyH.nil
          have kf:=hHeld.2.2.2.2
          go_simp
          refine hK.out _ _ (SOS.out _ hb) (fun _=>?_)
          refine wpAnyH_done (by kernel_rfl) ?_ _
          exact ⟨rfl,⟨_,hb,rfl⟩⟩
         exact AllReadyH.nil
        exact AllReadyH.nil
       exact AllReadyH.nil
      rintro W8 HW8
      obtain ⟨W0,hB0,hW8⟩:=HW8.out
      obtain ⟨k0,-,-,-,kf⟩:=SOS.out W0 hB0
      rw [← hW8] at k0 kf
      have HW9:=Lib.hid (And.intro hB0 hW8)
      clear hB0 hW8 HW8 SO SOS M1 M2 M4 c1 c2 c3 cf g5 g0
      go_wp2_with fail
      go_ret
      refine ⟨by rw [HMC.out];rfl,Lib.hid ⟨fun _=>?_,fun h6=>absurd HMC.out h6⟩⟩
      obtain ⟨hM,hT,hx',hxo⟩:=HE.out
      obtain ⟨hB0,hW8⟩:=HW9.out
      have m3:=(hM.below hB0).moved hx' vv (j:Int)
      rw [← hW8] at m3
      refine ⟨?_,?_⟩
      ·
       rw [HVV.out,grOf_some hx',← hxo]
       exact m3
      ·
       have hi1:gb i ∈ hblocks h gb Fq S:=(hblocks_mem HC.out.2.top).2 (.inr ⟨i,x,HX.out.1,.inl rfl⟩)
       rw [hW8]
       exact ((hT.below hB0 hT.size).setCell (.inl hi1) _).setCell (.inl hi1) _
end
end Go.Proofs.YtefekboacghnjaaGreat
namespace Go.Proofs.YtefekboacghnjaaGreat
open Go.RowKit Go.Maps
section
variable {w:World} {h:Nat} {S:HS} {K:Int} {F:List Nat}
set_option maxRecDepth 100000 in
theorem hcharge_big (H:HAt w h F S K) (n:Nat) (ok:wayOk curN n S 0) (ns:Nat) (hns:1000000000<ns) (hr:runI n S ≠ -1) :
  Calls Tryz.prog 12 #[.pointer (some ⟨h,0,none⟩),.int .u64 ns] w fun e w'=>e=.returned (.int .i64 8)∧∃ F',Hid (HTurned w F h S K w' F'):=by
 obtain ⟨W1,hW1⟩:∃ W1,W1=w.alloc (.cells #[.int .u64 ns] 32):=⟨_,rfl⟩
 have hb1:Below w.heap.size w W1:=by rw [hW1];exact (Below.refl _ _).alloc (Nat.le_refl _) _
 have hx1:Blk W1 w.heap.size #[.int .u64 ns] 32:=by rw [hW1];exact Blk.new _ _ _
 have hnF:w.heap.size ∉ F:=fun hb=>by have:=H.lt _ hb;omega
 obtain ⟨ri,hri⟩:∃ ri,ri=runI n S:=⟨_,rfl⟩
 have MR:=(hrun_any (H.below hb1) n ok).mono (R':=fun e w'=>e=.returned (.int .i64 ri)∧w'.cell? ⟨w.heap.size,0,none⟩=some (.int .u64 (ns:Nat))∧Hid (∃ F',HTurned w F h S K w' F')) fun e w' hp=>by
  obtain ⟨he,F',hT⟩:=hp
  have hb:=hx1.turns hT.out.turns hnF
  exact ⟨by rw [hri];exact he,Blk.cell hb 0,F',(HTurned.of_below H hb1).trans hT.out⟩
 rw [← hri] at hr
 have z1:(ri == -1)=false:=by simpa using hr
 have z2:decide (ri = -1)=false:=decide_eq_false hr
 have z3:decide ((1000000000:Int)<(ns:Int))=true:=decide_eq_true (by omega)
 have z4:decide (1000000000<ns)=true:=decide_eq_true hns
 have MR:=Lib.hid MR
 have HW1:=Lib.hid hW1
 clear H ok hri hr hb1 hx1 hnF hW1
 go_enter Tryz.func12,Tryz.ntmps12
 go_wp2_with fail
 rw [← HW1.out]
 refine MR.out.mono ?_
 rintro e w' ⟨rfl,c3,hT⟩
 go_wp2_with fail
 go_ret
 obtain ⟨F',hT⟩:=hT.out
 exact ⟨rfl,F',hT⟩
end
end Go.Proofs.YtefekboacghnjaaGreat
