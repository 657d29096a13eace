/-
  An append whose new row is the old one's block or a new one; rbtree.walk.
-/
import Derived.Test.YtkemhcokkaanfaaRb5
import Derived.Deep.RegionLawGrows
namespace Go.Proofs.Ytkemhcokkaanfaa
open Go.RowKit

/-- v' lies where v lay, or in a block that is new since w -/
def Moved (w : World) (v v' : Value) : Prop := v'.ownBlock = v.ownBlock ∨ ∃ g, v'.ownBlock = some g ∧ w.heap.size ≤ g
theorem ownsRow_base {w : World} {B C : Nat} {e : TypeId} {size n : Nat} {v : Value} {xs : List Value} (h : w.ownsRow B e size v n xs) (hC : C ≤ B) : w.ownsRow C e size v n xs := by
  refine ⟨h.1, ?_⟩
  rcases h.2 with h0 | ⟨g, cap, cur, h1, h2, h3⟩
  · exact .inl h0
  · exact .inr ⟨g, cap, cur, h1, Nat.le_trans hC h2, h3⟩

theorem run_append_where {P : Program} (w : World) (base : Nat) (t ty e : TypeId) (i : TypeInfo) (z : Value) (size bytes : Nat) (ht : P.underlying t = some (.slice e)) (hi : P.info? e = some i) (hz : i.zero = some z)
    (hsize : i.size = size) (hby : i.bytes = bytes) (hzs : z.cells.size = size) (hsz : 0 < size)
    (v : Value) (n : Nat) (xs : List Value) (hown : w.ownsRow base e size v n xs)
    (a : Addr) (m c : Nat) (news : List Value) (hl : news.length = m * size) (hnews : ∀ j u, news[j]? = some u → w.cell? (a.add j) = some u) (h1 : ∀ u ∈ news, u.oneCell' = true)
    (h63 : n + m ≤ maxLen) (hbytes : (n + m) * bytes ≤ 140737488355328) (hbase : base ≤ w.heap.size) :
    ∃ v' w', (Builtin.append_ #[t, t] ty #[v, .slice (some a) m c]).run P w = .ok v' w' ∧ w'.ownsRow base e size v' (n + m) (xs ++ news) ∧ w.grownBy w' v.ownBlock ∧ Moved w v v' := by
  rcases hown.2 with ⟨rfl, rfl⟩ | ⟨g, cap, cur, rfl, hb, hg, hnc, hcm, hcs, htk⟩
  · obtain rfl : xs = [] := List.eq_nil_of_length_eq_zero (by simpa using hown.1)
    obtain ⟨v', w', hrun, r1, r2, _⟩ := run_append_own (P := P) w w.heap.size t ty e i z size bytes ht hi hz hsize hby hzs hsz (.slice none 0 0) 0 [] (World.ownsRow_nil w _ e size) a m c news hl hnews h1 h63 hbytes (Nat.le_refl _)
    refine ⟨v', w', hrun, ownsRow_base r1 hbase, r2, ?_⟩
    rcases r1.2 with ⟨rfl, _⟩ | ⟨g, _, _, rfl, hg, _⟩
    · exact .inl rfl
    · exact .inr ⟨g, rfl, hg⟩
  · by_cases hroom : n + m ≤ cap
    · obtain ⟨v', w', hrun, r1, r2, _⟩ := run_append_own (P := P) w base t ty e i z size bytes ht hi hz hsize hby hzs hsz _ n xs hown a m c news hl hnews h1 h63 hbytes hbase
      subst hsize
      have hlt : ∀ j, j < news.length → 0 + n * i.size + j < cur.size := fun j hj => by
        rw [hcs]
        have := Nat.mul_le_mul_right i.size hroom
        rw [Nat.add_mul] at this
        omega
      have hrun2 := run_append_room_cells (P := P) w t ty e i ht hi g 0 n cap a m c news hl hnews h1 hroom (fun j hj => by
        rw [show w.cell? ⟨g, 0 + n * i.size + j, none⟩ = cur[0 + n * i.size + j]? by simp [World.cell?, hg]]
        rw [Array.getElem?_eq_getElem (hlt j hj)]; rfl) (fun j hj => by simp [World.frozen?, hg])
      rw [hrun] at hrun2
      injection hrun2 with hv _
      exact ⟨v', w', hrun, r1, r2, .inl (by rw [hv]; rfl)⟩
    · obtain ⟨v', w', hrun, r1, r2⟩ := run_append_arg_grows (P := P) w t ty e i z size bytes ht hi hz hsize hby hzs hsz ⟨g, 0, none⟩ n cap xs hown.1 (hown.cells rfl) a m c news hl hnews (by omega) h63 hbytes
      refine ⟨v', w', hrun, ownsRow_base r1 hbase, ⟨r2.os, r2.tape, r2.output, r2.size, fun k hk _ => r2.block k hk (by simp)⟩, ?_⟩
      rcases r1.2 with ⟨rfl, hz0⟩ | ⟨g', _, _, rfl, hg', _⟩
      · omega
      · exact .inr ⟨g', rfl, hg'⟩

theorem step_append_where {P : Program} {ops : Array Oper} {o : Oper} {a : Act} {w : World} {K : Act → World → Prop} {Q : Exit → Act → World → Prop} {E : Prop}
    (hg : o.guard = none) (s x : Operand) (t : TypeId) (hop : o.op = Op.call { callee := Callee.builtin Builtin.append, args := #[s, x], argTypes := #[t, t] })
    (base : Nat) (e : TypeId) (i : TypeInfo) (z : Value) (size bytes : Nat) (h1 : P.underlying t = some (.slice e)) (h2 : P.info? e = some i) (h3 : i.zero = some z) (h4 : i.size = size) (h5 : i.bytes = bytes) (h6 : z.cells.size = size) (h7 : 0 < size)
    (v : Value) (n : Nat) (xs : List Value) (hs : a.eval s = v) (hown : w.ownsRow base e size v n xs)
    (ad : Addr) (m c : Nat) (news : List Value) (hx : a.eval x = .slice (some ad) m c) (hn : news.length = m * size) (hc : ∀ j u, news[j]? = some u → w.cell? (ad.add j) = some u) (h1c : ∀ u ∈ news, u.oneCell' = true)
    (b1 : n + m ≤ maxLen) (b2 : (n + m) * bytes ≤ 140737488355328) (hbase : base ≤ w.heap.size)
    (hK : ∀ v' w', w'.ownsRow base e size v' (n + m) (xs ++ news) → w.grownBy w' v.ownBlock → Moved w v v' → K (a.put o.dst v') w') :
    if Region.wanted o (yielded ops a.tmps) = true then Oper.wp P o a w K Q else E := by
  have hw : Region.wanted o (yielded ops a.tmps) = true := by simp [Region.wanted, hg]
  rw [if_pos hw]
  obtain ⟨v', w', hrun, r1, r2, r3⟩ := run_append_where (P := P) w base t o.type e i z size bytes h1 h2 h3 h4 h5 h6 h7 v n xs hown ad m c news hn hc h1c b1 b2 hbase
  unfold Oper.wp
  simp [execOp, hop, resolve, invoke, builtin, hs, hx, hrun, Result.andThen]
  exact hK v' w' r1 r2 r3

/-! The walk. -/
def kcells (k : Int × Int) : List Value := [.int .i64 k.1, .int .i64 k.2]
theorem infoK : (Try.prog.info? 144).map (fun i => (i.zero, i.size, i.bytes)) = some (some (.agg #[.int .i64 0, .int .i64 0]), 2, 16) := by kernel_rfl
/-- a row that has grown by these keys; nothing else that was there has turned -/
structure Grew (base : Nat) (w : World) (v : Value) (n : Nat) (xs : List Value) (ks : List (Int × Int)) (w' : World) (v' : Value) : Prop where
  own : w'.ownsRow base 144 2 v' (n + ks.length) (xs ++ ks.flatMap kcells)
  turns : Turns v.ownBlock.toList w w'
  moved : Moved w v v'
theorem Moved.trans {a b : World} {u v x : Value} (h : Moved a u v) (k : Moved b v x) (hs : a.heap.size ≤ b.heap.size) : Moved a u x := by
  rcases k with e | ⟨g, e, hg⟩
  · rcases h with h | ⟨g, h, hg⟩
    · exact .inl (e.trans h)
    · exact .inr ⟨g, e.trans h, hg⟩
  · exact .inr ⟨g, e, Nat.le_trans hs hg⟩
theorem Moved.sub {a b c : World} {u v : Value} (h : Moved a u v) (T : Turns u.ownBlock.toList a b) (k : Turns v.ownBlock.toList b c) : Turns u.ownBlock.toList a c :=
  T.then k fun x hx hlt => by
    rcases h with e | ⟨g, e, hg⟩
    · rw [← e]; exact hx
    · rw [e] at hx
      simp at hx
      omega
theorem Grew.refl {base : Nat} {w : World} {v : Value} {n : Nat} {xs : List Value} (h : w.ownsRow base 144 2 v n xs) : Grew base w v n xs [] w v := ⟨by simpa using h, Turns.refl _ _, .inl rfl⟩
theorem Grew.trans {base : Nat} {a b c : World} {u v x : Value} {n : Nat} {xs : List Value} {ks ms : List (Int × Int)} (h : Grew base a u n xs ks b v) (k : Grew base b v (n + ks.length) (xs ++ ks.flatMap kcells) ms c x) : Grew base a u n xs (ks ++ ms) c x :=
  ⟨by have := k.own; rw [List.length_append, List.flatMap_append, ← List.append_assoc, ← Nat.add_assoc]; exact this, h.moved.sub h.turns k.turns, h.moved.trans k.moved h.turns.size⟩
theorem Grew.alloc {base : Nat} {a b : World} {u v : Value} {n : Nat} {xs : List Value} {ks : List (Int × Int)} (h : Grew base a u n xs ks b v) (o : Obj) : Grew base a u n xs ks (b.alloc o) v := ⟨h.own.alloc o, h.turns.alloc o, h.moved⟩
/-- from a world in which less had been made -/
theorem Grew.from {base : Nat} {a a' b : World} {u v : Value} {n : Nat} {xs : List Value} {ks : List (Int × Int)} (h : Grew base a' u n xs ks b v) (T : Below a.heap.size a a') : Grew base a u n xs ks b v := by
  have hz := T.size
  refine ⟨h.own, ⟨h.turns.os.trans T.os, h.turns.tape.trans T.tape, h.turns.output.trans T.output, Nat.le_trans hz h.turns.size, fun i hi hn => (h.turns.block i (by omega) hn).trans (T.block i hi)⟩, ?_⟩
  rcases h.moved with e | ⟨g, e, hg⟩
  · exact .inl e
  · exact .inr ⟨g, e, by omega⟩
theorem Grew.put {base : Nat} {a b : World} {u v : Value} {n : Nat} {xs : List Value} {k : Int × Int} (ho : b.ownsRow base 144 2 v (n + 1) (xs ++ kcells k)) (hg : a.grownBy b u.ownBlock) (hm : Moved a u v) : Grew base a u n xs [k] b v :=
  ⟨by simpa using ho, ⟨hg.os, hg.tape, hg.output, hg.size, fun i hi hn => hg.block i hi (fun e => hn (by rw [← e]; simp))⟩, hm⟩

end Go.Proofs.Ytkemhcokkaanfaa
