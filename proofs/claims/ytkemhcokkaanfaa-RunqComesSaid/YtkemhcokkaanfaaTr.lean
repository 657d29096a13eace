/-
  Trees of keys, each node in a block of its own; what turns in memory. Plain Lean: no function of the program in sight.
-/
import Derived.Test.YtkemhcokkaanfaaHeap
namespace Go.Proofs.Ytkemhcokkaanfaa
open Go.RowKit

/-! Some blocks, and what is new, have turned. -/
structure Turns (S : List Nat) (w w' : World) : Prop where
  os : w'.os = w.os
  tape : w'.tape = w.tape
  output : w'.output = w.output
  size : w.heap.size ≤ w'.heap.size
  block : ∀ k, k < w.heap.size → k ∉ S → w'.heap[k]? = w.heap[k]?
theorem Turns.refl (S : List Nat) (w : World) : Turns S w w := ⟨rfl, rfl, rfl, Nat.le_refl _, fun _ _ _ => rfl⟩
theorem Turns.trans {S : List Nat} {a b c : World} (h : Turns S a b) (k : Turns S b c) : Turns S a c :=
  ⟨k.os.trans h.os, k.tape.trans h.tape, k.output.trans h.output, Nat.le_trans h.size k.size, fun i hi hn => (k.block i (Nat.lt_of_lt_of_le hi h.size) hn).trans (h.block i hi hn)⟩
/-- what turns later may be new since the first world -/
theorem Turns.then {S T : List Nat} {a b c : World} (h : Turns S a b) (k : Turns T b c) (hT : ∀ x, x ∈ T → x < a.heap.size → x ∈ S) : Turns S a c :=
  ⟨k.os.trans h.os, k.tape.trans h.tape, k.output.trans h.output, Nat.le_trans h.size k.size, fun i hi hn => (k.block i (Nat.lt_of_lt_of_le hi h.size) (fun hm => hn (hT i hm hi))).trans (h.block i hi hn)⟩
theorem Turns.mono {S T : List Nat} {a b : World} (h : Turns S a b) (hS : ∀ x, x ∈ S → x ∈ T) : Turns T a b := ⟨h.os, h.tape, h.output, h.size, fun i hi hn => h.block i hi (fun hm => hn (hS i hm))⟩
theorem Turns.drew {S : List Nat} {a b : World} (h : Turns S a b) : Turns S a b.drew := ⟨h.os, h.tape, h.output, h.size, h.block⟩
theorem Turns.drewN {S : List Nat} {a b : World} (h : Turns S a b) (n : Nat) : Turns S a (b.drewN n) := ⟨h.os, h.tape, h.output, h.size, h.block⟩
theorem Turns.alloc {S : List Nat} {a b : World} (h : Turns S a b) (o : Obj) : Turns S a (b.alloc o) :=
  ⟨h.os, h.tape, h.output, Nat.le_trans h.size (by simp), fun i hi hn => (Below.heap_alloc b o i (Nat.lt_of_lt_of_le hi h.size)).trans (h.block i hi hn)⟩
theorem Turns.setCell {S : List Nat} {a b : World} (h : Turns S a b) {p : Addr} (hp : p.block ∈ S ∨ a.heap.size ≤ p.block) (u : Value) : Turns S a (b.setCell p u) :=
  ⟨h.os, h.tape, h.output, by simpa [World.setCell] using h.size, fun i hi hn => (Below.heap_setCell b p u i (by
    rintro rfl
    rcases hp with hp | hp
    · exact hn hp
    · omega)).trans (h.block i hi hn)⟩
theorem Turns.below {S : List Nat} {a b c : World} (h : Turns S a b) {B : Nat} (k : Below B b c) (hB : a.heap.size ≤ B) : Turns S a c :=
  ⟨k.os.trans h.os, k.tape.trans h.tape, k.output.trans h.output, Nat.le_trans h.size k.size, fun i hi hn => (k.block i (Nat.lt_of_lt_of_le hi hB)).trans (h.block i hi hn)⟩
theorem Turns.of_below {S : List Nat} {a b : World} (h : Below a.heap.size a b) : Turns S a b := ⟨h.os, h.tape, h.output, h.size, fun i hi _ => h.block i hi⟩
theorem Turns.of_grown {a b : World} {g : Nat} (h : a.grownBy b (some g)) : Turns [g] a b := ⟨h.os, h.tape, h.output, h.size, fun i hi hn => h.block i hi (fun e => hn (by injection e with e; simp [e]))⟩
theorem Blk.turns {w w' : World} {S : List Nat} {b : Nat} {cs : Array Value} {t : TypeId} (h : Blk w b cs t) (k : Turns S w w') (hn : b ∉ S) : Blk w' b cs t := h.of (k.block b h.lt hn)
/-- below what was there at some time nothing has turned -/
theorem Below.turns {B : Nat} {a w w' : World} {S : List Nat} (h : Below B a w) (k : Turns S w w') (hS : ∀ x, x ∈ S → B ≤ x) (hB : B ≤ w.heap.size) : Below B a w' :=
  h.trans ⟨k.os, k.tape, k.output, k.size, fun i hi => k.block i (by omega) (fun hm => by have := hS i hm; omega)⟩

/-! Trees. -/
inductive Tr where
  | nil : Tr
  | node (b : Nat) (l : Tr) (v i lev : Int) (r : Tr) : Tr

def Tr.ptr : Tr → Option Addr
  | .nil => none
  | .node b _ _ _ _ _ => some ⟨b, 0, none⟩
def Tr.lev : Tr → Int
  | .nil => 0
  | .node _ _ _ _ l _ => l
def Tr.rt : Tr → Tr
  | .nil => .nil
  | .node _ _ _ _ _ r => r
def Tr.lf : Tr → Tr
  | .nil => .nil
  | .node _ l _ _ _ _ => l
def Tr.blocks : Tr → List Nat
  | .nil => []
  | .node b l _ _ _ r => b :: (l.blocks ++ r.blocks)
def Tr.keys : Tr → List (Int × Int)
  | .nil => []
  | .node _ l v i _ r => l.keys ++ (v, i) :: r.keys
def Tr.size : Tr → Nat
  | .nil => 0
  | .node _ l _ _ _ r => l.size + r.size + 1
/-- the cells of a node -/
abbrev nodeCells (v i lev : Int) (l r : Option Addr) : Array Value := #[.int .i64 v, .int .i64 i, .int .i64 lev, .pointer l, .pointer r]
/-- memory holds the tree -/
def IsTr (T : TypeId) (w : World) : Tr → Prop
  | .nil => True
  | .node b l v i lev r => Blk w b (nodeCells v i lev l.ptr r.ptr) T ∧ IsTr T w l ∧ IsTr T w r

theorem IsTr.of {T : TypeId} {w w' : World} : ∀ {t : Tr}, IsTr T w t → (∀ b, b ∈ t.blocks → w'.heap[b]? = w.heap[b]?) → IsTr T w' t
  | .nil, _, _ => trivial
  | .node b l v i lev r, ⟨hb, hl, hr⟩, h => ⟨hb.of (h b (by simp [Tr.blocks])), hl.of (fun x hx => h x (by simp [Tr.blocks, hx])), hr.of (fun x hx => h x (by simp [Tr.blocks, hx]))⟩
theorem IsTr.lt {T : TypeId} {w : World} : ∀ {t : Tr}, IsTr T w t → ∀ b, b ∈ t.blocks → b < w.heap.size
  | .nil, _, b, hb => by simp [Tr.blocks] at hb
  | .node b l v i lev r, ⟨hb, hl, hr⟩, x, hx => by
    simp [Tr.blocks] at hx
    rcases hx with rfl | hx | hx
    · exact hb.lt
    · exact hl.lt x hx
    · exact hr.lt x hx
theorem IsTr.turns {T : TypeId} {w w' : World} {S : List Nat} {t : Tr} (h : IsTr T w t) (k : Turns S w w') (hd : ∀ b, b ∈ t.blocks → b ∉ S) : IsTr T w' t := h.of (fun b hb => k.block b (h.lt b hb) (hd b hb))
theorem IsTr.below {T : TypeId} {w w' : World} {t : Tr} (h : IsTr T w t) (k : Below w.heap.size w w') : IsTr T w' t := h.of (fun b hb => k.block b (h.lt b hb))
theorem IsTr.alloc {T : TypeId} {w : World} {t : Tr} (h : IsTr T w t) (o : Obj) : IsTr T (w.alloc o) t := h.of (fun b hb => Below.heap_alloc w o b (h.lt b hb))
theorem IsTr.drew {T : TypeId} {w : World} : ∀ {t : Tr}, IsTr T w t → IsTr T w.drew t := fun h => h.of (fun _ _ => rfl)
theorem IsTr.drewN {T : TypeId} {w : World} {t : Tr} (h : IsTr T w t) (n : Nat) : IsTr T (w.drewN n) t := h.of (fun _ _ => rfl)
theorem IsTr.setCell {T : TypeId} {w : World} {t : Tr} (h : IsTr T w t) {p : Addr} (u : Value) (hn : p.block ∉ t.blocks) : IsTr T (w.setCell p u) t := h.of (fun b hb => Below.heap_setCell w p u b (fun e => hn (e ▸ hb)))

/-! The turns at a node. -/
def skewT : Tr → Tr
  | .node b (.node bl ll vl il levl rl) v i lev r => if levl = lev then .node bl ll vl il levl (.node b rl v i lev r) else .node b (.node bl ll vl il levl rl) v i lev r
  | t => t
def splitT : Tr → Tr
  | .node b l v i lev (.node br lr vr ir levr (.node b2 l2 v2 i2 lev2 r2)) =>
      if lev2 = lev then .node br (.node b l v i lev lr) vr ir (levr + 1) (.node b2 l2 v2 i2 lev2 r2) else .node b l v i lev (.node br lr vr ir levr (.node b2 l2 v2 i2 lev2 r2))
  | t => t

theorem skew_yes {b bl : Nat} {ll rl r : Tr} {vl il levl v i lev : Int} (h : levl = lev) : skewT (.node b (.node bl ll vl il levl rl) v i lev r) = .node bl ll vl il levl (.node b rl v i lev r) := if_pos h
theorem skew_no {b bl : Nat} {ll rl r : Tr} {vl il levl v i lev : Int} (h : ¬ levl = lev) : skewT (.node b (.node bl ll vl il levl rl) v i lev r) = .node b (.node bl ll vl il levl rl) v i lev r := if_neg h
theorem split_yes {b br b2 : Nat} {l lr l2 r2 : Tr} {v i lev vr ir levr v2 i2 lev2 : Int} (h : lev2 = lev) :
    splitT (.node b l v i lev (.node br lr vr ir levr (.node b2 l2 v2 i2 lev2 r2))) = .node br (.node b l v i lev lr) vr ir (levr + 1) (.node b2 l2 v2 i2 lev2 r2) := if_pos h
theorem split_no {b br b2 : Nat} {l lr l2 r2 : Tr} {v i lev vr ir levr v2 i2 lev2 : Int} (h : ¬ lev2 = lev) :
    splitT (.node b l v i lev (.node br lr vr ir levr (.node b2 l2 v2 i2 lev2 r2))) = .node b l v i lev (.node br lr vr ir levr (.node b2 l2 v2 i2 lev2 r2)) := if_neg h

theorem skew_keys : ∀ t, (skewT t).keys = t.keys
  | .nil => rfl
  | .node b .nil v i lev r => rfl
  | .node b (.node bl ll vl il levl rl) v i lev r => by
    by_cases h : levl = lev
    · rw [skew_yes h]; simp [Tr.keys]
    · rw [skew_no h]
theorem split_keys : ∀ t, (splitT t).keys = t.keys
  | .nil => rfl
  | .node b l v i lev .nil => rfl
  | .node b l v i lev (.node br lr vr ir levr .nil) => rfl
  | .node b l v i lev (.node br lr vr ir levr (.node b2 l2 v2 i2 lev2 r2)) => by
    by_cases h : lev2 = lev
    · rw [split_yes h]; simp [Tr.keys]
    · rw [split_no h]
theorem skew_size : ∀ t, (skewT t).size = t.size
  | .nil => rfl
  | .node b .nil v i lev r => rfl
  | .node b (.node bl ll vl il levl rl) v i lev r => by
    by_cases h : levl = lev
    · rw [skew_yes h]; simp [Tr.size]; omega
    · rw [skew_no h]
theorem split_size : ∀ t, (splitT t).size = t.size
  | .nil => rfl
  | .node b l v i lev .nil => rfl
  | .node b l v i lev (.node br lr vr ir levr .nil) => rfl
  | .node b l v i lev (.node br lr vr ir levr (.node b2 l2 v2 i2 lev2 r2)) => by
    by_cases h : lev2 = lev
    · rw [split_yes h]; simp [Tr.size]; omega
    · rw [split_no h]
theorem skew_blocks : ∀ t, (skewT t).blocks.Perm t.blocks
  | .nil => .refl _
  | .node b .nil v i lev r => .refl _
  | .node b (.node bl ll vl il levl rl) v i lev r => by
    by_cases h : levl = lev
    · rw [skew_yes h]
      simp only [Tr.blocks]
      refine List.perm_iff_count.2 fun a => ?_
      simp only [List.count_cons, List.count_append]
      omega
    · first | rw [skew_no h] | rw [split_no h]
theorem split_blocks : ∀ t, (splitT t).blocks.Perm t.blocks
  | .nil => .refl _
  | .node b l v i lev .nil => .refl _
  | .node b l v i lev (.node br lr vr ir levr .nil) => .refl _
  | .node b l v i lev (.node br lr vr ir levr (.node b2 l2 v2 i2 lev2 r2)) => by
    by_cases h : lev2 = lev
    · rw [split_yes h]
      simp only [Tr.blocks]
      refine List.perm_iff_count.2 fun a => ?_
      simp only [List.count_cons, List.count_append]
      omega
    · first | rw [skew_no h] | rw [split_no h]

end Go.Proofs.Ytkemhcokkaanfaa
