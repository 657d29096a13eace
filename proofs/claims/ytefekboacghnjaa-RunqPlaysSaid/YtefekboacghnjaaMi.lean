/-
  THE FRAME THAT ALL LAWS OF THIS SEAT SHARE: from a walk that returns true and leaves old memory as it was, to the row.
  Arguments opened to cells: slices of structs of one-cell fields.
  Arguments opened to cells: slices of small numbers; entities.
  Chapter 8: how its inputs lie.
  Rows of entities; doleref08.Same of a row and itself.
  Four cells that are set; a region that ends in one frame.
-/
import Derived.Test.YtefekboacghnjaaRows
import Derived.WalkKit
import Derived.ProofKit
import Derived.OpenShut
import Derived.ChangeOld
import Derived.Below
import Derived.ChangeCalls
import Derived.Lib.SmallJoins
import Derived.Test.YtefekboacghnjaaMa
import Derived.Deep.Slices
import Derived.Deep.Fields
import Derived.ChangeSame
import Derived.Test.YtefekboacghnjaaMh

namespace Go.Proofs.Ytefekboacghnjaa
open Go.ChangeShapes Go.WideShapes Go.ChangeAt Go.RowKit

theorem own : ownKnob Try.prog.godebug = none := by kernel_rfl
theorem laidOut : laidOutB Try.prog = true := by kernel_rfl

/-! ### What the dump's head says: its first words, without reckoning the whole string -/
theorem toList_of {s : String} {l : List Char} (h : s = String.ofList l) : s.toList = l := by rw [h]; exact String.toList_ofList

theorem wordsSigns_word (a b : List Char) (h : (a.all fun c => !(c == Char.ofNat 32)) = true) : wordsSigns (a ++ Char.ofNat 32 :: b) = a :: wordsSigns b := by
  induction a with
  | nil => rfl
  | cons x a ih =>
    simp only [List.all_cons, Bool.and_eq_true] at h
    have hx : x ≠ Char.ofNat 32 := by have := h.1; simpa using this
    rw [List.cons_append]
    conv => lhs; unfold wordsSigns
    split
    · rename_i e; cases e
    · rename_i e
      injection e with e1 e2
      exact absurd e1 hx
    · rename_i c r hn e
      injection e with e1 e2
      subst e1 e2
      rw [ih h.2]

theorem words_of (l : List Char) (n : Nat) (h1 : l.drop n = Char.ofNat 32 :: l.drop (n + 1)) (h2 : ((l.take n).all fun c => !(c == Char.ofNat 32)) = true) : wordsSigns l = l.take n :: wordsSigns (l.drop (n + 1)) := by
  have := wordsSigns_word (l.take n) (l.drop (n + 1)) h2
  rw [← h1, List.take_append_drop] at this
  exact this

theorem strip_cut (rest : List (List Char)) : stripLifts liftWords ("cut".toList :: rest) = ([], "cut".toList :: rest) := by kernel_rfl

theorem behind_of (l : List Char) (h1 : l.drop 7 = Char.ofNat 32 :: l.drop 8) (h2 : l.take 7 = "harness".toList) (h3 : (l.drop 8).drop 64 = Char.ofNat 32 :: (l.drop 8).drop 65) (h4 : isSumSigns ((l.drop 8).take 64) = true) (h4' : (((l.drop 8).take 64).all fun c => !(c == Char.ofNat 32)) = true)
    (h5 : ((l.drop 8).drop 65).drop 3 = Char.ofNat 32 :: ((l.drop 8).drop 65).drop 4) (h6 : ((l.drop 8).drop 65).take 3 = "cut".toList) :
    behindMainWord (wordsSigns l) = "cut".toList :: wordsSigns (((l.drop 8).drop 65).drop 4) := by
  rw [words_of l 7 h1 (by rw [h2]; kernel_rfl), words_of (l.drop 8) 64 h3 h4', words_of ((l.drop 8).drop 65) 3 h5 (by rw [h6]; kernel_rfl), h2, h6]
  unfold behindMainWord
  simp [h4]

theorem mayEnter_of {P : Program} {rest : List (List Char)} (h : behindMainWord (wordsSigns P.initOrder.toList) = "cut".toList :: rest) (h1 : P.laysLater = false) (h2 : P.bearsReflect = false) (h3 : P.doorFits [] = true) : P.mayEnter = true := by
  unfold Program.mayEnter
  rw [h]
  simp only []
  rw [strip_cut, h1, h2, h3]
  kernel_rfl

set_option maxRecDepth 100000 in
theorem order : behindMainWord (wordsSigns Try.prog.initOrder.toList) = "cut".toList :: wordsSigns (((Try.prog.initOrder.toList.drop 8).drop 65).drop 4) := by
  rw [toList_of (s := Try.prog.initOrder) rfl]
  refine behind_of _ ?_ ?_ ?_ ?_ ?_ ?_ ?_
  all_goals (as_aux_lemma => kernel_rfl)

theorem mayEnterT : Try.prog.mayEnter = true := mayEnter_of order (by as_aux_lemma => kernel_rfl) (by as_aux_lemma => kernel_rfl) (by as_aux_lemma => kernel_rfl)
theorem liftsFinalF : Try.prog.liftsFinal = false := by
  unfold Program.liftsFinal Program.headLifts
  rw [order]
  simp only []
  rw [strip_cut]
  kernel_rfl
theorem mapsRowedT : mapsRowed Try.prog = true := by kernel_rfl
theorem stopsN : (Try.prog.stops == []) = true := by kernel_rfl
theorem stopKnobsN : (Try.prog.stopKnobs == []) = true := by kernel_rfl
theorem plainKeysT : (true == Try.prog.plainKeys) = true := by kernel_rfl
theorem stopsHeardT : Try.prog.stopsHeard = true := by kernel_rfl
theorem make_of {P : Program} {rest : List (List Char)} (h : behindMainWord (wordsSigns P.initOrder.toList) = "cut".toList :: rest) : P.make = some .cut := by
  unfold Program.make
  rw [h]
  simp
theorem makeT : (Try.prog.make == some .cut) = true := by rw [make_of order]; rfl
theorem liftedT : (false == Try.prog.liftsFinal) = true := by rw [liftsFinalF]; rfl

section
variable {H : Type} {enc : TypeId × Value → H} {P : Program}

theorem trodAll_below (hl : laidOutB P = true) {W W' : World} (hb : Below W.heap.size W W') : ∀ {ts : List TypeId} {vs : List Value} {ds : List (DataW H)} {ps : List MemPlace},
    (∀ t ∈ ts, P.readableRec t = true ∧ t < P.types.size) → DataW.TrodAll enc P W 0 (fun _ => true) true ts vs ds ps → (∀ x ∈ ps, x.block < W.heap.size) →
    DataW.TrodAll enc P W' 0 (fun b => decide (b < W.heap.size)) true ts vs ds ps
  | [], vs, ds, ps, _, h, _ => by
      obtain ⟨rfl, rfl, rfl⟩ := trodAll_nil h
      exact trodAll_mk0
  | t :: ts, vs, ds, ps, ht, h, hlt => by
      obtain ⟨v, vs', d, ds', p, q, rfl, rfl, rfl, h0, h1⟩ := trodAll_cons h
      have ht0 := ht t (by simp)
      exact trodAll_cons_mk (Below.trod hl ht0.1 ht0.2 h0 hb (fun x hx => hlt x (by simp [hx])))
        (trodAll_below hl hb (fun u hu => ht u (by simp [hu])) h1 (fun x hx => hlt x (by simp [hx])))

/-- The end of a law's row: it has returned true, old memory is as it was. -/
theorem law_post {f : Func} {s : ChangeSpec} {tb : TypeId} (hl : laidOutB P = true) (hts : (f.params.toList.all fun t => P.readableRec t && decide (t < P.types.size)) = true) (hr : f.resultTypes = #[tb]) (hb : P.underlying tb = some .bool)
    (hv : s.vars = []) (hs : ∀ ds : List (DataW H), ds.length = f.params.size → s.fn H ds = { results := [.lit (.bool true)], args := ds })
    {W W' : World} {args : Array Value} {ds gs : List (DataW H)} {before : List MemPlace} (hW : DataW.Whole enc P f.params.toList s.vars false W args.toList ds gs before) (bel : Below W.heap.size W W') :
    s.post enc P f false true false false W args (.bool true) W' := by
  have hW' := hW
  rw [hv] at hW
  obtain ⟨p, q, hA, hV, rfl, hfz, hnd⟩ := hW
  obtain ⟨rfl, rfl⟩ := trodVars_none hV
  have hlen : ds.length = f.params.size := by simpa using (trodAll_length hA).2
  have e := hs ds hlen
  refine ⟨ds, [], _, [], p, [], hW', ?_, ?_, ?_, bel.frame _, fun h => by cases h⟩
  · rw [List.append_nil, e, hr]
    exact trodAll_mk1 (shut_bool hb true)
  · rw [List.append_nil, e]
    exact trodAll_below hl bel (fun t ht => by simpa using List.all_eq_true.1 hts t ht) hA hA.lt
  · rw [List.append_nil, e, hv]
    rfl
end

/-! ### Arguments, opened -/
section
variable {H : Type} {enc : TypeId × Value → H} {P : Program} {W : World} {t : TypeId} {v : Value} {d : DataW H} {p : List MemPlace} {b0 : Nat}
theorem open_u64 (ht : P.underlying t = some (.int .u64)) (hv : Value.okWide P W .any b0 t v) (h : DataW.Trod enc P W 0 (fun _ => true) true t v d p) :
    ∃ n : Nat, v = .int .u64 n ∧ n < 18446744073709551616 := by
  obtain ⟨x, rfl, _, _, wx⟩ := open_int ht hv h
  have b := bounds_u64 wx
  obtain ⟨n, rfl⟩ := Int.eq_ofNat_of_zero_le b.1
  exact ⟨n, rfl, by omega⟩
theorem trod_u64 {base : Nat} {sp : Nat → Bool} {held : Bool} {fuel : Nat} {x : DataW H × List MemPlace} (ht : P.underlying t = some (.int .u64)) (h : DataW.trod enc P W base sp held fuel t [v] = some x) : ∃ n : Nat, v = .int .u64 n ∧ n < 18446744073709551616 := by
  obtain ⟨a, e0, _, wa⟩ := DataW.trod_int ht h
  obtain rfl : v = .int .u64 a := by simpa using e0
  have b := bounds_u64 wa
  obtain ⟨n, rfl⟩ := Int.eq_ofNat_of_zero_le b.1
  exact ⟨n, rfl, by omega⟩
theorem open_u32 (ht : P.underlying t = some (.int .u32)) (hv : Value.okWide P W .any b0 t v) (h : DataW.Trod enc P W 0 (fun _ => true) true t v d p) :
    ∃ n : Nat, v = .int .u32 n ∧ n < 4294967296 := by
  obtain ⟨x, rfl, _, _, wx⟩ := open_int ht hv h
  have b := bounds_u32 wx
  obtain ⟨n, rfl⟩ := Int.eq_ofNat_of_zero_le b.1
  exact ⟨n, rfl, by omega⟩
theorem trod_u32 {base : Nat} {sp : Nat → Bool} {held : Bool} {fuel : Nat} {x : DataW H × List MemPlace} (ht : P.underlying t = some (.int .u32)) (h : DataW.trod enc P W base sp held fuel t [v] = some x) : ∃ n : Nat, v = .int .u32 n ∧ n < 4294967296 := by
  obtain ⟨a, e0, _, wa⟩ := DataW.trod_int ht h
  obtain rfl : v = .int .u32 a := by simpa using e0
  have b := bounds_u32 wa
  obtain ⟨n, rfl⟩ := Int.eq_ofNat_of_zero_le b.1
  exact ⟨n, rfl, by omega⟩
theorem open_u16 (ht : P.underlying t = some (.int .u16)) (hv : Value.okWide P W .any b0 t v) (h : DataW.Trod enc P W 0 (fun _ => true) true t v d p) :
    ∃ n : Nat, v = .int .u16 n ∧ n < 65536 := by
  obtain ⟨x, rfl, _, _, wx⟩ := open_int ht hv h
  have b := bounds_u16 wx
  obtain ⟨n, rfl⟩ := Int.eq_ofNat_of_zero_le b.1
  exact ⟨n, rfl, by omega⟩
theorem trod_u16 {base : Nat} {sp : Nat → Bool} {held : Bool} {fuel : Nat} {x : DataW H × List MemPlace} (ht : P.underlying t = some (.int .u16)) (h : DataW.trod enc P W base sp held fuel t [v] = some x) : ∃ n : Nat, v = .int .u16 n ∧ n < 65536 := by
  obtain ⟨a, e0, _, wa⟩ := DataW.trod_int ht h
  obtain rfl : v = .int .u16 a := by simpa using e0
  have b := bounds_u16 wa
  obtain ⟨n, rfl⟩ := Int.eq_ofNat_of_zero_le b.1
  exact ⟨n, rfl, by omega⟩
theorem open_u8 (ht : P.underlying t = some (.int .u8)) (hv : Value.okWide P W .any b0 t v) (h : DataW.Trod enc P W 0 (fun _ => true) true t v d p) :
    ∃ n : Nat, v = .int .u8 n ∧ n < 256 := by
  obtain ⟨x, rfl, _, _, wx⟩ := open_int ht hv h
  have b := bounds_u8 wx
  obtain ⟨n, rfl⟩ := Int.eq_ofNat_of_zero_le b.1
  exact ⟨n, rfl, by omega⟩
theorem trod_u8 {base : Nat} {sp : Nat → Bool} {held : Bool} {fuel : Nat} {x : DataW H × List MemPlace} (ht : P.underlying t = some (.int .u8)) (h : DataW.trod enc P W base sp held fuel t [v] = some x) : ∃ n : Nat, v = .int .u8 n ∧ n < 256 := by
  obtain ⟨a, e0, _, wa⟩ := DataW.trod_int ht h
  obtain rfl : v = .int .u8 a := by simpa using e0
  have b := bounds_u8 wa
  obtain ⟨n, rfl⟩ := Int.eq_ofNat_of_zero_le b.1
  exact ⟨n, rfl, by omega⟩
theorem open_i64 (ht : P.underlying t = some (.int .i64)) (hv : Value.okWide P W .any b0 t v) (h : DataW.Trod enc P W 0 (fun _ => true) true t v d p) :
    ∃ n : Int, v = .int .i64 n ∧ -9223372036854775808 ≤ n ∧ n ≤ 9223372036854775807 := by
  obtain ⟨x, rfl, _, _, wx⟩ := open_int ht hv h
  exact ⟨x, rfl, bounds_i64 wx⟩
theorem open_i32 (ht : P.underlying t = some (.int .i32)) (hv : Value.okWide P W .any b0 t v) (h : DataW.Trod enc P W 0 (fun _ => true) true t v d p) :
    ∃ n : Int, v = .int .i32 n ∧ -2147483648 ≤ n ∧ n ≤ 2147483647 := by
  obtain ⟨x, rfl, _, _, wx⟩ := open_int ht hv h
  exact ⟨x, rfl, bounds_i32 wx⟩

theorem okWide_array {n : Nat} {e : TypeId} (ht : P.underlying t = some (.array n e)) (h : Value.okWide P W .any b0 t v) : ∃ cs, v = .agg cs ∧ cs.size = P.cellsOf t := by
  simp only [Value.okWide, ht] at h
  obtain ⟨cs, h1, h2, _⟩ := h
  exact ⟨cs, h1, h2⟩

/-- an array of words: its cells -/
theorem open_words {n : Nat} {e : TypeId} (ht : P.underlying t = some (.array n e)) (he : P.underlying e = some (.int .u64)) (hc : P.cellsOf t = n) (hc1 : P.cellsOf e = 1)
    (hv : Value.okWide P W .any b0 t v) (h : DataW.Trod enc P W 0 (fun _ => true) true t v d p) :
    ∃ cs : Array Value, v = .agg cs ∧ cs.size = n ∧ ∀ i, i < n → ∃ x : Nat, cs[i]? = some (.int .u64 x) ∧ x < 18446744073709551616 := by
  obtain ⟨cs, rfl, hsz⟩ := okWide_array ht hv
  obtain ⟨fuel, hf⟩ := h
  obtain ⟨xs, m, _, _, hlen, hxl, hi⟩ := DataW.trod_array ht hf
  refine ⟨cs, rfl, hsz.trans hc, fun i hin => ?_⟩
  have h1 := hi i hin
  rw [hc1, Nat.mul_one] at h1
  have hsz2 : i < cs.toList.length := by simp; omega
  have e1 : (cs.toList.drop i).take 1 = [cs.toList[i]] := by
    rw [List.drop_eq_getElem_cons hsz2]; rfl
  have e2 : xs[i]? = some (xs[i]'(by omega)) := List.getElem?_eq_getElem (by omega)
  rw [show (Value.agg cs).cells = cs from rfl, e1, e2] at h1
  obtain ⟨x, hx, hb⟩ := trod_u64 he h1
  refine ⟨x, ?_, hb⟩
  rw [← hx]
  simp [Array.getElem?_eq_getElem (show i < cs.size by simpa using hsz2)]
end

theorem words4 {cs : Array Value} {a b c d : Nat} (h : cs.size = 4) (e0 : cs[0]? = some (.int .u64 a)) (e1 : cs[1]? = some (.int .u64 b)) (e2 : cs[2]? = some (.int .u64 c)) (e3 : cs[3]? = some (.int .u64 d)) :
    cs = #[.int .u64 a, .int .u64 b, .int .u64 c, .int .u64 d] := by
  obtain ⟨x, y, z, u, rfl⟩ := Joins.array4 h
  simp at e0 e1 e2 e3
  rw [e0, e1, e2, e3]
theorem words3 {cs : Array Value} {a b c : Nat} (h : cs.size = 3) (e0 : cs[0]? = some (.int .u64 a)) (e1 : cs[1]? = some (.int .u64 b)) (e2 : cs[2]? = some (.int .u64 c)) :
    cs = #[.int .u64 a, .int .u64 b, .int .u64 c] := by
  obtain ⟨l⟩ := cs
  match l, h with
  | [x, y, z], _ =>
    simp at e0 e1 e2
    rw [e0, e1, e2]

end Go.Proofs.Ytefekboacghnjaa

namespace Go.Proofs.Ytefekboacghnjaa
open Go.ChangeShapes Go.WideShapes Go.ChangeAt Go.RowKit Go.Deep

open Classical in
theorem pick_fn {α : Type} (z : α) {Q : Nat → α → Prop} {n : Nat} (h : ∀ j, j < n → ∃ a, Q j a) : ∃ f : Nat → α, (∀ j, j < n → Q j (f j)) ∧ ∀ j, ¬ j < n → f j = z := by
  refine ⟨fun j => if hj : j < n then Classical.choose (h j hj) else z, fun j hj => ?_, fun j hj => ?_⟩
  · show Q j (if hj : j < n then Classical.choose (h j hj) else z)
    rw [dif_pos hj]; exact Classical.choose_spec (h j hj)
  · show (if hj : j < n then Classical.choose (h j hj) else z) = z
    rw [dif_neg hj]

section
variable {H : Type} {enc : TypeId × Value → H} {P : Program} {w : World} {base : Nat} {spare : Nat → Bool} {held : Bool}
theorem open_slice_fields {t e : TypeId} {fs : Array Field} {fuel : Nat} {cs : List Value} {x : DataW H × List MemPlace} (ht : P.underlying t = some (.slice e)) (he : P.underlying e = some (.struct fs))
    (hone : oneCellFields P fs = true) (hC : P.cellsOf e = fs.size) (h : DataW.trod enc P w base spare held fuel t cs = some x) :
    (cs = [.slice none 0 0] ∧ x = (.nil, [])) ∨
    ∃ (a : Addr) (len cap m : Nat) (D : Nat → DataW H) (Pl : Nat → List MemPlace), cs = [.slice (some a) len cap] ∧ base ≤ a.block ∧ len ≤ cap ∧ cap ≤ maxLen ∧ m = (if spare a.block then cap else len) ∧
      x = (.slice ((List.range len).map D) ((List.range (m - len)).map fun j => D (len + j)), MemPlace.row a (m * fs.size) ++ (List.range m).flatMap Pl) ∧
      ∀ i, i < m → ∃ (ys : List (DataW H × List MemPlace)) (n : Nat), D i = .agg (ys.map (·.1)) ∧ Pl i = ys.flatMap (·.2) ∧ ys.length = fs.size ∧
        ∀ (j : Nat) (f : Field), fs[j]? = some f → ∃ (v : Value) (y : DataW H × List MemPlace), w.cell? (a.add (i * fs.size + j)) = some v ∧ ys[j]? = some y ∧ DataW.trod enc P w base spare held n f.type [v] = some y := by
  rcases open_slice ht h with h0 | ⟨a, len, cap, m, n, D, Pl, hcs, hb, hl, hm, hmm, hx, hi⟩
  · exact .inl h0
  · refine .inr ⟨a, len, cap, m, D, Pl, hcs, hb, hl, hm, hmm, by rw [hC] at hx; exact hx, fun i him => ?_⟩
    obtain ⟨cs', hc, ht'⟩ := hi i him
    rw [hC] at hc
    obtain ⟨ys, n', hn', hy, hlen, hyl, hf⟩ := DataW.trod_struct he ht'
    obtain ⟨_, hcl, hat⟩ := World.cells?_some hc
    simp only [Prod.mk.injEq] at hy
    refine ⟨ys, n', hy.1, hy.2, hyl, fun j f hj => ?_⟩
    obtain ⟨ho, hk⟩ := hone_of hone j f hj
    have hjl : j < fs.size := (Array.getElem?_eq_some_iff.1 hj).1
    have hcell := hat j hjl
    have hv : cs'[j]? = some (cs'[j]'(by omega)) := List.getElem?_eq_getElem (by omega)
    have h1 := hf j f hj
    rw [ho, hk] at h1
    have hone' : (cs'.drop j).take 1 = [cs'[j]'(by omega)] := by
      rw [List.drop_eq_getElem_cons (by omega)]
      rfl
    rw [hone'] at h1
    have hys : ys[j]? = some (ys[j]'(by omega)) := List.getElem?_eq_getElem (by omega)
    refine ⟨_, _, ?_, hys, h1.trans hys⟩
    rw [← Go.Deep.add_add, hcell, hv]
end

section
variable {H : Type} {enc : TypeId × Value → H} {P : Program} {W : World} {v : Value} {d : DataW H} {p : List MemPlace} {b0 : Nat}
/-- A slice of structs that came in: the address of each field of each element. -/
theorem open_structs {t e : TypeId} {fs : Array Field} (ht : P.underlying t = some (.slice e)) (he : P.underlying e = some (.struct fs)) (hone : oneCellFields P fs = true) (hC : P.cellsOf e = fs.size) (h0 : 0 < fs.size)
    (hv : Value.okWide P W .any b0 t v) (h : DataW.Trod enc P W 0 (fun _ => true) true t v d p) :
    ∃ (A : Option Addr) (len c : Nat), v = .slice A len c ∧ len ≤ 9223372036854775807 ∧ (len = 0 ∨ ∃ b off : Nat, A = some ⟨b, off, none⟩ ∧ b < W.heap.size ∧
      ∀ i, i < len → ∀ j f, fs[j]? = some f → ∃ (u : Value) (n : Nat) (y : DataW H × List MemPlace), W.cell? ⟨b, off + (i * fs.size + j), none⟩ = some u ∧ DataW.trod enc P W 0 (fun _ => true) true n f.type [u] = some y) := by
  obtain ⟨a0, len, cap, rfl⟩ := okWide_slice ht hv
  obtain ⟨fuel, hf⟩ := h
  rcases open_slice_fields ht he hone hC hf with ⟨hcs, _⟩ | ⟨x, l, c, m, D, Pl, hcs, _, hl, hm, hmm, _, hi⟩
  · simp [Value.cells] at hcs
    obtain ⟨rfl, rfl, rfl⟩ := hcs
    exact ⟨none, 0, 0, rfl, by simp, .inl rfl⟩
  · simp [Value.cells] at hcs
    obtain ⟨rfl, rfl, rfl⟩ := hcs
    have hmm2 : m = cap := by simpa using hmm
    rw [hmm2] at hi
    unfold maxLen at hm
    refine ⟨some x, len, cap, rfl, by omega, ?_⟩
    rcases Nat.eq_zero_or_pos len with hz | hz
    · exact .inl hz
    · right
      obtain ⟨b, off, spot⟩ := x
      have hf0 : fs[0]? = some (fs[0]'h0) := Array.getElem?_eq_getElem h0
      obtain ⟨ys0, n0, _, _, _, hat0⟩ := hi 0 (by omega)
      obtain ⟨v0, y0, hc0, _, _⟩ := hat0 0 _ hf0
      have hspot : spot = none := by simpa [Addr.add] using World.cell?_spot hc0
      subst hspot
      refine ⟨b, off, rfl, ?_, fun i hi' j f hj => ?_⟩
      · have := World.block_lt_of_cell? W _ hc0
        simpa [Addr.add] using this
      · obtain ⟨ys, n, _, _, _, hat⟩ := hi i (by omega)
        obtain ⟨u, y, hc, _, ht'⟩ := hat j f hj
        refine ⟨u, n, y, ?_, ht'⟩
        have e : (⟨b, off, none⟩ : Addr).add (i * fs.size + j) = ⟨b, off + (i * fs.size + j), none⟩ := by
          rcases Nat.eq_zero_or_pos (i * fs.size + j) with h | h
          · rw [h]; simp [Addr.add]
          · simp [Addr.add]; omega
        rw [e] at hc
        exact hc
end

end Go.Proofs.Ytefekboacghnjaa

namespace Go.Proofs.Ytefekboacghnjaa
open Go.ChangeShapes Go.WideShapes Go.ChangeAt Go.RowKit Go.Deep

/-- What a slice of numbers that are not below 0 reads as: nothing, or cells of a block below B. -/
def NumsAt (k : IntKind) (w : World) (B : Nat) (A : Option Addr) (xs : List Nat) : Prop :=
  xs = [] ∨ ∃ b off : Nat, A = some ⟨b, off, none⟩ ∧ b < B ∧ ∀ j, j < xs.length → w.cell? ⟨b, off + j, none⟩ = some (.int k ((xs.getD j 0 : Nat) : Int))
theorem NumsAt.at_ {k : IntKind} {w : World} {B : Nat} {A : Option Addr} {xs : List Nat} (h : NumsAt k w B A xs) (hp : 0 < xs.length) : ∃ b off : Nat, A = some ⟨b, off, none⟩ ∧ b < B ∧ ∀ j, j < xs.length → w.cell? ⟨b, off + j, none⟩ = some (.int k ((xs.getD j 0 : Nat) : Int)) := by
  rcases h with h | h
  · rw [h] at hp; simp at hp
  · exact h

section
variable {H : Type} {enc : TypeId × Value → H} {P : Program} {W : World} {v : Value} {d : DataW H} {p : List MemPlace} {b0 : Nat}
theorem trod_ints {k : IntKind} {t e : TypeId} {fuel : Nat} {y : DataW H × List MemPlace} (ht : P.underlying t = some (.slice e)) (he : P.underlying e = some (.int k)) (hc : P.cellsOf e = 1)
    (hf : DataW.trod enc P W 0 (fun _ => true) true fuel t [v] = some y) :
    ∃ (A : Option Addr) (zs : List Int) (c : Nat), v = .slice A zs.length c ∧ zs.length ≤ 9223372036854775807 ∧ (zs = [] ∨ ∃ b off : Nat, A = some ⟨b, off, none⟩ ∧ b < W.heap.size ∧ ∀ j, j < zs.length → W.cell? ⟨b, off + j, none⟩ = some (.int k (zs.getD j 0))) ∧
      (∀ n ∈ zs, (Lit.int k n).wf = true) ∧ zs.length ≤ c := by
  rcases open_ints ht he hc hf with ⟨hcs, _⟩ | ⟨x, l, c, zs, hcs, _, hl, hm, hz, _, hcell, hwz⟩
  · simp at hcs
    subst hcs
    exact ⟨none, [], 0, rfl, by simp, .inl rfl, by simp, by simp⟩
  · simp at hcs
    subst hcs
    have hz' : zs.length = c := by simpa using hz
    unfold maxLen at hm
    have hlen : (zs.take l).length = l := by simp; omega
    refine ⟨some x, zs.take l, c, by rw [hlen], by rw [hlen]; omega, ?_, fun n hn => hwz n (List.mem_of_mem_take hn), by rw [hlen]; exact hl⟩
    rcases Nat.eq_zero_or_pos l with h0 | h0
    · left; rw [h0]; rfl
    · right
      obtain ⟨b, off, spot⟩ := x
      have hc0 := hcell 0 (by omega)
      have hspot : spot = none := by simpa [Addr.add] using World.cell?_spot hc0
      subst hspot
      refine ⟨b, off, rfl, ?_, fun j hj => ?_⟩
      · have := World.block_lt_of_cell? W _ hc0
        simpa [Addr.add] using this
      · have hj2 : j < l := by rw [hlen] at hj; exact hj
        have h1 := hcell j (by omega)
        have e : (⟨b, off, none⟩ : Addr).add j = ⟨b, off + j, none⟩ := by
          rcases Nat.eq_zero_or_pos j with rfl | hj0
          · simp [Addr.add]
          · simp [Addr.add]; omega
        rw [e] at h1
        rw [h1]
        simp [List.getD, hj2]

theorem trod_nums {k : IntKind} {t e : TypeId} {fuel : Nat} {y : DataW H × List MemPlace} (M : Nat) (ht : P.underlying t = some (.slice e)) (he : P.underlying e = some (.int k)) (hc : P.cellsOf e = 1) (hM : ∀ z, (Lit.int k z).wf = true → 0 ≤ z ∧ z < M)
    (hf : DataW.trod enc P W 0 (fun _ => true) true fuel t [v] = some y) :
    ∃ (A : Option Addr) (xs : List Nat) (c : Nat), v = .slice A xs.length c ∧ NumsAt k W W.heap.size A xs ∧ (∀ j, j < xs.length → xs.getD j 0 < M) ∧ xs.length ≤ 9223372036854775807 := by
  obtain ⟨A, zs, c, rfl, hl, hc, hw, _⟩ := trod_ints ht he hc hf
  have hnn : ∀ j, j < zs.length → 0 ≤ zs.getD j 0 ∧ zs.getD j 0 < M := fun j hj => by
    have : zs.getD j 0 ∈ zs := by simp [List.getD, List.getElem?_eq_getElem hj]
    exact hM _ (hw _ this)
  have hg : ∀ j, j < zs.length → (zs.map Int.toNat).getD j 0 = (zs.getD j 0).toNat := fun j hj => by
    simp [List.getD, List.getElem?_eq_getElem hj]
  refine ⟨A, zs.map Int.toNat, c, by simp, ?_, ?_, by simpa using hl⟩
  · rcases hc with h0 | ⟨b, off, rfl, hb, hcell⟩
    · left; rw [h0]; rfl
    · right
      refine ⟨b, off, rfl, hb, fun j hj => ?_⟩
      have hj2 : j < zs.length := by simpa using hj
      rw [hcell j hj2, hg j hj2, Int.toNat_of_nonneg (hnn j hj2).1]
  · intro j hj
    have hj2 : j < zs.length := by simpa using hj
    rw [hg j hj2]
    have := hnn j hj2
    omega

theorem okWide_slice1 {t e : TypeId} (ht : P.underlying t = some (.slice e)) (hv : Value.okWide P W .any b0 t v) (h : DataW.Trod enc P W 0 (fun _ => true) true t v d p) : ∃ fuel y, DataW.trod enc P W 0 (fun _ => true) true fuel t [v] = some y := by
  obtain ⟨a0, len, cap, rfl⟩ := okWide_slice ht hv
  obtain ⟨fuel, hf⟩ := h
  exact ⟨fuel, _, hf⟩

theorem open_u16s {t e : TypeId} (ht : P.underlying t = some (.slice e)) (he : P.underlying e = some (.int .u16)) (hc : P.cellsOf e = 1) (hv : Value.okWide P W .any b0 t v) (h : DataW.Trod enc P W 0 (fun _ => true) true t v d p) :
    ∃ (A : Option Addr) (xs : List Nat) (c : Nat), v = .slice A xs.length c ∧ NumsAt .u16 W W.heap.size A xs ∧ (∀ j, j < xs.length → xs.getD j 0 < 65536) ∧ xs.length ≤ 9223372036854775807 := by
  obtain ⟨fuel, y, hf⟩ := okWide_slice1 ht hv h
  exact trod_nums 65536 ht he hc (fun z hz => by have := bounds_u16 hz; omega) hf
theorem open_u32s {t e : TypeId} (ht : P.underlying t = some (.slice e)) (he : P.underlying e = some (.int .u32)) (hc : P.cellsOf e = 1) (hv : Value.okWide P W .any b0 t v) (h : DataW.Trod enc P W 0 (fun _ => true) true t v d p) :
    ∃ (A : Option Addr) (xs : List Nat) (c : Nat), v = .slice A xs.length c ∧ NumsAt .u32 W W.heap.size A xs ∧ (∀ j, j < xs.length → xs.getD j 0 < 4294967296) ∧ xs.length ≤ 9223372036854775807 := by
  obtain ⟨fuel, y, hf⟩ := okWide_slice1 ht hv h
  exact trod_nums 4294967296 ht he hc (fun z hz => by have := bounds_u32 hz; omega) hf
theorem trod_i64 {base : Nat} {sp : Nat → Bool} {held : Bool} {fuel : Nat} {t : TypeId} {x : DataW H × List MemPlace} (ht : P.underlying t = some (.int .i64)) (h : DataW.trod enc P W base sp held fuel t [v] = some x) : ∃ n : Int, v = .int .i64 n ∧ -9223372036854775808 ≤ n ∧ n ≤ 9223372036854775807 := by
  obtain ⟨a, e0, _, wa⟩ := DataW.trod_int ht h
  obtain rfl : v = .int .i64 a := by simpa using e0
  exact ⟨a, rfl, bounds_i64 wa⟩
theorem trod_b {base : Nat} {sp : Nat → Bool} {held : Bool} {fuel : Nat} {t : TypeId} {x : DataW H × List MemPlace} (ht : P.underlying t = some .bool) (h : DataW.trod enc P W base sp held fuel t [v] = some x) : ∃ b : Bool, v = .bool b := by
  obtain ⟨a, e0, _⟩ := DataW.trod_bool ht h
  exact ⟨a, by simpa using e0⟩
end

section
variable {H : Type} {enc : TypeId × Value → H} {W : World} {v : Value} {d : DataW H} {p : List MemPlace} {b0 : Nat}
set_option maxRecDepth 100000 in
theorem open_ent (hv : Value.okWide Try.prog W .any b0 32 v) (h : DataW.Trod enc Try.prog W 0 (fun _ => true) true 32 v d p) :
    ∃ (i : Int) (x : Nat) (u : Int) (r : Nat), v = .agg #[.int .i64 i, .int .u64 x, .int .i64 u, .int .u64 r] ∧ -9223372036854775808 ≤ i ∧ i ≤ 9223372036854775807 ∧ x < 18446744073709551616 ∧ -9223372036854775808 ≤ u ∧ u ≤ 9223372036854775807 ∧ r < 18446744073709551616 := by
  obtain ⟨v0, v1, v2, v3, y0, y1, y2, y3, n, rfl, _, _, h0, h1, h2, h3⟩ := Joins.open_agg4 Try.underlying32 (by kernel_rfl) (by kernel_rfl) hv h
  obtain ⟨i, rfl, bi⟩ := trod_i64 Try.underlying3 h0
  obtain ⟨x, rfl, bx⟩ := trod_u64 Try.underlying30 h1
  obtain ⟨u, rfl, bu⟩ := trod_i64 Try.underlying2 h2
  obtain ⟨r, rfl, br⟩ := trod_u64 Try.underlying30 h3
  exact ⟨i, x, u, r, rfl, bi.1, bi.2, bx, bu.1, bu.2, br⟩
end

end Go.Proofs.Ytefekboacghnjaa

namespace Go.Proofs.Ytefekboacghnjaa
open Go.ChangeShapes Go.WideShapes Go.ChangeAt Go.RowKit Go.Deep Go.Maps

/-- the numbers of an entity are numbers -/
structure En.num (e : En) : Prop where
  i1 : -9223372036854775808 ≤ e.id
  i2 : e.id ≤ 9223372036854775807
  v1 : -9223372036854775808 ≤ e.v
  v2 : e.v ≤ 9223372036854775807
  w2 : e.wt < 18446744073709551616
  r2 : e.rem < 18446744073709551616
section
variable {H : Type} {enc : TypeId × Value → H} {W : World} {v : Value} {d : DataW H} {p : List MemPlace} {b0 : Nat}
theorem cells_int : Try.prog.cellsOf 3 = 1 := by kernel_rfl
theorem cells_i64 : Try.prog.cellsOf 2 = 1 := by kernel_rfl
theorem cells_u64 : Try.prog.cellsOf 30 = 1 := by kernel_rfl
theorem cells_ent : Try.prog.cellsOf 32 = 4 := by kernel_rfl
set_option maxRecDepth 100000 in
theorem open_entv (hv : Value.okWide Try.prog W .any b0 32 v) (h : DataW.Trod enc Try.prog W 0 (fun _ => true) true 32 v d p) : ∃ e : En, v = enV e ∧ e.num := by
  obtain ⟨cs, rfl, hsz⟩ := okWide_struct Try.underlying32 hv
  obtain ⟨fuel, hf⟩ := h
  obtain ⟨xs, m, _, _, hlen, hxl, hi⟩ := DataW.trod_struct Try.underlying32 hf
  obtain ⟨x0, x1, x2, x3, rfl⟩ := Joins.array4 (hsz.trans cells_ent)
  have h4 : xs.length = 4 := hxl
  have h0 : DataW.trod enc Try.prog W 0 (fun _ => true) true m 3 (List.take (Try.prog.cellsOf 3) [x0, x1, x2, x3]) = xs[0]? := hi 0 _ rfl
  have h1 : DataW.trod enc Try.prog W 0 (fun _ => true) true m 30 (List.take (Try.prog.cellsOf 30) [x1, x2, x3]) = xs[1]? := hi 1 _ rfl
  have h2 : DataW.trod enc Try.prog W 0 (fun _ => true) true m 2 (List.take (Try.prog.cellsOf 2) [x2, x3]) = xs[2]? := hi 2 _ rfl
  have h3 : DataW.trod enc Try.prog W 0 (fun _ => true) true m 30 (List.take (Try.prog.cellsOf 30) [x3]) = xs[3]? := hi 3 _ rfl
  rw [cells_int, List.getElem?_eq_getElem (by omega)] at h0
  rw [cells_u64, List.getElem?_eq_getElem (by omega)] at h1 h3
  rw [cells_i64, List.getElem?_eq_getElem (by omega)] at h2
  obtain ⟨k, rfl, bk⟩ := trod_i64 Try.underlying3 h0
  obtain ⟨wt, rfl, bw⟩ := trod_u64 Try.underlying30 h1
  obtain ⟨vv, rfl, bv⟩ := trod_i64 Try.underlying2 h2
  obtain ⟨rm, rfl, br⟩ := trod_u64 Try.underlying30 h3
  exact ⟨⟨k, wt, vv, rm⟩, rfl, bk.1, bk.2, bv.1, bv.2, bw, br⟩
end

end Go.Proofs.Ytefekboacghnjaa

namespace Go.Proofs.Ytefekboacghnjaa
open Go.ChangeShapes Go.WideShapes Go.ChangeAt Go.RowKit Go.Deep Go.Maps

def En.nil : En := ⟨0, 0, 0, 0⟩
def EntAt (w : World) (b o : Nat) (e : En) : Prop :=
  w.cell? ⟨b, o, none⟩ = some (.int .i64 e.id) ∧ w.cell? ⟨b, o + 1, none⟩ = some (.int .u64 e.wt) ∧ w.cell? ⟨b, o + 2, none⟩ = some (.int .i64 e.v) ∧ w.cell? ⟨b, o + 3, none⟩ = some (.int .u64 e.rem)
def RowE (w : World) (B : Nat) (A : Option Addr) (es : List En) : Prop :=
  es = [] ∨ ∃ b off : Nat, A = some ⟨b, off, none⟩ ∧ b < B ∧ ∀ j, j < es.length → EntAt w b (off + j * 4) (es.getD j En.nil)
theorem EntAt.below {w w' : World} {B b o : Nat} {e : En} (h : EntAt w b o e) (k : Below B w w') (hb : b < B) : EntAt w' b o e :=
  ⟨(k.cell (p := ⟨b, o, none⟩) hb).trans h.1, (k.cell (p := ⟨b, o + 1, none⟩) hb).trans h.2.1, (k.cell (p := ⟨b, o + 2, none⟩) hb).trans h.2.2.1, (k.cell (p := ⟨b, o + 3, none⟩) hb).trans h.2.2.2⟩
theorem EntAt.of {w w' : World} {b o : Nat} {e : En} (h : EntAt w b o e) (k : w'.heap[b]? = w.heap[b]?) : EntAt w' b o e := by
  have key : ∀ i, w'.cell? ⟨b, i, none⟩ = w.cell? ⟨b, i, none⟩ := fun i => by unfold World.cell?; rw [k]
  exact ⟨(key _).trans h.1, (key _).trans h.2.1, (key _).trans h.2.2.1, (key _).trans h.2.2.2⟩
theorem RowE.below {w w' : World} {B : Nat} {A : Option Addr} {es : List En} (h : RowE w B A es) (k : Below B w w') : RowE w' B A es := by
  rcases h with h | ⟨b, off, e, hb, hc⟩
  · exact .inl h
  · exact .inr ⟨b, off, e, hb, fun j hj => (hc j hj).below k hb⟩
theorem RowE.mono {w : World} {B C : Nat} {A : Option Addr} {es : List En} (h : RowE w B A es) (k : B ≤ C) : RowE w C A es := by
  rcases h with h | ⟨b, off, e, hb, hc⟩
  · exact .inl h
  · exact .inr ⟨b, off, e, Nat.lt_of_lt_of_le hb k, hc⟩
theorem RowE.at_ {w : World} {B : Nat} {A : Option Addr} {es : List En} (h : RowE w B A es) (hp : 0 < es.length) : ∃ b off : Nat, A = some ⟨b, off, none⟩ ∧ b < B ∧ ∀ j, j < es.length → EntAt w b (off + j * 4) (es.getD j En.nil) := by
  rcases h with rfl | h
  · simp at hp
  · exact h
theorem getD_at (es : List En) {j : Nat} (hj : j < es.length) : es.getD j En.nil = es[j] := by
  rw [List.getD_eq_getElem?_getD, List.getElem?_eq_getElem hj]; rfl
theorem own_ents {w : World} {base : Nat} {v : Value} {es : List En} {e : TypeId} (h : w.ownsRow base e 4 v es.length (es.flatMap ecl)) : ∃ A c, v = .slice A es.length c ∧ RowE w w.heap.size A es ∧ es.length ≤ 9223372036854775807 := by
  rcases row_cells h with ⟨rfl, hz⟩ | ⟨g, c, rfl, _, hg, hl, hc⟩
  · exact ⟨none, 0, by rw [hz], .inl (List.eq_nil_of_length_eq_zero hz), by omega⟩
  · refine ⟨_, c, rfl, .inr ⟨g, 0, rfl, hg, fun j hj => ?_⟩, hl⟩
    have key : ∀ i, i < 4 → w.cell? ⟨g, 0 + j * 4 + i, none⟩ = (ecl (es.getD j En.nil))[i]? := fun i hi => by
      rw [Nat.zero_add, hc (j * 4 + i) (by omega), flat_at ecl 4 (fun _ => rfl) es j i hi, List.getElem?_eq_getElem hj, getD_at es hj]
      rfl
    exact ⟨key 0 (by omega), key 1 (by omega), key 2 (by omega), key 3 (by omega)⟩
section
variable {H : Type} {enc : TypeId × Value → H} {W : World} {v : Value} {d : DataW H} {p : List MemPlace} {b0 : Nat}
set_option maxRecDepth 100000 in
theorem open_ents (hv : Value.okWide Try.prog W .any b0 26 v) (h : DataW.Trod enc Try.prog W 0 (fun _ => true) true 26 v d p) :
    ∃ (A : Option Addr) (es : List En) (c : Nat), v = .slice A es.length c ∧ RowE W W.heap.size A es ∧ (∀ e ∈ es, e.num) ∧ es.length ≤ 9223372036854775807 := by
  obtain ⟨A, n, c, rfl, hn, hi⟩ := open_structs Try.underlying26 Try.underlying32 (by kernel_rfl) (by kernel_rfl) (by decide) hv h
  rcases hi with h0 | ⟨b, off, rfl, hb, hi⟩
  · exact ⟨A, [], c, by rw [h0]; rfl, .inl rfl, by simp, by simp⟩
  · have key : ∀ j, j < n → ∃ e : En, e.num ∧ EntAt W b (off + j * 4) e := fun j hj => by
      obtain ⟨v0, n0, y0, c0, t0⟩ := hi j hj 0 _ rfl
      obtain ⟨v1, n1, y1, c1, t1⟩ := hi j hj 1 _ rfl
      obtain ⟨v2, n2, y2, c2, t2⟩ := hi j hj 2 _ rfl
      obtain ⟨v3, n3, y3, c3, t3⟩ := hi j hj 3 _ rfl
      obtain ⟨k, rfl, bk⟩ := trod_i64 Try.underlying3 t0
      obtain ⟨wt, rfl, bw⟩ := trod_u64 Try.underlying30 t1
      obtain ⟨vv, rfl, bv⟩ := trod_i64 Try.underlying2 t2
      obtain ⟨rm, rfl, br⟩ := trod_u64 Try.underlying30 t3
      refine ⟨⟨k, wt, vv, rm⟩, ⟨bk.1, bk.2, bv.1, bv.2, bw, br⟩, c0, ?_, ?_, ?_⟩
      · rw [Nat.add_assoc]; exact c1
      · rw [Nat.add_assoc]; exact c2
      · rw [Nat.add_assoc]; exact c3
    obtain ⟨f, hf1, _⟩ := pick_fn En.nil key
    have hlen : ((List.range n).map f).length = n := by simp
    refine ⟨_, (List.range n).map f, c, by rw [hlen], .inr ⟨b, off, rfl, hb, fun j hj => ?_⟩, fun d hd => ?_, by rw [hlen]; exact hn⟩
    · rw [hlen] at hj
      have e : ((List.range n).map f).getD j En.nil = f j := by rw [List.getD_eq_getElem?_getD]; simp [hj]
      rw [e]
      exact (hf1 j hj).2
    · obtain ⟨j, hj, rfl⟩ := List.mem_map.1 hd
      exact (hf1 j (List.mem_range.1 hj)).1
end

set_option maxRecDepth 100000 in
set_option maxHeartbeats 8000000 in
theorem rsame_any (A A' : Option Addr) (es : List En) (c c' : Nat) (w : World) (hA : RowE w w.heap.size A es) (hA' : RowE w w.heap.size A' es) (hl : es.length ≤ 9223372036854775807) :
    Calls Try.prog 76 #[.slice A es.length c, .slice A' es.length c'] w fun r w' => r = .returned (.bool true) ∧ Below w.heap.size w w' := by
  have HA := Lib.hid hA
  have HA' := Lib.hid hA'
  obtain ⟨n, hn⟩ : ∃ n, n = es.length := ⟨_, rfl⟩
  rw [← hn] at hl ⊢
  have HN := Lib.hid hn
  clear hA hA' hn
  go_enter Try.func76, Try.ntmps76
  go_wp2_with fail
  go_loopw [5] (fun s5 wr => ∃ k : Nat, k ≤ n ∧ s5 = .int .i64 k ∧ Hid (Below w.heap.size w wr)) (fun s5 _ => n - (intOf s5).toNat)
  case atStart => exact ⟨0, by omega, rfl, Below.refl _ _⟩
  case round =>
    obtain ⟨k, hk, rfl, HB⟩ := hrel
    by_cases hlt : k < n
    · have hk1 : k < es.length := by rw [← HN.out]; exact hlt
      obtain ⟨b, off, rfl, hb, hc⟩ := HA.out.at_ (by omega)
      obtain ⟨b', off', rfl, hb', hc'⟩ := HA'.out.at_ (by omega)
      obtain ⟨x0, x1, x2, x3⟩ := (hc k hk1).below HB.out hb
      obtain ⟨y0, y1, y2, y3⟩ := (hc' k hk1).below HB.out hb'
      clear hc hc' hk1
      generalize es.getD k En.nil = e at *
      obtain ⟨ei, ew, ev, er⟩ := e
      dsimp only at x0 x1 x2 x3 y0 y1 y2 y3
      have z1 : decide ((k : Int) < (n : Int)) = true := decide_eq_true (by omega)
      have z2 : decide (k < n) = true := decide_eq_true hlt
      have j0 : (0 : Int) ≤ (k : Int) := Int.natCast_nonneg _
      have j1 : (k : Int) < (n : Int) := by omega
      go_wp2_with fail
      go_big_quiet (fail)
      go_wp2_with fail
      go_roundw
      case rel => exact ⟨k + 1, by omega, by go_num, below_drewN HB.out _⟩
      case measure => simp [intOf]; omega
    · obtain rfl : k = n := by omega
      have z1 : decide ((k : Int) < (k : Int)) = false := decide_eq_false (by omega)
      go_wp2_with fail
      go_ret
      exact ⟨rfl, HB.out⟩

end Go.Proofs.Ytefekboacghnjaa

namespace Go.Proofs.Ytefekboacghnjaa
open Go.RowKit Go.Maps

section
variable {w w' : World} {p : Nat}
/-- four cells of a block are set -/
def set4 (w : World) (p a : Nat) (e : En) : World := (((w.setCell ⟨p, a, none⟩ (.int .i64 e.id)).setCell ⟨p, a + 1, none⟩ (.int .u64 e.wt)).setCell ⟨p, a + 2, none⟩ (.int .i64 e.v)).setCell ⟨p, a + 3, none⟩ (.int .u64 e.rem)
theorem set4_other (w : World) (p a : Nat) (e : En) {b : Nat} (hb : b ≠ p) : (set4 w p a e).heap[b]? = w.heap[b]? := by
  unfold set4
  have h1 := Below.heap_setCell w ⟨p, a, none⟩ (.int .i64 e.id) b hb
  have h2 := Below.heap_setCell (w.setCell ⟨p, a, none⟩ (.int .i64 e.id)) ⟨p, a + 1, none⟩ (.int .u64 e.wt) b hb
  have h3 := Below.heap_setCell ((w.setCell ⟨p, a, none⟩ (.int .i64 e.id)).setCell ⟨p, a + 1, none⟩ (.int .u64 e.wt)) ⟨p, a + 2, none⟩ (.int .i64 e.v) b hb
  have h4 := Below.heap_setCell (((w.setCell ⟨p, a, none⟩ (.int .i64 e.id)).setCell ⟨p, a + 1, none⟩ (.int .u64 e.wt)).setCell ⟨p, a + 2, none⟩ (.int .i64 e.v)) ⟨p, a + 3, none⟩ (.int .u64 e.rem) b hb
  exact h4.trans (h3.trans (h2.trans h1))
theorem set4_turns (w : World) (p a : Nat) (e : En) {S : List Nat} (hp : p ∈ S) : Turns S w (set4 w p a e) := by
  have t1 := (Turns.refl S w).setCell (p := ⟨p, a, none⟩) (.inl hp) (.int .i64 e.id)
  have t2 := t1.setCell (p := ⟨p, a + 1, none⟩) (.inl hp) (.int .u64 e.wt)
  have t3 := t2.setCell (p := ⟨p, a + 2, none⟩) (.inl hp) (.int .i64 e.v)
  exact t3.setCell (p := ⟨p, a + 3, none⟩) (.inl hp) (.int .u64 e.rem)
theorem set4_cells {cs : Array Value} {ty : TypeId} (h : Blk w p cs ty) (a : Nat) (e : En) (ha : a + 3 < cs.size) :
    ∃ ds, Blk (set4 w p a e) p ds ty ∧ ds.size = cs.size ∧ EntAt (set4 w p a e) p a e ∧ ∀ i, (i < a ∨ a + 3 < i) → (set4 w p a e).cell? ⟨p, i, none⟩ = w.cell? ⟨p, i, none⟩ := by
  have h4 : Blk (set4 w p a e) p _ ty := Blk.set (Blk.set (Blk.set (Blk.set h a (.int .i64 e.id)) (a + 1) (.int .u64 e.wt)) (a + 2) (.int .i64 e.v)) (a + 3) (.int .u64 e.rem)
  refine ⟨_, h4, by simp, ⟨?_, ?_, ?_, ?_⟩, fun i hi => ?_⟩
  · rw [Blk.cell h4]; simp [Array.getElem?_setIfInBounds]; omega
  · rw [Blk.cell h4]; simp [Array.getElem?_setIfInBounds]; omega
  · rw [Blk.cell h4]; simp [Array.getElem?_setIfInBounds]; omega
  · rw [Blk.cell h4]; simp [Array.getElem?_setIfInBounds]; omega
  · rw [Blk.cell h4, Blk.cell h]
    rw [Array.getElem?_setIfInBounds_ne (by omega), Array.getElem?_setIfInBounds_ne (by omega), Array.getElem?_setIfInBounds_ne (by omega), Array.getElem?_setIfInBounds_ne (by omega)]
end
/-- a region that ends in one frame, and in such a world: what stands behind is walked once -/
def AtEnd (a' : Act) (R : World → Prop) : Exit → Act → World → Prop
  | .normal, x, v => x = a' ∧ R v
  | _, _, _ => False
theorem wp_region_to {P : Program} {id : Nat} {ops : Array Oper} {b : Bool} {Q : Exit → Act → World → Prop} {a : Act} {w : World} (R : World → Prop) (a' : Act) (h : (Code.region id ops b).wp P (AtEnd a' R) a w) (k : ∀ v, R v → Q .normal a' v) : (Code.region id ops b).wp P Q a w :=
  Code.wp_mono (fun e x v h => by
    cases e with
    | normal =>
      obtain ⟨rfl, h3⟩ := h
      exact k v h3
    | _ => exact (h : False).elim) h


/-- a region that ends in a world, and with a frame, of which R holds -/
def AtEnd2 (R : Act → World → Prop) : Exit → Act → World → Prop
  | .normal, x, v => R x v
  | _, _, _ => False
theorem wp_region_to2 {P : Program} {id : Nat} {ops : Array Oper} {b : Bool} {Q : Exit → Act → World → Prop} {a : Act} {w : World} (R : Act → World → Prop) (h : (Code.region id ops b).wp P (AtEnd2 R) a w) (k : ∀ x v, R x v → Q .normal x v) : (Code.region id ops b).wp P Q a w :=
  Code.wp_mono (fun e x v h => by
    cases e with
    | normal => exact k x v h
    | _ => exact (h : False).elim) h

end Go.Proofs.Ytefekboacghnjaa
