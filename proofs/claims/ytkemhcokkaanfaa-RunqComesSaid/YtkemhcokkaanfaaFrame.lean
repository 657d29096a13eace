/-
  THE FRAME THAT ALL LAWS OF THIS SEAT SHARE: from a walk that returns true and leaves old memory as it was, to the row.
-/
import Derived.Test.YtkemhcokkaanfaaRows
import Derived.WalkKit
import Derived.ProofKit
import Derived.OpenShut
import Derived.ChangeOld
import Derived.Below
import Derived.ChangeCalls
import Derived.Lib.SmallJoins
namespace Go.Proofs.Ytkemhcokkaanfaa
open Go.ChangeShapes Go.WideShapes Go.ChangeAt Go.RowKit

theorem own : ownKnob Try.prog.godebug = none := by kernel_rfl
theorem laidOut : laidOutB Try.prog = true := by kernel_rfl

/-! ### What the dump's head says: its first words, without reckoning the whole string -/
theorem toList_of {s : String} {l : List Char} (h : s = String.ofList l) : s.toList = l := by rw [h]; exact String.toList_ofList

theorem wordsSigns_word (a b : List Char) (h : (a.all fun c => !(c == Char.ofNat 32)) = true) : wordsSigns (a ++ Char.ofNat 32 :: b) = a :: wordsSigns b := by
  induction a with
  | nil => rfl
  | cons x a ih =>
    simp only [List.all_cons, Bool.and_eq_true] at h
    have hx : x ≠ Char.ofNat 32 := by have := h.1; simpa using this
    rw [List.cons_append]
    conv => lhs; unfold wordsSigns
    split
    · rename_i e; cases e
    · rename_i e
      injection e with e1 e2
      exact absurd e1 hx
    · rename_i c r hn e
      injection e with e1 e2
      subst e1 e2
      rw [ih h.2]

theorem words_of (l : List Char) (n : Nat) (h1 : l.drop n = Char.ofNat 32 :: l.drop (n + 1)) (h2 : ((l.take n).all fun c => !(c == Char.ofNat 32)) = true) : wordsSigns l = l.take n :: wordsSigns (l.drop (n + 1)) := by
  have := wordsSigns_word (l.take n) (l.drop (n + 1)) h2
  rw [← h1, List.take_append_drop] at this
  exact this

theorem strip_cut (rest : List (List Char)) : stripLifts liftWords ("cut".toList :: rest) = ([], "cut".toList :: rest) := by kernel_rfl

theorem behind_of (l : List Char) (h1 : l.drop 7 = Char.ofNat 32 :: l.drop 8) (h2 : l.take 7 = "harness".toList) (h3 : (l.drop 8).drop 64 = Char.ofNat 32 :: (l.drop 8).drop 65) (h4 : isSumSigns ((l.drop 8).take 64) = true) (h4' : (((l.drop 8).take 64).all fun c => !(c == Char.ofNat 32)) = true)
    (h5 : ((l.drop 8).drop 65).drop 3 = Char.ofNat 32 :: ((l.drop 8).drop 65).drop 4) (h6 : ((l.drop 8).drop 65).take 3 = "cut".toList) :
    behindMainWord (wordsSigns l) = "cut".toList :: wordsSigns (((l.drop 8).drop 65).drop 4) := by
  rw [words_of l 7 h1 (by rw [h2]; kernel_rfl), words_of (l.drop 8) 64 h3 h4', words_of ((l.drop 8).drop 65) 3 h5 (by rw [h6]; kernel_rfl), h2, h6]
  unfold behindMainWord
  simp [h4]

theorem mayEnter_of {P : Program} {rest : List (List Char)} (h : behindMainWord (wordsSigns P.initOrder.toList) = "cut".toList :: rest) (h1 : P.laysLater = false) (h2 : P.bearsReflect = false) (h3 : P.doorFits [] = true) : P.mayEnter = true := by
  unfold Program.mayEnter
  rw [h]
  simp only []
  rw [strip_cut, h1, h2, h3]
  kernel_rfl

set_option maxRecDepth 100000 in
theorem order : behindMainWord (wordsSigns Try.prog.initOrder.toList) = "cut".toList :: wordsSigns (((Try.prog.initOrder.toList.drop 8).drop 65).drop 4) := by
  rw [toList_of (s := Try.prog.initOrder) rfl]
  refine behind_of _ ?_ ?_ ?_ ?_ ?_ ?_ ?_
  all_goals (as_aux_lemma => kernel_rfl)

theorem mayEnterT : Try.prog.mayEnter = true := mayEnter_of order (by as_aux_lemma => kernel_rfl) (by as_aux_lemma => kernel_rfl) (by as_aux_lemma => kernel_rfl)
theorem liftsFinalF : Try.prog.liftsFinal = false := by
  unfold Program.liftsFinal Program.headLifts
  rw [order]
  simp only []
  rw [strip_cut]
  kernel_rfl
theorem mapsRowedT : mapsRowed Try.prog = true := by kernel_rfl
theorem stopsN : (Try.prog.stops == []) = true := by kernel_rfl
theorem stopKnobsN : (Try.prog.stopKnobs == []) = true := by kernel_rfl
theorem plainKeysT : (true == Try.prog.plainKeys) = true := by kernel_rfl
theorem stopsHeardT : Try.prog.stopsHeard = true := by kernel_rfl
theorem make_of {P : Program} {rest : List (List Char)} (h : behindMainWord (wordsSigns P.initOrder.toList) = "cut".toList :: rest) : P.make = some .cut := by
  unfold Program.make
  rw [h]
  simp
theorem makeT : (Try.prog.make == some .cut) = true := by rw [make_of order]; rfl
theorem liftedT : (false == Try.prog.liftsFinal) = true := by rw [liftsFinalF]; rfl

section
variable {H : Type} {enc : TypeId × Value → H} {P : Program}

theorem trodAll_below (hl : laidOutB P = true) {W W' : World} (hb : Below W.heap.size W W') : ∀ {ts : List TypeId} {vs : List Value} {ds : List (DataW H)} {ps : List MemPlace},
    (∀ t ∈ ts, P.readableRec t = true ∧ t < P.types.size) → DataW.TrodAll enc P W 0 (fun _ => true) true ts vs ds ps → (∀ x ∈ ps, x.block < W.heap.size) →
    DataW.TrodAll enc P W' 0 (fun b => decide (b < W.heap.size)) true ts vs ds ps
  | [], vs, ds, ps, _, h, _ => by
      obtain ⟨rfl, rfl, rfl⟩ := trodAll_nil h
      exact trodAll_mk0
  | t :: ts, vs, ds, ps, ht, h, hlt => by
      obtain ⟨v, vs', d, ds', p, q, rfl, rfl, rfl, h0, h1⟩ := trodAll_cons h
      have ht0 := ht t (by simp)
      exact trodAll_cons_mk (Below.trod hl ht0.1 ht0.2 h0 hb (fun x hx => hlt x (by simp [hx])))
        (trodAll_below hl hb (fun u hu => ht u (by simp [hu])) h1 (fun x hx => hlt x (by simp [hx])))

/-- The end of a law's row: it has returned true, old memory is as it was. -/
theorem law_post {f : Func} {s : ChangeSpec} {tb : TypeId} (hl : laidOutB P = true) (hts : (f.params.toList.all fun t => P.readableRec t && decide (t < P.types.size)) = true) (hr : f.resultTypes = #[tb]) (hb : P.underlying tb = some .bool)
    (hv : s.vars = []) (hs : ∀ ds : List (DataW H), ds.length = f.params.size → s.fn H ds = { results := [.lit (.bool true)], args := ds })
    {W W' : World} {args : Array Value} {ds gs : List (DataW H)} {before : List MemPlace} (hW : DataW.Whole enc P f.params.toList s.vars false W args.toList ds gs before) (bel : Below W.heap.size W W') :
    s.post enc P f false true false false W args (.bool true) W' := by
  have hW' := hW
  rw [hv] at hW
  obtain ⟨p, q, hA, hV, rfl, hfz, hnd⟩ := hW
  obtain ⟨rfl, rfl⟩ := trodVars_none hV
  have hlen : ds.length = f.params.size := by simpa using (trodAll_length hA).2
  have e := hs ds hlen
  refine ⟨ds, [], _, [], p, [], hW', ?_, ?_, ?_, bel.frame _, fun h => by cases h⟩
  · rw [List.append_nil, e, hr]
    exact trodAll_mk1 (shut_bool hb true)
  · rw [List.append_nil, e]
    exact trodAll_below hl bel (fun t ht => by simpa using List.all_eq_true.1 hts t ht) hA hA.lt
  · rw [List.append_nil, e, hv]
    rfl
end

/-! ### Arguments, opened -/
section
variable {H : Type} {enc : TypeId × Value → H} {P : Program} {W : World} {t : TypeId} {v : Value} {d : DataW H} {p : List MemPlace} {b0 : Nat}
theorem open_u64 (ht : P.underlying t = some (.int .u64)) (hv : Value.okWide P W .any b0 t v) (h : DataW.Trod enc P W 0 (fun _ => true) true t v d p) :
    ∃ n : Nat, v = .int .u64 n ∧ n < 18446744073709551616 := by
  obtain ⟨x, rfl, _, _, wx⟩ := open_int ht hv h
  have b := bounds_u64 wx
  obtain ⟨n, rfl⟩ := Int.eq_ofNat_of_zero_le b.1
  exact ⟨n, rfl, by omega⟩
theorem trod_u64 {base : Nat} {sp : Nat → Bool} {held : Bool} {fuel : Nat} {x : DataW H × List MemPlace} (ht : P.underlying t = some (.int .u64)) (h : DataW.trod enc P W base sp held fuel t [v] = some x) : ∃ n : Nat, v = .int .u64 n ∧ n < 18446744073709551616 := by
  obtain ⟨a, e0, _, wa⟩ := DataW.trod_int ht h
  obtain rfl : v = .int .u64 a := by simpa using e0
  have b := bounds_u64 wa
  obtain ⟨n, rfl⟩ := Int.eq_ofNat_of_zero_le b.1
  exact ⟨n, rfl, by omega⟩
theorem open_u32 (ht : P.underlying t = some (.int .u32)) (hv : Value.okWide P W .any b0 t v) (h : DataW.Trod enc P W 0 (fun _ => true) true t v d p) :
    ∃ n : Nat, v = .int .u32 n ∧ n < 4294967296 := by
  obtain ⟨x, rfl, _, _, wx⟩ := open_int ht hv h
  have b := bounds_u32 wx
  obtain ⟨n, rfl⟩ := Int.eq_ofNat_of_zero_le b.1
  exact ⟨n, rfl, by omega⟩
theorem trod_u32 {base : Nat} {sp : Nat → Bool} {held : Bool} {fuel : Nat} {x : DataW H × List MemPlace} (ht : P.underlying t = some (.int .u32)) (h : DataW.trod enc P W base sp held fuel t [v] = some x) : ∃ n : Nat, v = .int .u32 n ∧ n < 4294967296 := by
  obtain ⟨a, e0, _, wa⟩ := DataW.trod_int ht h
  obtain rfl : v = .int .u32 a := by simpa using e0
  have b := bounds_u32 wa
  obtain ⟨n, rfl⟩ := Int.eq_ofNat_of_zero_le b.1
  exact ⟨n, rfl, by omega⟩
theorem open_u16 (ht : P.underlying t = some (.int .u16)) (hv : Value.okWide P W .any b0 t v) (h : DataW.Trod enc P W 0 (fun _ => true) true t v d p) :
    ∃ n : Nat, v = .int .u16 n ∧ n < 65536 := by
  obtain ⟨x, rfl, _, _, wx⟩ := open_int ht hv h
  have b := bounds_u16 wx
  obtain ⟨n, rfl⟩ := Int.eq_ofNat_of_zero_le b.1
  exact ⟨n, rfl, by omega⟩
theorem trod_u16 {base : Nat} {sp : Nat → Bool} {held : Bool} {fuel : Nat} {x : DataW H × List MemPlace} (ht : P.underlying t = some (.int .u16)) (h : DataW.trod enc P W base sp held fuel t [v] = some x) : ∃ n : Nat, v = .int .u16 n ∧ n < 65536 := by
  obtain ⟨a, e0, _, wa⟩ := DataW.trod_int ht h
  obtain rfl : v = .int .u16 a := by simpa using e0
  have b := bounds_u16 wa
  obtain ⟨n, rfl⟩ := Int.eq_ofNat_of_zero_le b.1
  exact ⟨n, rfl, by omega⟩
theorem open_u8 (ht : P.underlying t = some (.int .u8)) (hv : Value.okWide P W .any b0 t v) (h : DataW.Trod enc P W 0 (fun _ => true) true t v d p) :
    ∃ n : Nat, v = .int .u8 n ∧ n < 256 := by
  obtain ⟨x, rfl, _, _, wx⟩ := open_int ht hv h
  have b := bounds_u8 wx
  obtain ⟨n, rfl⟩ := Int.eq_ofNat_of_zero_le b.1
  exact ⟨n, rfl, by omega⟩
theorem trod_u8 {base : Nat} {sp : Nat → Bool} {held : Bool} {fuel : Nat} {x : DataW H × List MemPlace} (ht : P.underlying t = some (.int .u8)) (h : DataW.trod enc P W base sp held fuel t [v] = some x) : ∃ n : Nat, v = .int .u8 n ∧ n < 256 := by
  obtain ⟨a, e0, _, wa⟩ := DataW.trod_int ht h
  obtain rfl : v = .int .u8 a := by simpa using e0
  have b := bounds_u8 wa
  obtain ⟨n, rfl⟩ := Int.eq_ofNat_of_zero_le b.1
  exact ⟨n, rfl, by omega⟩
theorem open_i64 (ht : P.underlying t = some (.int .i64)) (hv : Value.okWide P W .any b0 t v) (h : DataW.Trod enc P W 0 (fun _ => true) true t v d p) :
    ∃ n : Int, v = .int .i64 n ∧ -9223372036854775808 ≤ n ∧ n ≤ 9223372036854775807 := by
  obtain ⟨x, rfl, _, _, wx⟩ := open_int ht hv h
  exact ⟨x, rfl, bounds_i64 wx⟩
theorem open_i32 (ht : P.underlying t = some (.int .i32)) (hv : Value.okWide P W .any b0 t v) (h : DataW.Trod enc P W 0 (fun _ => true) true t v d p) :
    ∃ n : Int, v = .int .i32 n ∧ -2147483648 ≤ n ∧ n ≤ 2147483647 := by
  obtain ⟨x, rfl, _, _, wx⟩ := open_int ht hv h
  exact ⟨x, rfl, bounds_i32 wx⟩

theorem okWide_array {n : Nat} {e : TypeId} (ht : P.underlying t = some (.array n e)) (h : Value.okWide P W .any b0 t v) : ∃ cs, v = .agg cs ∧ cs.size = P.cellsOf t := by
  simp only [Value.okWide, ht] at h
  obtain ⟨cs, h1, h2, _⟩ := h
  exact ⟨cs, h1, h2⟩

/-- an array of words: its cells -/
theorem open_words {n : Nat} {e : TypeId} (ht : P.underlying t = some (.array n e)) (he : P.underlying e = some (.int .u64)) (hc : P.cellsOf t = n) (hc1 : P.cellsOf e = 1)
    (hv : Value.okWide P W .any b0 t v) (h : DataW.Trod enc P W 0 (fun _ => true) true t v d p) :
    ∃ cs : Array Value, v = .agg cs ∧ cs.size = n ∧ ∀ i, i < n → ∃ x : Nat, cs[i]? = some (.int .u64 x) ∧ x < 18446744073709551616 := by
  obtain ⟨cs, rfl, hsz⟩ := okWide_array ht hv
  obtain ⟨fuel, hf⟩ := h
  obtain ⟨xs, m, _, _, hlen, hxl, hi⟩ := DataW.trod_array ht hf
  refine ⟨cs, rfl, hsz.trans hc, fun i hin => ?_⟩
  have h1 := hi i hin
  rw [hc1, Nat.mul_one] at h1
  have hsz2 : i < cs.toList.length := by simp; omega
  have e1 : (cs.toList.drop i).take 1 = [cs.toList[i]] := by
    rw [List.drop_eq_getElem_cons hsz2]; rfl
  have e2 : xs[i]? = some (xs[i]'(by omega)) := List.getElem?_eq_getElem (by omega)
  rw [show (Value.agg cs).cells = cs from rfl, e1, e2] at h1
  obtain ⟨x, hx, hb⟩ := trod_u64 he h1
  refine ⟨x, ?_, hb⟩
  rw [← hx]
  simp [Array.getElem?_eq_getElem (show i < cs.size by simpa using hsz2)]
end

theorem words4 {cs : Array Value} {a b c d : Nat} (h : cs.size = 4) (e0 : cs[0]? = some (.int .u64 a)) (e1 : cs[1]? = some (.int .u64 b)) (e2 : cs[2]? = some (.int .u64 c)) (e3 : cs[3]? = some (.int .u64 d)) :
    cs = #[.int .u64 a, .int .u64 b, .int .u64 c, .int .u64 d] := by
  obtain ⟨x, y, z, u, rfl⟩ := Joins.array4 h
  simp at e0 e1 e2 e3
  rw [e0, e1, e2, e3]
theorem words3 {cs : Array Value} {a b c : Nat} (h : cs.size = 3) (e0 : cs[0]? = some (.int .u64 a)) (e1 : cs[1]? = some (.int .u64 b)) (e2 : cs[2]? = some (.int .u64 c)) :
    cs = #[.int .u64 a, .int .u64 b, .int .u64 c] := by
  obtain ⟨l⟩ := cs
  match l, h with
  | [x, y, z], _ =>
    simp at e0 e1 e2
    rw [e0, e1, e2]

end Go.Proofs.Ytkemhcokkaanfaa
