/-
  dolelaw08.Deed: how a row of deeds lies.
  dolelaw08.same: a queue that stands as the document's does.
-/
import Derived.Test.YtefekboacghnjaaMi
import Derived.Test.YtefekboacghnjaaPf

namespace Go.Proofs.Ytefekboacghnjaa
open Go.ChangeShapes Go.WideShapes Go.ChangeAt Go.RowKit Go.Deep Go.Maps

structure Dd where
  kind : Int
  e : En
  ns : Nat
  gran : Int
structure Dd.num (d : Dd) : Prop where
  k1 : -9223372036854775808 ≤ d.kind
  k2 : d.kind ≤ 9223372036854775807
  e : d.e.num
  ns : d.ns < 18446744073709551616
  g1 : -9223372036854775808 ≤ d.gran
  g2 : d.gran ≤ 9223372036854775807
def Dd.nil : Dd := ⟨0, En.nil, 0, 0⟩
structure DdAt (w : World) (b o : Nat) (d : Dd) : Prop where
  c0 : w.cell? ⟨b, o, none⟩ = some (.int .i64 d.kind)
  c1 : w.cell? ⟨b, o + 1, none⟩ = some (.int .i64 d.e.id)
  c2 : w.cell? ⟨b, o + 2, none⟩ = some (.int .u64 d.e.wt)
  c3 : w.cell? ⟨b, o + 3, none⟩ = some (.int .i64 d.e.v)
  c4 : w.cell? ⟨b, o + 4, none⟩ = some (.int .u64 d.e.rem)
  c5 : w.cell? ⟨b, o + 5, none⟩ = some (.int .u64 d.ns)
  c6 : w.cell? ⟨b, o + 6, none⟩ = some (.int .i64 d.gran)
def RowD (w : World) (B : Nat) (A : Option Addr) (xs : List Dd) : Prop :=
  xs = [] ∨ ∃ b off : Nat, A = some ⟨b, off, none⟩ ∧ b < B ∧ ∀ j, j < xs.length → DdAt w b (off + j * 7) (xs.getD j Dd.nil)
theorem DdAt.below {w w' : World} {B b o : Nat} {x : Dd} (h : DdAt w b o x) (k : Below B w w') (hb : b < B) : DdAt w' b o x :=
  ⟨(k.cell (p := ⟨b, o, none⟩) hb).trans h.c0, (k.cell (p := ⟨b, o + 1, none⟩) hb).trans h.c1, (k.cell (p := ⟨b, o + 2, none⟩) hb).trans h.c2, (k.cell (p := ⟨b, o + 3, none⟩) hb).trans h.c3, (k.cell (p := ⟨b, o + 4, none⟩) hb).trans h.c4, (k.cell (p := ⟨b, o + 5, none⟩) hb).trans h.c5, (k.cell (p := ⟨b, o + 6, none⟩) hb).trans h.c6⟩
theorem RowD.below {w w' : World} {B : Nat} {A : Option Addr} {xs : List Dd} (h : RowD w B A xs) (k : Below B w w') : RowD w' B A xs := by
  rcases h with h | ⟨b, off, e, hb, hc⟩
  · exact .inl h
  · exact .inr ⟨b, off, e, hb, fun j hj => (hc j hj).below k hb⟩
theorem RowD.at_ {w : World} {B : Nat} {A : Option Addr} {xs : List Dd} (h : RowD w B A xs) (hp : 0 < xs.length) : ∃ b off : Nat, A = some ⟨b, off, none⟩ ∧ b < B ∧ ∀ j, j < xs.length → DdAt w b (off + j * 7) (xs.getD j Dd.nil) := by
  rcases h with rfl | h
  · simp at hp
  · exact h
section
variable {H : Type} {enc : TypeId × Value → H} {W : World} {v : Value} {d : DataW H} {p : List MemPlace} {b0 : Nat}
theorem cells_dd : Try.prog.cellsOf 34 = 7 := by kernel_rfl
set_option maxRecDepth 100000 in
theorem open_ent4 {fuel : Nat} {x0 x1 x2 x3 : Value} {x : DataW H × List MemPlace} (hf : DataW.trod enc Try.prog W 0 (fun _ => true) true fuel 32 [x0, x1, x2, x3] = some x) : ∃ e : En, x0 = .int .i64 e.id ∧ x1 = .int .u64 e.wt ∧ x2 = .int .i64 e.v ∧ x3 = .int .u64 e.rem ∧ e.num := by
  obtain ⟨xs, m, _, _, hlen, hxl, hi⟩ := DataW.trod_struct Try.underlying32 hf
  have h4 : xs.length = 4 := hxl
  have h0 : DataW.trod enc Try.prog W 0 (fun _ => true) true m 3 (List.take (Try.prog.cellsOf 3) [x0, x1, x2, x3]) = xs[0]? := hi 0 _ rfl
  have h1 : DataW.trod enc Try.prog W 0 (fun _ => true) true m 30 (List.take (Try.prog.cellsOf 30) [x1, x2, x3]) = xs[1]? := hi 1 _ rfl
  have h2 : DataW.trod enc Try.prog W 0 (fun _ => true) true m 2 (List.take (Try.prog.cellsOf 2) [x2, x3]) = xs[2]? := hi 2 _ rfl
  have h3 : DataW.trod enc Try.prog W 0 (fun _ => true) true m 30 (List.take (Try.prog.cellsOf 30) [x3]) = xs[3]? := hi 3 _ rfl
  rw [cells_int, List.getElem?_eq_getElem (by omega)] at h0
  rw [cells_u64, List.getElem?_eq_getElem (by omega)] at h1 h3
  rw [cells_i64, List.getElem?_eq_getElem (by omega)] at h2
  obtain ⟨k, rfl, bk⟩ := trod_i64 Try.underlying3 h0
  obtain ⟨wt, rfl, bw⟩ := trod_u64 Try.underlying30 h1
  obtain ⟨vv, rfl, bv⟩ := trod_i64 Try.underlying2 h2
  obtain ⟨rm, rfl, br⟩ := trod_u64 Try.underlying30 h3
  exact ⟨⟨k, wt, vv, rm⟩, rfl, rfl, rfl, rfl, bk.1, bk.2, bv.1, bv.2, bw, br⟩
set_option maxRecDepth 100000 in
theorem open_dd7 {fuel : Nat} {cs : List Value} {x : DataW H × List MemPlace} (hl : cs.length = 7) (hf : DataW.trod enc Try.prog W 0 (fun _ => true) true fuel 34 cs = some x) :
    ∃ d : Dd, d.num ∧ cs = [.int .i64 d.kind, .int .i64 d.e.id, .int .u64 d.e.wt, .int .i64 d.e.v, .int .u64 d.e.rem, .int .u64 d.ns, .int .i64 d.gran] := by
  match cs, hl with
  | [x0, x1, x2, x3, x4, x5, x6], _ =>
    obtain ⟨xs, m, _, _, hlen, hxl, hi⟩ := DataW.trod_struct Try.underlying34 hf
    have h4 : xs.length = 4 := hxl
    have h0 : DataW.trod enc Try.prog W 0 (fun _ => true) true m 3 (List.take (Try.prog.cellsOf 3) [x0, x1, x2, x3, x4, x5, x6]) = xs[0]? := hi 0 _ rfl
    have h1 : DataW.trod enc Try.prog W 0 (fun _ => true) true m 32 (List.take (Try.prog.cellsOf 32) [x1, x2, x3, x4, x5, x6]) = xs[1]? := hi 1 _ rfl
    have h2 : DataW.trod enc Try.prog W 0 (fun _ => true) true m 30 (List.take (Try.prog.cellsOf 30) [x5, x6]) = xs[2]? := hi 2 _ rfl
    have h3 : DataW.trod enc Try.prog W 0 (fun _ => true) true m 2 (List.take (Try.prog.cellsOf 2) [x6]) = xs[3]? := hi 3 _ rfl
    rw [cells_int, List.getElem?_eq_getElem (by omega)] at h0
    rw [cells_ent, List.getElem?_eq_getElem (by omega)] at h1
    rw [cells_u64, List.getElem?_eq_getElem (by omega)] at h2
    rw [cells_i64, List.getElem?_eq_getElem (by omega)] at h3
    obtain ⟨k, rfl, bk⟩ := trod_i64 Try.underlying3 h0
    obtain ⟨e, rfl, rfl, rfl, rfl, he⟩ := open_ent4 h1
    obtain ⟨ns, rfl, bn⟩ := trod_u64 Try.underlying30 h2
    obtain ⟨gr, rfl, bg⟩ := trod_i64 Try.underlying2 h3
    exact ⟨⟨k, e, ns, gr⟩, ⟨bk.1, bk.2, he, bn, bg.1, bg.2⟩, rfl⟩
set_option maxRecDepth 100000 in
theorem open_deeds (hv : Value.okWide Try.prog W .any b0 22 v) (h : DataW.Trod enc Try.prog W 0 (fun _ => true) true 22 v d p) :
    ∃ (A : Option Addr) (xs : List Dd) (c : Nat), v = .slice A xs.length c ∧ RowD W W.heap.size A xs ∧ (∀ x ∈ xs, x.num) ∧ xs.length ≤ 9223372036854775807 := by
  obtain ⟨a0, len, cap, rfl⟩ := okWide_slice Try.underlying22 hv
  obtain ⟨fuel, hf⟩ := h
  rcases open_slice Try.underlying22 hf with ⟨hcs, _⟩ | ⟨x, l, c, m, n, D, Pl, hcs, _, hl, hm, hmm, _, hi⟩
  · simp [Value.cells] at hcs
    obtain ⟨rfl, rfl, rfl⟩ := hcs
    exact ⟨none, [], 0, rfl, .inl rfl, by simp, by simp⟩
  · simp [Value.cells] at hcs
    obtain ⟨rfl, rfl, rfl⟩ := hcs
    have hmm2 : m = cap := by simpa using hmm
    rw [hmm2] at hi
    unfold maxLen at hm
    rcases Nat.eq_zero_or_pos len with hz | hz
    · subst hz
      exact ⟨_, [], cap, rfl, .inl rfl, by simp, by simp⟩
    · obtain ⟨b, off, spot⟩ := x
      have key0 : ∀ i, i < cap → ∃ d : Dd, d.num ∧ ∀ j u, [Value.int .i64 d.kind, .int .i64 d.e.id, .int .u64 d.e.wt, .int .i64 d.e.v, .int .u64 d.e.rem, .int .u64 d.ns, .int .i64 d.gran][j]? = some u → W.cell? ((⟨b, off, spot⟩ : Addr).add (i * 7 + j)) = some u := fun i hic => by
        obtain ⟨cs', hc, ht'⟩ := hi i hic
        rw [cells_dd] at hc
        obtain ⟨_, hcl, hat⟩ := World.cells?_some hc
        obtain ⟨d, hd, rfl⟩ := open_dd7 hcl ht'
        refine ⟨d, hd, fun j u hu => ?_⟩
        have hj : j < 7 := (List.getElem?_eq_some_iff.1 hu).1
        rw [← Go.Deep.add_add, hat j hj, hu]
      obtain ⟨d0, _, hc0⟩ := key0 0 (by omega)
      have hc00 := hc0 0 _ rfl
      have hspot : spot = none := by simpa [Addr.add] using World.cell?_spot hc00
      subst hspot
      have hblt : b < W.heap.size := by
        have := World.block_lt_of_cell? W _ hc00
        simpa [Addr.add] using this
      have ea : ∀ k, (⟨b, off, none⟩ : Addr).add k = ⟨b, off + k, none⟩ := fun k => by
        rcases Nat.eq_zero_or_pos k with h | h
        · rw [h]; simp [Addr.add]
        · simp [Addr.add]; omega
      have key : ∀ j, j < len → ∃ d : Dd, d.num ∧ DdAt W b (off + j * 7) d := fun j hj => by
        obtain ⟨d, hd, hc⟩ := key0 j (by omega)
        have e : ∀ i u, [Value.int .i64 d.kind, .int .i64 d.e.id, .int .u64 d.e.wt, .int .i64 d.e.v, .int .u64 d.e.rem, .int .u64 d.ns, .int .i64 d.gran][i]? = some u → W.cell? ⟨b, off + j * 7 + i, none⟩ = some u := fun i u hu => by
          have := hc i u hu
          rw [ea, ← Nat.add_assoc] at this
          exact this
        exact ⟨d, hd, e 0 _ rfl, e 1 _ rfl, e 2 _ rfl, e 3 _ rfl, e 4 _ rfl, e 5 _ rfl, e 6 _ rfl⟩
      obtain ⟨f, hf1, _⟩ := pick_fn Dd.nil key
      have hlen : ((List.range len).map f).length = len := by simp
      refine ⟨_, (List.range len).map f, cap, by rw [hlen], .inr ⟨b, off, rfl, hblt, fun j hj => ?_⟩, fun d hd => ?_, by rw [hlen]; omega⟩
      · rw [hlen] at hj
        have e : ((List.range len).map f).getD j Dd.nil = f j := by rw [List.getD_eq_getElem?_getD]; simp [hj]
        rw [e]
        exact (hf1 j hj).2
      · obtain ⟨j, hj, rfl⟩ := List.mem_map.1 hd
        exact (hf1 j (List.mem_range.1 hj)).1
end

end Go.Proofs.Ytefekboacghnjaa

namespace Go.Proofs.Ytefekboacghnjaa
open Go.RowKit Go.Maps

set_option maxRecDepth 100000 in
set_option maxHeartbeats 16000000 in
theorem same_any {w0 w : World} {p q : Nat} {A : Option Addr} {c : Nat} {X : QS} {K : Int} {B : List (Nat × Option Obj)} (h : RW w0 w p q A c X X K B) :
    Calls Try.prog 25 #[.pointer (some ⟨q, 0, none⟩), rqV A X.L.length c X.cur X.mn X.over] w fun r w' => r = .returned (.bool true) ∧ Below w.heap.size w w' := by
  have hok := h.ok
  have hlen := hok.len
  have hload := hok.load
  have MN : Hid (∀ W, Below w.heap.size w W → QNew w0 W q X K) := Lib.hid fun W hW => (h.below hW).new
  have MR : Hid (∀ W, Below w.heap.size w W → RQ W W.heap.size A c X.L) := Lib.hid fun W hW => (h.below hW).row
  have HOK := Lib.hid hok
  obtain ⟨n, hn⟩ : ∃ n, n = X.L.length := ⟨_, rfl⟩
  obtain ⟨cu, hcu⟩ : ∃ cu, cu = X.cur := ⟨_, rfl⟩
  obtain ⟨mn, hmn⟩ : ∃ mn, mn = X.mn := ⟨_, rfl⟩
  obtain ⟨ov, hov⟩ : ∃ ov, ov = X.over := ⟨_, rfl⟩
  obtain ⟨ld, hld⟩ : ∃ ld, ld = loadL X.L := ⟨_, rfl⟩
  obtain ⟨ne, hne⟩ : ∃ ne, ne = X.ents.length := ⟨_, rfl⟩
  have ME : Hid (∀ W, Below w.heap.size w W → Calls Try.prog 77 #[.pointer (some ⟨q, 0, none⟩)] W fun r w' => ∃ A5 c5, r = .returned (.slice A5 ne c5) ∧ Hid (RowE w' w'.heap.size A5 X.ents ∧ Below W.heap.size W w')) := Lib.hid fun W hW => by
    refine (qn_ents (MN.out W hW)).mono fun r w' hp => ?_
    obtain ⟨v, hr, hO⟩ := hp
    obtain ⟨A5, c5, rfl, hrow, _⟩ := own_ents hO.out.1
    rw [hne]
    exact ⟨A5, c5, hr, hrow, hO.out.2.1⟩
  have MF : Hid (∀ W, Below w.heap.size w W → Calls Try.prog 78 #[rqV A n c cu mn ov] W fun r w' => ∃ A6 c6, r = .returned (.slice A6 ne c6) ∧ Hid (RowE w' w'.heap.size A6 X.ents ∧ Below W.heap.size W w')) := Lib.hid fun W hW => by
    rw [hn, hcu, hmn, hov, hne]
    exact rents_any A c X hok W (MR.out W hW)
  have MS : Hid (∀ (W : World) (A5 A6 : Option Addr) (c5 c6 : Nat), RowE W W.heap.size A5 X.ents → RowE W W.heap.size A6 X.ents → Calls Try.prog 76 #[.slice A5 ne c5, .slice A6 ne c6] W fun r w' => r = .returned (.bool true) ∧ Below W.heap.size W w') := Lib.hid fun W A5 A6 c5 c6 h5 h6 => by
    rw [hne]
    exact rsame_any A5 A6 X.ents c5 c6 W h5 h6 (by have : X.ents.length = (ksOf X.L).length := List.length_map ..; rw [this]; have := ksOf_len X.L; omega)
  have MC : Hid (∀ W, Below w.heap.size w W → Calls Try.prog 52 #[.pointer (some ⟨q, 0, none⟩)] W fun e w' => e = .returned (.int .i64 cu) ∧ W = w') := Lib.hid fun W hW => by
    rw [hcu]; exact qn_cur (MN.out W hW)
  have MM : Hid (∀ W, Below w.heap.size w W → Calls Try.prog 79 #[.pointer (some ⟨q, 0, none⟩)] W fun e w' => e = .returned (.int .i64 mn) ∧ W = w') := Lib.hid fun W hW => by
    rw [hmn]; exact qn_min (MN.out W hW)
  have ML : Hid (∀ W, Below w.heap.size w W → Calls Try.prog 53 #[.pointer (some ⟨q, 0, none⟩)] W fun e w' => e = .returned (.int .u64 (ld : Nat)) ∧ W = w') := Lib.hid fun W hW => by
    rw [hld]; exact qn_load (MN.out W hW)
  have MO : Hid (∀ W, Below w.heap.size w W → Calls Try.prog 81 #[.pointer (some ⟨q, 0, none⟩)] W fun e w' => e = .returned (.bool ov) ∧ W = w') := Lib.hid fun W hW => by
    rw [hov]; exact qn_flag (MN.out W hW)
  have MD : Hid (∀ W, Below w.heap.size w W → Calls Try.prog 80 #[rqV A n c cu mn ov] W fun e w' => e = .returned (.int .u64 (ld : Nat)) ∧ Below W.heap.size W w') := Lib.hid fun W hW => by
    rw [hn, hcu, hmn, hov, hld]
    exact rload_any A c X.L X.cur X.mn X.over hok.ents W (MR.out W hW).1 (by omega)
  rw [← hn, ← hcu, ← hmn, ← hov]
  clear hn hcu hmn hov hld hne h hok hlen hload MN MR
  go_enter Try.func25, Try.ntmps25
  go_wp2_with fail
  obtain ⟨w1, hw1⟩ : ∃ w1, w1 = w.alloc (.cells #[.slice A n c, .int .i64 cu, .int .i64 mn, .bool ov] 28) := ⟨_, rfl⟩
  have hb1 : Below w.heap.size w w1 := by rw [hw1]; exact (Below.refl _ _).alloc (Nat.le_refl _) _
  have hx1 : Blk w1 w.heap.size #[.slice A n c, .int .i64 cu, .int .i64 mn, .bool ov] 28 := by rw [hw1]; exact Blk.new _ _ _
  have x0 : w1.cell? ⟨w.heap.size, 0, none⟩ = some (.slice A n c) := Blk.cell hx1 0
  have x1 : w1.cell? ⟨w.heap.size, 1, none⟩ = some (.int .i64 cu) := Blk.cell hx1 1
  have x2 : w1.cell? ⟨w.heap.size, 2, none⟩ = some (.int .i64 mn) := Blk.cell hx1 2
  have x3 : w1.cell? ⟨w.heap.size, 3, none⟩ = some (.bool ov) := Blk.cell hx1 3
  have HX : Hid (∀ W, Below w1.heap.size w1 W → W.cell? ⟨w.heap.size, 0, none⟩ = some (.slice A n c) ∧ W.cell? ⟨w.heap.size, 1, none⟩ = some (.int .i64 cu) ∧ W.cell? ⟨w.heap.size, 2, none⟩ = some (.int .i64 mn) ∧ W.cell? ⟨w.heap.size, 3, none⟩ = some (.bool ov)) := Lib.hid fun W hW => by
    have hk := hx1.below hW hx1.lt
    exact ⟨Blk.cell hk 0, Blk.cell hk 1, Blk.cell hk 2, Blk.cell hk 3⟩
  have HB1 : Hid (∀ W, Below w1.heap.size w1 W → Below w.heap.size w W) := Lib.hid fun W hW => hb1.trans (hW.mono hb1.size)
  rw [← hw1]
  have HW1 := Lib.hid hw1
  clear hw1 hb1 hx1
  go_region_with (first
    | (go_at_call 77; refine (ME.out _ (HB1.out _ (by first | exact (Below.refl _ _).drew | exact Below.refl _ _))).mono ?_; rintro r w5 ⟨A5, c5, rfl, H5⟩; have HB5 : Hid (Below w1.heap.size w1 w5) := Lib.hid (by first | exact H5.out.2 | exact (Below.refl _ _).drew.trans H5.out.2); obtain ⟨y0, y1, y2, y3⟩ := HX.out _ HB5.out)
    | (go_at_call 78; refine (MF.out _ (HB1.out _ (by first | exact HB5.out | exact HB5.out.drew))).mono ?_; rintro r w6 ⟨A6, c6, rfl, H6⟩)
    | (go_at_call 76; refine (MS.out _ A5 A6 c5 c6 ((H5.out.1.below H6.out.2).mono H6.out.2.size) H6.out.1).mono ?_; rintro r w7 ⟨rfl, hb7⟩))
  all_goals (
    have HB7 : Hid (∀ W, Below w7.heap.size w7 W → Below w1.heap.size w1 W) := Lib.hid fun W hW => by
      have h6 : Below w1.heap.size w1 w6 := by first | exact HB5.out.trans (H6.out.2.mono HB5.out.size) | exact HB5.out.drew.trans (H6.out.2.mono HB5.out.size)
      have h7 : Below w1.heap.size w1 w7 := by first | exact h6.trans (hb7.mono h6.size) | exact h6.drew.trans (hb7.mono h6.size)
      exact h7.trans (hW.mono h7.size)
    have SO := Lib.hid fun W (hW : Below w7.heap.size w7 W) => (⟨hW, HX.out W (HB7.out W hW)⟩ : Below w7.heap.size w7 W ∧ W.cell? ⟨w.heap.size, 0, none⟩ = some (.slice A n c) ∧ W.cell? ⟨w.heap.size, 1, none⟩ = some (.int .i64 cu) ∧ W.cell? ⟨w.heap.size, 2, none⟩ = some (.int .i64 mn) ∧ W.cell? ⟨w.heap.size, 3, none⟩ = some (.bool ov))
    have HZ : Hid (∀ W, Below w7.heap.size w7 W → Below w.heap.size w W) := Lib.hid fun W hW => HB1.out W (HB7.out W hW)
    have hz7 := Nat.le_refl w7.heap.size
    clear ME MF MS H5 H6 HB5 hb7 HX HB1 HB7 HW1 x0 x1 x2 x3 y0 y1 y2 y3
    go_wp2_with fail
    go_region_held3 (fun W => Below w7.heap.size w7 W ∧ W.cell? ⟨w.heap.size, 0, none⟩ = some (.slice A n c) ∧ W.cell? ⟨w.heap.size, 1, none⟩ = some (.int .i64 cu) ∧ W.cell? ⟨w.heap.size, 2, none⟩ = some (.int .i64 mn) ∧ W.cell? ⟨w.heap.size, 3, none⟩ = some (.bool ov))
      (first | exact SO.out _ (kp_drew (by assumption)) | exact SO.out _ (kp_call (by assumption) (by assumption) hz7) | exact SO.out _ (kp_same (by assumption)) | exact SO.out _ (kp_start _ _))
      (first
        | (go_at_call 52; refine (MC.out _ (HZ.out _ (by first | exact kp_same (by assumption) | exact kp_drew (by assumption) | exact (Below.refl _ _).drew))).mono ?_; rintro r w' ⟨rfl, rfl⟩)
        | (go_at_call 79; refine (MM.out _ (HZ.out _ (by first | exact kp_same (by assumption) | exact kp_drew (by assumption) | exact (Below.refl _ _).drew))).mono ?_; rintro r w' ⟨rfl, rfl⟩)
        | (go_at_call 53; refine (ML.out _ (HZ.out _ (by first | exact kp_same (by assumption) | exact kp_drew (by assumption) | exact (Below.refl _ _).drew))).mono ?_; rintro r w' ⟨rfl, rfl⟩)
        | (go_at_call 81; refine (MO.out _ (HZ.out _ (by first | exact kp_same (by assumption) | exact kp_drew (by assumption) | exact (Below.refl _ _).drew))).mono ?_; rintro r w' ⟨rfl, rfl⟩)
        | (go_at_call 80; refine (MD.out _ (HZ.out _ (by first | exact kp_same (by assumption) | exact kp_drew (by assumption) | exact (Below.refl _ _).drew))).mono ?_; rintro r w' ⟨rfl, hbm⟩))
    rename_i hHeld
    have HEND := Lib.hid (HZ.out _ hHeld.1)
    clear hHeld SO HZ MC MM ML MO MD
    go_wp2_with fail
    go_ret
    exact ⟨rfl, HEND.out⟩)

end Go.Proofs.Ytefekboacghnjaa
