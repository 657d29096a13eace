/-
  Deeds: how they lie in memory; dolelaw18.few; ledger.Credit, whatever it answers.
-/
import Derived.Test.YtkemhcokkaanfaaLaw18
namespace Go.Proofs.Ytkemhcokkaanfaa
open Go.ChangeShapes Go.WideShapes Go.ChangeAt Go.RowKit Go.Deep Go.Maps

/-! Rows of values of k cells each. -/
theorem flat_get {α : Type} (cells : α → List Value) (k : Nat) (hk : ∀ d, (cells d).length = k) : ∀ (F : List α) (j i : Nat), i < k → (F.flatMap cells)[j * k + i]? = (F[j]?).bind fun d => (cells d)[i]?
  | [], j, i, _ => by simp
  | d :: F, 0, i, hi => by
    rw [List.flatMap_cons, Nat.zero_mul, Nat.zero_add, List.getElem?_append_left (by rw [hk]; exact hi)]
    rfl
  | d :: F, j + 1, i, hi => by
    have e : (j + 1) * k + i = k + (j * k + i) := by rw [Nat.add_mul]; omega
    rw [List.flatMap_cons, e, List.getElem?_append_right (by rw [hk]; omega), hk, show k + (j * k + i) - k = j * k + i by omega, flat_get cells k hk F j i hi]
    rfl
theorem own_cells {w : World} {base : Nat} {e : TypeId} {k n : Nat} {v : Value} {xs : List Value} (h : w.ownsRow base e k v n xs) :
    (v = .slice none 0 0 ∧ n = 0) ∨ ∃ g c, v = .slice (some ⟨g, 0, none⟩) n c ∧ base ≤ g ∧ g < w.heap.size ∧ n ≤ 9223372036854775807 ∧ ∀ i, i < n * k → w.cell? ⟨g, i, none⟩ = xs[i]? := by
  rcases h.2 with h0 | ⟨g, cap, cur, rfl, hbase, hgb, r1, r2, r3, r4⟩
  · exact .inl h0
  · refine .inr ⟨g, cap, rfl, hbase, (Array.getElem?_eq_some_iff.1 hgb).1, by unfold maxLen at r2; omega, fun i hi => ?_⟩
    have : w.cell? ⟨g, i, none⟩ = cur[i]? := by simp [World.cell?, hgb]
    rw [this, ← r4, List.getElem?_take_of_lt hi, Array.getElem?_toList]
theorem cell_four_new (w : World) (a b c d : Value) (t : TypeId) : ∀ j u, [a, b, c, d][j]? = some u → (w.alloc (.cells #[a, b, c, d] t)).cell? ((⟨w.heap.size, 0, none⟩ : Addr).add j) = some u := by
  intro j u hj
  match j, hj with
  | 0, hj => simp at hj; subst hj; simp [go_sem, Addr.add]
  | 1, hj => simp at hj; subst hj; simp [go_sem, Addr.add]
  | 2, hj => simp at hj; subst hj; simp [go_sem, Addr.add]
  | 3, hj => simp at hj; subst hj; simp [go_sem, Addr.add]
  | j + 4, hj => simp at hj

/-- a deed -/
structure Deed18 where
  A : Option Addr
  zs : List Int
  c : Nat
  task : Int
  ns : Int
  gone : Bool
def Deed18.none : Deed18 := ⟨.none, [], 0, 0, 0, false⟩
def dcells (d : Deed18) : List Value := [.slice d.A d.zs.length d.c, .int .i64 d.task, .int .i64 d.ns, .bool d.gone]
theorem dcells_len (d : Deed18) : (dcells d).length = 4 := rfl
/-- its numbers are numbers; its path lies below B -/
structure Deed18.ok (w : World) (B : Nat) (d : Deed18) : Prop where
  t1 : -9223372036854775808 ≤ d.task
  t2 : d.task ≤ 9223372036854775807
  n1 : -9223372036854775808 ≤ d.ns
  n2 : d.ns ≤ 9223372036854775807
  path : IntsAt w B d.A d.zs
  wf : ∀ z ∈ d.zs, (Lit.int .i64 z).wf = true
  len : d.zs.length ≤ 9223372036854775807
  cap : d.zs.length ≤ d.c
theorem Deed18.ok.below {w w' : World} {B : Nat} {d : Deed18} (h : d.ok w B) (k : Below B w w') : d.ok w' B := ⟨h.t1, h.t2, h.n1, h.n2, h.path.below k, h.wf, h.len, h.cap⟩
theorem Deed18.none_ok (w : World) (B : Nat) : Deed18.none.ok w B := ⟨by decide, by decide, by decide, by decide, .inl rfl, by simp [Deed18.none], by simp [Deed18.none], by simp [Deed18.none]⟩
def DeedAt18 (w : World) (b off : Nat) (d : Deed18) : Prop :=
  w.cell? ⟨b, off, none⟩ = some (.slice d.A d.zs.length d.c) ∧ w.cell? ⟨b, off + 1, none⟩ = some (.int .i64 d.task) ∧ w.cell? ⟨b, off + 2, none⟩ = some (.int .i64 d.ns) ∧ w.cell? ⟨b, off + 3, none⟩ = some (.bool d.gone)
def Deeds18 (w : World) (B : Nat) (A : Option Addr) (ds : List Deed18) : Prop :=
  ds = [] ∨ ∃ b off : Nat, A = some ⟨b, off, none⟩ ∧ b < B ∧ ∀ j, j < ds.length → DeedAt18 w b (off + j * 4) (ds.getD j Deed18.none)
theorem DeedAt18.below {w w' : World} {B b off : Nat} {d : Deed18} (h : DeedAt18 w b off d) (hb : Below B w w') (hlt : b < B) : DeedAt18 w' b off d :=
  ⟨(hb.cell (p := ⟨b, off, none⟩) hlt).trans h.1, (hb.cell (p := ⟨b, off + 1, none⟩) hlt).trans h.2.1, (hb.cell (p := ⟨b, off + 2, none⟩) hlt).trans h.2.2.1, (hb.cell (p := ⟨b, off + 3, none⟩) hlt).trans h.2.2.2⟩
theorem Deeds18.below {w w' : World} {B : Nat} {A : Option Addr} {ds : List Deed18} (h : Deeds18 w B A ds) (k : Below B w w') : Deeds18 w' B A ds := by
  rcases h with h | ⟨b, off, e, hb, hc⟩
  · exact .inl h
  · exact .inr ⟨b, off, e, hb, fun j hj => (hc j hj).below k hb⟩
theorem Deeds18.at_ {w : World} {B : Nat} {A : Option Addr} {ds : List Deed18} (h : Deeds18 w B A ds) (hp : 0 < ds.length) : ∃ b off : Nat, A = some ⟨b, off, none⟩ ∧ b < B ∧ ∀ j, j < ds.length → DeedAt18 w b (off + j * 4) (ds.getD j Deed18.none) := by
  rcases h with rfl | h
  · simp at hp
  · exact h
theorem own_deeds {w : World} {base : Nat} {v : Value} {ds : List Deed18} {e : TypeId} (h : w.ownsRow base e 4 v ds.length (ds.flatMap dcells)) : ∃ A c, v = .slice A ds.length c ∧ Deeds18 w w.heap.size A ds := by
  rcases own_cells h with ⟨rfl, hz⟩ | ⟨g, c, rfl, _, hg, _, hc⟩
  · exact ⟨none, 0, by rw [hz], .inl (List.eq_nil_of_length_eq_zero hz)⟩
  · refine ⟨_, _, rfl, .inr ⟨g, 0, rfl, hg, fun j hj => ?_⟩⟩
    have ej : ds.getD j Deed18.none = ds[j] := by rw [List.getD_eq_getElem?_getD, List.getElem?_eq_getElem hj]; rfl
    have key : ∀ i, i < 4 → w.cell? ⟨g, 0 + j * 4 + i, none⟩ = (dcells (ds.getD j Deed18.none))[i]? := fun i hi => by
      rw [Nat.zero_add, hc (j * 4 + i) (by omega), flat_get dcells 4 dcells_len ds j i hi, List.getElem?_eq_getElem hj, ej]
      rfl
    exact ⟨key 0 (by omega), key 1 (by omega), key 2 (by omega), key 3 (by omega)⟩

section
variable {H : Type} {enc : TypeId × Value → H} {W : World} {v : Value} {d : DataW H} {p : List MemPlace} {b0 : Nat}
set_option maxRecDepth 100000 in
theorem open_deeds18 (hv : Value.okWide Try.prog W .any b0 72 v) (h : DataW.Trod enc Try.prog W 0 (fun _ => true) true 72 v d p) :
    ∃ (A : Option Addr) (ds : List Deed18) (c : Nat), v = .slice A ds.length c ∧ Deeds18 W W.heap.size A ds ∧ (∀ d ∈ ds, d.ok W W.heap.size) ∧ ds.length ≤ 9223372036854775807 := by
  obtain ⟨A, n, c, rfl, hn, hi⟩ := open_structs Try.underlying72 Try.underlying74 (by kernel_rfl) (by kernel_rfl) (by decide) hv h
  rcases hi with h0 | ⟨b, off, rfl, hb, hi⟩
  · exact ⟨A, [], c, by rw [h0]; rfl, .inl rfl, by simp, by simp⟩
  · have key : ∀ j, j < n → ∃ d : Deed18, d.ok W W.heap.size ∧ DeedAt18 W b (off + j * 4) d := fun j hj => by
      obtain ⟨v0, n0, y0, c0, t0⟩ := hi j hj 0 _ rfl
      obtain ⟨v1, n1, y1, c1, t1⟩ := hi j hj 1 _ rfl
      obtain ⟨v2, n2, y2, c2, t2⟩ := hi j hj 2 _ rfl
      obtain ⟨v3, n3, y3, c3, t3⟩ := hi j hj 3 _ rfl
      obtain ⟨A', zs, c', rfl, hl, hz, hw, hcap⟩ := trod_ints Try.underlying63 Try.underlying3 (by kernel_rfl) t0
      obtain ⟨k, rfl, bk⟩ := trod_i64 Try.underlying3 t1
      obtain ⟨ns, rfl, bn⟩ := trod_i64 Try.underlying2 t2
      obtain ⟨go, rfl⟩ := trod_b Try.underlying4 t3
      refine ⟨⟨A', zs, c', k, ns, go⟩, ⟨bk.1, bk.2, bn.1, bn.2, hz, hw, hl, hcap⟩, c0, ?_, ?_, ?_⟩
      · rw [Nat.add_assoc]; exact c1
      · rw [Nat.add_assoc]; exact c2
      · rw [Nat.add_assoc]; exact c3
    obtain ⟨f, hf1, hf2⟩ := pick_fn Deed18.none key
    have hlen : ((List.range n).map f).length = n := by simp
    refine ⟨_, (List.range n).map f, c, by rw [hlen], .inr ⟨b, off, rfl, hb, fun j hj => ?_⟩, fun d hd => ?_, by rw [hlen]; exact hn⟩
    · rw [hlen] at hj
      have e : ((List.range n).map f).getD j Deed18.none = f j := by rw [List.getD_eq_getElem?_getD]; simp [hj]
      rw [e]
      exact (hf1 j hj).2
    · obtain ⟨j, hj, rfl⟩ := List.mem_map.1 hd
      exact (hf1 j (List.mem_range.1 hj)).1
end

theorem info18 : (Try.prog.info? 74).map (fun i => (i.zero, i.size, i.bytes)) = some (some (.agg #[.slice none 0 0, .int .i64 0, .int .i64 0, .bool false]), 4, 48) := by kernel_rfl

/-- at most 60 of them, with short paths -/
def fewL (ds : List Deed18) : List Deed18 := (ds.take 60).filter fun d => decide (d.zs.length ≤ 20)
def fewK (ds : List Deed18) (k : Nat) : List Deed18 := (ds.take k).filter fun d => decide (d.zs.length ≤ 20)
theorem fewK_len (ds : List Deed18) (k : Nat) : (fewK ds k).length ≤ k := Nat.le_trans (List.length_filter_le _ _) (by rw [List.length_take]; omega)
theorem fewK_zero (ds : List Deed18) : fewK ds 0 = [] := by simp [fewK]
theorem fewK_succ (ds : List Deed18) (k : Nat) (hk : k < ds.length) : fewK ds (k + 1) = fewK ds k ++ (if (ds.getD k Deed18.none).zs.length ≤ 20 then [ds.getD k Deed18.none] else []) := by
  have e : ds.getD k Deed18.none = ds[k] := by rw [List.getD_eq_getElem?_getD, List.getElem?_eq_getElem hk]; rfl
  unfold fewK
  rw [e, ← List.take_append_getElem hk, List.filter_append]
  by_cases h : ds[k].zs.length ≤ 20 <;> simp [h]
theorem fewK_all (ds : List Deed18) (k : Nat) (hk : k ≤ ds.length) (h : k = ds.length ∨ k = 60) (h60 : k ≤ 60) : fewK ds k = fewL ds := by
  unfold fewK fewL
  congr 1
  rcases h with rfl | rfl
  · rw [List.take_length, List.take_of_length_le h60]
  · rfl
theorem fewL_mem {ds : List Deed18} {d : Deed18} (h : d ∈ fewL ds) : d ∈ ds ∧ d.zs.length ≤ 20 := by
  obtain ⟨h1, h2⟩ := List.mem_filter.1 h
  exact ⟨List.mem_of_mem_take h1, by simpa using h2⟩
theorem fewL_len (ds : List Deed18) : (fewL ds).length ≤ 60 := fewK_len ds 60

set_option maxRecDepth 100000 in
set_option maxHeartbeats 2000000 in
theorem few_any (A : Option Addr) (ds : List Deed18) (c : Nat) (w : World) (hA : Deeds18 w w.heap.size A ds) (hn : ds.length ≤ 9223372036854775807) (hok : ∀ d ∈ ds, d.zs.length ≤ 9223372036854775807) :
    Calls Try.prog 48 #[.slice A ds.length c] w fun e w' => ∃ v, e = .returned v ∧ w'.ownsRow w.heap.size 74 4 v (fewL ds).length ((fewL ds).flatMap dcells) ∧ Below w.heap.size w w' := by
  obtain ⟨i0, hi, iz0, iz1, iz2⟩ := info_parts info18
  obtain ⟨n, hnx⟩ : ∃ n, n = ds.length := ⟨_, rfl⟩
  rw [← hnx]
  rw [← hnx] at hn
  have HN := Lib.hid hnx
  have HOK := Lib.hid hok
  clear hnx hok
  go_enter Try.func48, Try.ntmps48
  go_wp2_with fail
  go_loopw [3, 4] (fun v s4 wr => ∃ k : Nat, k ≤ n ∧ k ≤ 60 ∧ s4 = .int .i64 k ∧ wr.ownsRow w.heap.size 74 4 v (fewK ds k).length ((fewK ds k).flatMap dcells) ∧ Below w.heap.size w wr) (fun _ s4 _ => n - (intOf s4).toNat)
  case atStart => exact ⟨0, by omega, by omega, rfl, by rw [fewK_zero]; exact World.ownsRow_nil _ _ _ _, Below.refl _ _⟩
  case round =>
    obtain ⟨k, hk, hk60, rfl, hown, hB⟩ := hrel
    have hzr := hB.size
    by_cases hgo : k < n ∧ k < 60
    · obtain ⟨hlt, h60⟩ := hgo
      have hkd : k < ds.length := by rw [← HN.out]; exact hlt
      obtain ⟨b, off, rfl, hbB, hat⟩ := hA.at_ (by omega)
      obtain ⟨d0, d1, d2, d3⟩ := (hat k hkd).below hB hbB
      have hsucc := fewK_succ ds k hkd
      have hl := fewK_len ds k
      have hdl : (ds.getD k Deed18.none).zs.length ≤ 9223372036854775807 := HOK.out _ (by rw [List.getD_eq_getElem?_getD, List.getElem?_eq_getElem hkd]; exact List.getElem_mem _)
      clear hat hA hkd
      generalize ds.getD k Deed18.none = d at *
      obtain ⟨a, zs, cc, task, ns, go⟩ := d
      dsimp only at d0 d1 d2 d3 hdl hsucc
      generalize hzl : zs.length = zl at *
      have z1 : decide ((k : Int) < (n : Int)) = true := decide_eq_true (by omega)
      have z2 : decide (k < n) = true := decide_eq_true hlt
      have z3 : decide ((k : Int) < 60) = true := decide_eq_true (by omega)
      have z4 : decide (k < 60) = true := decide_eq_true h60
      have j0 : (0 : Int) ≤ (k : Int) := Int.natCast_nonneg _
      have j1 : (k : Int) < (n : Int) := by omega
      by_cases hs : zl ≤ 20
      · rw [if_pos hs] at hsucc
        have q1 : decide ((zl : Int) ≤ 20) = true := decide_eq_true (by omega)
        have hcl : dcells ⟨a, zs, cc, task, ns, go⟩ = [.slice a zl cc, .int .i64 task, .int .i64 ns, .bool go] := by rw [← hzl]; rfl
        have HS := Lib.hid hsucc
        have HC := Lib.hid hcl
        clear hsucc hcl hzl
        generalize hFl : fewK ds k = F at *
        clear hFl
        go_wp2_with (at_builtin; refine wpList_append_own _ rfl _ _ 72 rfl w.heap.size 74 i0 _ 4 48 Try.underlying72 hi iz0 iz1 iz2 rfl (by decide) _ _ _ rfl (hown.alloc _) ⟨wr.heap.size, 0, none⟩ 1 1 [.slice a zl cc, .int .i64 task, .int .i64 ns, .bool go] rfl rfl (cell_four_new _ _ _ _ _ _) (by simp [Value.oneCell']) (by unfold maxLen; omega) (by omega) (by simp; omega) ?_; intro v' w2 hown2 hgrow _)
        have hB2 : Below w.heap.size w w2 := (hB.alloc (by omega) _).grown hgrow (by simp; omega) (fun j hj => (hown.lt j hj).1)
        go_roundw
        case rel => exact ⟨k + 1, by omega, by omega, by go_num, by rw [HS.out, List.flatMap_append, List.length_append]; simpa [HC.out] using hown2, hB2⟩
        case measure => simp [intOf]; omega
      · rw [if_neg hs, List.append_nil] at hsucc
        have q1 : decide ((zl : Int) ≤ 20) = false := decide_eq_false (by omega)
        have HS := Lib.hid hsucc
        have HO := Lib.hid hown
        clear hsucc hown
        go_wp2_with fail
        go_roundw
        case rel => exact ⟨k + 1, by omega, by omega, by go_num, by rw [HS.out]; exact HO.out, hB⟩
        case measure => simp [intOf]; omega
    · have hex : (decide ((k : Int) < (n : Int)) = true ∧ decide (k < n) = true ∧ decide ((k : Int) < 60) = false) ∨ (decide ((k : Int) < (n : Int)) = false ∧ decide (k < n) = false) := by
        by_cases hlt : k < n
        · exact .inl ⟨decide_eq_true (by omega), decide_eq_true hlt, decide_eq_false (by omega)⟩
        · exact .inr ⟨decide_eq_false (by omega), decide_eq_false hlt⟩
      have hall := fewK_all ds k (by rw [← HN.out]; exact hk) (by rw [← HN.out]; omega) hk60
      rw [hall] at hown
      clear hall
      rcases hex with ⟨z1, z2, z3⟩ | ⟨z1, z2⟩
      all_goals
        go_wp2_with fail
        go_ret
        exact ⟨_, rfl, hown, hB⟩

end Go.Proofs.Ytkemhcokkaanfaa
