/-
  doleref18: Tasks.
-/
import Derived.Test.YtkemhcokkaanfaaLRef4
namespace Go.Proofs.Ytkemhcokkaanfaa
open Go.RowKit Go.Maps

/-- put where it belongs -/
def putIn (L : List Int) (a : Nat) (t : Int) : List Int := L.take a ++ t :: L.drop a
theorem putIn_mem (L : List Int) (a : Nat) (t x : Int) : x ∈ putIn L a t ↔ x = t ∨ x ∈ L := by
  unfold putIn
  rw [List.mem_append, List.mem_cons]
  constructor
  · rintro (h | h | h)
    · exact .inr (List.mem_of_mem_take h)
    · exact .inl h
    · exact .inr (List.mem_of_mem_drop h)
  · rintro (h | h)
    · exact .inr (.inl h)
    · rw [← List.take_append_drop a L, List.mem_append] at h
      rcases h with h | h
      · exact .inl h
      · exact .inr (.inr h)
theorem putIn_up {L : List Int} (h : L.Pairwise (· < ·)) {a : Nat} {t : Int} (h1 : ∀ i, i < a → i < L.length → L.getD i 0 < t) (h2 : a < L.length → t < L.getD a 0) : (putIn L a t).Pairwise (· < ·) := by
  have g : ∀ j (hj : j < L.length), L.getD j 0 = L[j] := fun j hj => by rw [List.getD_eq_getElem?_getD, List.getElem?_eq_getElem hj]; rfl
  have hlo : ∀ x ∈ L.take a, x < t := fun x hx => by
    obtain ⟨i, hi, rfl⟩ := List.mem_iff_getElem.1 hx
    rw [List.length_take] at hi
    rw [List.getElem_take, ← g i (by omega)]
    exact h1 i (by omega) (by omega)
  have hhi : ∀ x ∈ L.drop a, t < x := fun x hx => by
    obtain ⟨i, hi, rfl⟩ := List.mem_iff_getElem.1 hx
    rw [List.length_drop] at hi
    rw [List.getElem_drop]
    have h3 := h2 (by omega)
    rw [g a (by omega)] at h3
    rcases Nat.eq_zero_or_pos i with rfl | hp
    · simpa using h3
    · rw [List.pairwise_iff_getElem] at h
      have := h a (a + i) (by omega) (by omega) (by omega)
      omega
  unfold putIn
  rw [List.pairwise_append, List.pairwise_cons]
  refine ⟨h.sublist (List.take_sublist _ _), ⟨hhi, h.sublist (List.drop_sublist _ _)⟩, fun x hx y hy => ?_⟩
  rcases List.mem_cons.1 hy with rfl | hy
  · exact hlo x hx
  · have := hlo x hx; have := hhi y hy; omega
theorem putIn_len (L : List Int) (a : Nat) (t : Int) (h : a ≤ L.length) : (putIn L a t).length = L.length + 1 := by
  unfold putIn
  rw [List.length_append, List.length_cons, List.length_take, List.length_drop]; omega

/-- those among the first rows that have something, rising -/
structure Some18 (R : List Deed18) (i : Nat) (L : List Int) : Prop where
  up : L.Pairwise (· < ·)
  mem : ∀ x, x ∈ L ↔ taskR R x ≠ 0 ∧ ∃ j, j < i ∧ j < R.length ∧ (R.getD j Deed18.none).task = x
theorem taskR_none (x : Int) : ∀ R : List Deed18, (∀ d ∈ R, d.task ≠ x) → taskR R x = 0
  | [], _ => rfl
  | d :: R, h => by
    have h1 := h d (by simp)
    have h2 := taskR_none x R (fun y hy => h y (by simp [hy]))
    unfold taskR at h2 ⊢
    simp only [sumIf]
    rw [if_neg (by simp [isTask, h1]), h2]; rfl
theorem Some18.all {R : List Deed18} {L : List Int} (h : Some18 R R.length L) : ∀ x, x ∈ L ↔ taskR R x ≠ 0 := fun x => by
  rw [h.mem]
  refine ⟨fun h => h.1, fun hx => ⟨hx, ?_⟩⟩
  by_cases e : ∀ d ∈ R, d.task ≠ x
  · exact absurd (taskR_none x R e) hx
  · have ⟨d, hd⟩ := Classical.not_forall.1 e
    have ⟨hm, ht⟩ := Classical.not_imp.1 hd
    obtain ⟨j, hj, rfl⟩ := List.mem_iff_getElem.1 hm
    exact ⟨j, hj, hj, by rw [List.getD_eq_getElem?_getD, List.getElem?_eq_getElem hj]; exact Classical.not_not.1 ht⟩
theorem Some18.skip {R : List Deed18} {i : Nat} {L : List Int} (h : Some18 R i L) (hs : taskR R (R.getD i Deed18.none).task = 0 ∨ (R.getD i Deed18.none).task ∈ L) : Some18 R (i + 1) L := by
  refine ⟨h.up, fun x => ?_⟩
  rw [h.mem]
  constructor
  · rintro ⟨h1, j, h2, h3, h4⟩
    exact ⟨h1, j, by omega, h3, h4⟩
  · rintro ⟨h1, j, h2, h3, h4⟩
    rcases Nat.lt_or_ge j i with h5 | h5
    · exact ⟨h1, j, h5, h3, h4⟩
    · obtain rfl : j = i := by omega
      rcases hs with hs | hs
      · rw [h4] at hs; exact absurd hs h1
      · rw [h4] at hs; exact (h.mem x).1 hs
theorem Some18.put {R : List Deed18} {i : Nat} {L : List Int} (h : Some18 R i L) (hi : i < R.length) (hs : taskR R (R.getD i Deed18.none).task ≠ 0) {a : Nat}
    (h1 : ∀ j, j < a → j < L.length → L.getD j 0 < (R.getD i Deed18.none).task) (h2 : a < L.length → (R.getD i Deed18.none).task < L.getD a 0) : Some18 R (i + 1) (putIn L a (R.getD i Deed18.none).task) := by
  refine ⟨putIn_up h.up h1 h2, fun x => ?_⟩
  rw [putIn_mem, h.mem]
  constructor
  · rintro (rfl | ⟨h3, j, h4, h5, h6⟩)
    · exact ⟨hs, i, by omega, hi, rfl⟩
    · exact ⟨h3, j, by omega, h5, h6⟩
  · rintro ⟨h3, j, h4, h5, h6⟩
    rcases Nat.lt_or_ge j i with h7 | h7
    · exact .inr ⟨h3, j, h7, h5, h6⟩
    · obtain rfl : j = i := by omega
      exact .inl h6.symm

/-- the list as it lies -/
def OutRow (w : World) (B : Nat) (A : Option Addr) (c : Nat) (L : List Int) : Prop :=
  (L = [] ∧ A = none ∧ c = 0) ∨ ∃ g, A = some ⟨g, 0, none⟩ ∧ B ≤ g ∧ g < w.heap.size ∧ L.length ≤ c ∧ 0 < L.length ∧ ∀ i, i < L.length → w.cell? ⟨g, i, none⟩ = some (.int .i64 (L.getD i 0))
theorem OutRow.below {w w' : World} {B : Nat} {A : Option Addr} {c : Nat} {L : List Int} (h : OutRow w B A c L) (k : Below w.heap.size w w') : OutRow w' B A c L := by
  rcases h with h | ⟨g, e, h1, h2, h3, h4, h5⟩
  · exact .inl h
  · exact .inr ⟨g, e, h1, Nat.lt_of_lt_of_le h2 k.size, h3, h4, fun i hi => (k.cell (p := ⟨g, i, none⟩) h2).trans (h5 i hi)⟩
theorem OutRow.ints {w : World} {B : Nat} {A : Option Addr} {c : Nat} {L : List Int} (h : OutRow w B A c L) : IntsAt w w.heap.size A L := by
  rcases h with h | ⟨g, e, h1, h2, h3, h4, h5⟩
  · exact .inl h.1
  · exact .inr ⟨g, 0, e, h2, fun i hi => by rw [Nat.zero_add]; exact h5 i hi⟩
theorem own_outRow {w : World} {B : Nat} {v : Value} {L : List Int} {e : TypeId} (h : w.ownsRow B e 1 v L.length (L.map zv)) (hp : 0 < L.length) : ∃ A c, v = .slice A L.length c ∧ OutRow w B A c L := by
  rcases h.2 with ⟨_, hz⟩ | ⟨g, cap, cur, rfl, hbase, hgb, r1, r2, r3, r4⟩
  · omega
  · refine ⟨_, cap, rfl, .inr ⟨g, rfl, hbase, (Array.getElem?_eq_some_iff.1 hgb).1, r1, hp, fun i hi => ?_⟩⟩
    have e1 : w.cell? ⟨g, i, none⟩ = cur[i]? := by simp [World.cell?, hgb]
    have e2 : (cur.toList.take (L.length * 1))[i]? = (L.map zv)[i]? := by rw [r4]
    rw [List.getElem?_take_of_lt (by omega), Array.getElem?_toList] at e2
    rw [e1, e2]
    simp [hi]

theorem put_end {w8 : World} {B B5 : Nat} {v3 : Value} {L : List Int} {a m q : Nat} {t : Int} (hm : m = L.length) (ha : a ≤ m) (hq : q = m - a) (h : w8.ownsRow B5 3 1 v3 (0 + a + 1 + q) (([] ++ (L.take a).map zv ++ [.int .i64 t]) ++ (L.drop a).map zv)) (hB : B ≤ B5) :
    ∃ A c, v3 = .slice A (m + 1) c ∧ OutRow w8 B A c (putIn L a t) := by
  have hl := putIn_len L a t (by omega)
  have e : 0 + a + 1 + q = (putIn L a t).length := by omega
  have ex : ([] ++ (L.take a).map zv ++ [.int .i64 t]) ++ (L.drop a).map zv = (putIn L a t).map zv := by simp [putIn, zv]
  rw [e, ex] at h
  obtain ⟨A, c, rfl, hO⟩ := own_outRow h (by omega)
  refine ⟨A, c, by rw [hl, hm], ?_⟩
  rcases hO with h | ⟨g, e, h1, h2⟩
  · exact .inl h
  · exact .inr ⟨g, e, by omega, h2⟩
theorem ints_src {w W : World} {g m : Nat} {L : List Int} (hm : m = L.length) (hc : ∀ i, i < L.length → w.cell? ⟨g, i, none⟩ = some (.int .i64 (L.getD i 0))) (hg : g < w.heap.size) (hW : Below w.heap.size w W) (a : Nat) (ha : a ≤ m) :
    (∀ j u, ((L.take a).map zv)[j]? = some u → W.cell? ((⟨g, 0, none⟩ : Addr).add j) = some u) ∧ (∀ j u, ((L.drop a).map zv)[j]? = some u → W.cell? ((⟨g, a, none⟩ : Addr).add j) = some u) := by
  have key : ∀ i, i < L.length → W.cell? ⟨g, i, none⟩ = some (.int .i64 (L.getD i 0)) := fun i hi => (hW.cell (p := ⟨g, i, none⟩) hg).trans (hc i hi)
  have hadd : ∀ o j, (⟨g, o, none⟩ : Addr).add j = ⟨g, o + j, none⟩ := fun o j => by
    rcases Nat.eq_zero_or_pos j with rfl | h
    · simp [Addr.add]
    · simp [Addr.add]; omega
  constructor
  · intro j u hu
    have hj := (List.getElem?_eq_some_iff.1 hu).1
    simp at hj
    rw [hadd, Nat.zero_add, key j (by omega), ← hu]
    simp [List.getElem?_take_of_lt (show j < a by omega), List.getElem?_eq_getElem (show j < L.length by omega), zv]
  · intro j u hu
    have hj := (List.getElem?_eq_some_iff.1 hu).1
    simp at hj
    rw [hadd, key (a + j) (by omega), ← hu]
    simp [List.getElem?_eq_getElem (show a + j < L.length by omega), zv]
theorem map_one (L : List Int) : ∀ u ∈ L.map zv, u.oneCell' = true := by
  intro u hu
  obtain ⟨x, _, rfl⟩ := List.mem_map.1 hu
  rfl

set_option maxRecDepth 100000 in
set_option maxHeartbeats 4000000 in
theorem rtasks_any (A : Option Addr) (R : List Deed18) (c : Nat) (w : World) (hR : RowsIn w w.heap.size A R.length c (R.flatMap dcells)) (hn : R.length ≤ 900) (hp : ∀ d ∈ R, 0 ≤ d.ns) (ht : totR R ≤ 9223372036854775807) :
    Calls Try.prog 58 #[bookV A R.length c] w fun e w' => ∃ (A2 : Option Addr) (L : List Int) (c2 : Nat), e = .returned (.slice A2 L.length c2) ∧ L.Pairwise (· < ·) ∧ (∀ x, x ∈ L ↔ taskR R x ≠ 0) ∧ L.length ≤ 900 ∧ IntsAt w' w'.heap.size A2 L ∧ Below w.heap.size w w' := by
  obtain ⟨i0, hi, iz0, iz1, iz2⟩ := info_parts infoI
  have HD := Lib.hid hR.deeds
  have MT := Lib.hid fun x w' (hb : Below w.heap.size w w') => rtask_any A R c x w' ((hR.below hb).deeds.mono hb.size) (by omega) hp ht
  have hX0 : Blk (w.alloc (.cells #[.slice A R.length c] 81)) w.heap.size #[.slice A R.length c] 81 := Blk.new w _ _
  have hB0 : Below w.heap.size w (w.alloc (.cells #[.slice A R.length c] 81)) := (Below.refl _ _).alloc (Nat.le_refl _) _
  obtain ⟨n, hnR⟩ : ∃ n, n = R.length := ⟨_, rfl⟩
  rw [← hnR]
  rw [← hnR] at hn MT hX0 hB0
  have HN := Lib.hid hnR
  have HX := Lib.hid (And.intro hX0 hB0)
  clear hnR hR hX0 hB0 hp ht
  go_enter Try.func58, Try.ntmps58
  go_wp2_with fail
  obtain ⟨W0, hW0⟩ : ∃ W0, W0 = w.alloc (.cells #[.slice A n c] 81) := ⟨_, rfl⟩
  have HS0 : Hid (W0.heap.size = w.heap.size + 1) := Lib.hid (by rw [hW0]; simp)
  rw [← hW0] at HX ⊢
  clear hW0
  go_loopw [3, 4, 5, 6, 7] (fun v s4 _ _ _ wr => ∃ (j : Nat) (L : List Int) (A3 : Option Addr) (c3 : Nat), j ≤ n ∧ s4 = .int .i64 j ∧ L.length ≤ j ∧ v = .slice A3 L.length c3 ∧ Hid (Some18 R j L) ∧ Hid (OutRow wr (w.heap.size + 1) A3 c3 L) ∧ Below W0.heap.size W0 wr) (fun _ s4 _ _ _ _ => n - (intOf s4).toNat)
  case atStart => exact ⟨0, [], none, 0, by omega, rfl, by simp, rfl, Lib.hid ⟨List.Pairwise.nil, fun x => by simp⟩, Lib.hid (.inl ⟨rfl, rfl, rfl⟩), Below.refl _ _⟩
  case round =>
    obtain ⟨j, L, A3, c3, hj, rfl, hLj, rfl, HSM, HO, hBj⟩ := hrel
    have Y0 := HX.out.1.below hBj HX.out.1.lt
    have hBw : Below w.heap.size w wr := HX.out.2.trans (hBj.mono HX.out.2.size)
    have x0 : wr.cell? ⟨w.heap.size, 0, none⟩ = some (.slice A n c) := Blk.cell Y0 0
    have hw0 := Y0.lt
    have HY := Lib.hid Y0
    have HB := Lib.hid (And.intro hBj hBw)
    by_cases hlt : j < n
    · have hjR : j < R.length := by rw [← HN.out]; exact hlt
      rcases HD.out with h | ⟨b, off, rfl, hbB, hat⟩
      · rw [h] at hjR; simp at hjR
      obtain ⟨_, d1, _, _⟩ := (hat j hjR).below hBw hbB
      have HSK := Lib.hid (HSM.out.skip)
      have HPUT := Lib.hid fun (a : Nat) (h1) (h2) (h3) => HSM.out.put hjR h1 (a := a) h2 h3
      have z1 : decide ((j : Int) < (n : Int)) = true := decide_eq_true (by omega)
      have z2 : decide (j < n) = true := decide_eq_true hlt
      have j0 : (0 : Int) ≤ (j : Int) := Int.natCast_nonneg _
      have j1 : (j : Int) < (n : Int) := by omega
      clear hat hjR Y0 hBw hBj HSM
      generalize (R.getD j Deed18.none).task = t at *
      obtain ⟨m, hm⟩ : ∃ m, m = L.length := ⟨_, rfl⟩
      rw [← hm]
      rw [← hm] at hLj
      have HM := Lib.hid hm
      clear hm
      go_wp2_with fail
      refine (MT.out t wr HB.out.2).mono ?_
      rintro e w5 ⟨rfl, hb5⟩
      have O5 := HO.out.below hb5
      have hB5 : Below W0.heap.size W0 w5 := HB.out.1.trans (hb5.mono HB.out.1.size)
      have x5 : w5.cell? ⟨w.heap.size, 0, none⟩ = some (.slice (some ⟨b, off, none⟩) n c) := Blk.cell (HY.out.below hb5 hw0) 0
      have h55 := hB5.size
      have HB5 := Lib.hid (And.intro hB5 O5)
      clear x0 d1 hb5 O5 hB5
      by_cases h0 : taskR R t = 0
      · have q1 : (taskR R t == 0) = true := by simp [h0]
        have HSK2 := Lib.hid (HSK.out (.inl h0))
        clear h0
        generalize taskR R t = tv at *
        go_wp2_with fail
        go_roundw
        case rel => exact ⟨j + 1, L, A3, c3, by omega, by go_num, by rw [← HM.out]; omega, by rw [← HM.out], HSK2, Lib.hid HB5.out.2, HB5.out.1⟩
        case measure => simp [intOf]; omega
      · have q1 : (taskR R t == 0) = false := by simp [h0]
        have MH := lhas_any w5 A3 L c3 t HB5.out.2.ints (by rw [← HM.out]; omega)
        rw [← HM.out] at MH
        by_cases hin : t ∈ L
        · rw [decide_eq_true hin] at MH
          replace MH := Lib.hid MH
          have HSK2 := Lib.hid (HSK.out (.inr hin))
          clear h0 hin
          generalize taskR R t = tv at *
          go_wp2_with fail
          refine MH.out.mono ?_
          rintro e w6 ⟨rfl, rfl⟩
          go_wp2_with fail
          go_roundw
          case rel => exact ⟨j + 1, L, A3, c3, by omega, by go_num, by rw [← HM.out]; omega, by rw [← HM.out], HSK2, Lib.hid HB5.out.2, HB5.out.1⟩
          case measure => simp [intOf]; omega
        · rw [decide_eq_false hin] at MH
          replace MH := Lib.hid MH
          have HP2 := Lib.hid (fun a h1 h2 => HPUT.out a h0 h1 h2)
          have HIN := Lib.hid hin
          clear h0 hin
          generalize taskR R t = tv at *
          rcases HB5.out.2 with ⟨hL, rfl, rfl⟩ | ⟨g, rfl, hg1, hg2, hg3, hg4, hg5⟩
          · obtain rfl : m = 0 := by rw [HM.out, hL]; rfl
            have HP3 := Lib.hid (HP2.out 0 (fun i hi => by omega) (fun h => by rw [hL] at h; simp at h))
            go_wp2_with fail
            refine MH.out.mono ?_
            rintro e w6 ⟨rfl, rfl⟩
            go_wp2_with fail
            go_loop [6] (fun s6 => s6 = .int .i64 0) (fun _ => 0)
            case atStart => rfl
            case round =>
              obtain rfl := hrel
              have hown0 : (w5.alloc (.cells #[] 3)).ownsRow w5.heap.size 3 1 (.slice (some ⟨w5.heap.size, 0, none⟩) 0 0) 0 [] := ⟨rfl, .inr ⟨w5.heap.size, 0, #[], rfl, Nat.le_refl _, Blk.new w5 #[] _, by omega, by unfold maxLen; omega, rfl, rfl⟩⟩
              have HLN : Hid (((L.take 0).map zv).length = 0 * 1 ∧ ((L.drop 0).map zv).length = (0 - 0) * 1) := Lib.hid (by simp; have := HM.out; omega)
              have tok1 : True := trivial
              have tok2 : True := trivial
              go_wp2_with (first
                | (at_builtin; have _t := tok1; refine wpList_append_rows rfl _ _ 63 rfl w5.heap.size 3 i0 _ 1 8 Try.underlying63 hi iz0 iz1 iz2 rfl (by decide) _ 0 [] rfl hown0 none 0 0 ((L.take 0).map zv) rfl HLN.out.1 (.inl ⟨rfl, rfl, rfl⟩) (map_one _) (by unfold maxLen; omega) (by omega) (by simp) ?_; intro v1 w6 hown1 hgr1; clear tok1; have hB6 : Below w5.heap.size w5 w6 := ((Below.refl w5.heap.size w5).alloc (Nat.le_refl _) _).grown hgr1 (by simp) (fun b hb => by have e : w5.heap.size = b := (by injection hb); omega))
                | (at_builtin; have _t := tok2; refine wpList_append_own _ rfl _ _ 63 rfl w5.heap.size 3 i0 _ 1 8 Try.underlying63 hi iz0 iz1 iz2 rfl (by decide) _ _ _ rfl (hown1.alloc _) ⟨w6.heap.size, 0, none⟩ 1 1 [.int .i64 t] rfl rfl (cell_one_new _ _ _) (by simp [Value.oneCell']) (by unfold maxLen; omega) (by omega) (by have := hB6.size; simp; omega) ?_; intro v2 w7 hown2 hgr2 _; clear tok2; have hB7 : Below w5.heap.size w5 w7 := (hB6.alloc hB6.size _).grown hgr2 (by have := hB6.size; simp; omega) (fun b hb => (hown1.lt b hb).1))
                | (at_builtin; refine wpList_append_rows rfl _ _ 63 rfl w5.heap.size 3 i0 _ 1 8 Try.underlying63 hi iz0 iz1 iz2 rfl (by decide) _ _ _ rfl hown2 none 0 0 ((L.drop 0).map zv) rfl HLN.out.2 (.inl ⟨rfl, rfl, rfl⟩) (map_one _) (by unfold maxLen; omega) (by omega) hB7.size ?_; intro v3 w8 hown3 hgr3))
              have hB8 : Below w5.heap.size w5 w8 := hB7.grown hgr3 hB7.size (fun b hb => (hown2.lt b hb).1)
              obtain ⟨A8, c8, rfl, hO8⟩ := put_end HM.out (Nat.le_refl 0) (by omega) hown3 (show w.heap.size + 1 ≤ w5.heap.size by have := HS0.out; omega)
              have hpl := putIn_len L 0 t (by rw [← HM.out]; exact (Nat.le_refl 0))
              rw [← HM.out] at hpl
              have HPL := Lib.hid hpl
              clear hpl
              go_roundw
              case rel => exact ⟨j + 1, putIn L 0 t, A8, c8, by omega, by go_num, by rw [HPL.out]; omega, by rw [HPL.out], HP3, Lib.hid hO8, HB5.out.1.trans (hB8.mono h55)⟩
              case measure => simp [intOf]; omega
          · go_wp2_with fail
            refine MH.out.mono ?_
            rintro e w6 ⟨rfl, rfl⟩
            have hm3 : m ≤ c3 := by rw [HM.out]; exact hg3
            have hm4 : 0 < m := by rw [HM.out]; exact hg4
            have HG5 := Lib.hid hg5
            clear hg5
            go_wp2_with fail
            go_loop [6] (fun s6 => ∃ a : Nat, a ≤ m ∧ s6 = .int .i64 a ∧ Hid (∀ i, i < a → i < L.length → L.getD i 0 < t)) (fun s6 => m - (intOf s6).toNat)
            case atStart => exact ⟨0, by omega, rfl, Lib.hid fun i hi => by omega⟩
            case round =>
              obtain ⟨a, ha, rfl, HA⟩ := hrel
              have k0 : (0 : Int) ≤ (a : Int) := Int.natCast_nonneg _
              have k3 : (a : Int) ≤ (c3 : Int) := by omega
              have k4 : (a : Int) ≤ (m : Int) := by omega
              by_cases hla : a < m
              · have caL : a < L.length := by rw [← HM.out]; exact hla
                have ca := HG5.out a caL
                have k1 : (a : Int) < (m : Int) := by omega
                have y1 : decide ((a : Int) < (m : Int)) = true := decide_eq_true (by omega)
                have y2 : decide (a < m) = true := decide_eq_true hla
                have hne : L.getD a 0 ≠ t := fun e => HIN.out (by
                  rw [← e, List.getD_eq_getElem?_getD, List.getElem?_eq_getElem caL]; exact List.getElem_mem _)
                by_cases hlo : L.getD a 0 < t
                · have HA2 : Hid (∀ i, i < a + 1 → i < L.length → L.getD i 0 < t) := Lib.hid fun i hi1 hi2 => by
                    rcases Nat.lt_or_ge i a with h | h
                    · exact HA.out i h hi2
                    · obtain rfl : i = a := by omega
                      exact hlo
                  have y3 : decide (L.getD a 0 < t) = true := decide_eq_true hlo
                  clear hne hlo
                  generalize L.getD a 0 = y at *
                  go_wp2_with fail
                  go_round
                  case rel => exact ⟨a + 1, by omega, by go_num, HA2⟩
                  case measure => simp [intOf]; omega
                · have HP3 := Lib.hid (HP2.out a HA.out (fun _ => by omega))
                  have y3 : decide (L.getD a 0 < t) = false := decide_eq_false hlo
                  clear hne hlo
                  generalize L.getD a 0 = y at *
                  have kc : a < c3 := by omega
                  have hown0 : (w5.alloc (.cells #[] 3)).ownsRow w5.heap.size 3 1 (.slice (some ⟨w5.heap.size, 0, none⟩) 0 0) 0 [] := ⟨rfl, .inr ⟨w5.heap.size, 0, #[], rfl, Nat.le_refl _, Blk.new w5 #[] _, by omega, by unfold maxLen; omega, rfl, rfl⟩⟩
                  have HLN : Hid (((L.take a).map zv).length = a * 1 ∧ ((L.drop a).map zv).length = (m - a) * 1) := Lib.hid (by simp; have := HM.out; omega)
                  have tok1 : True := trivial
                  have tok2 : True := trivial
                  go_wp2_with (first
                    | (at_builtin; have _t := tok1; refine wpList_append_rows rfl _ _ 63 rfl w5.heap.size 3 i0 _ 1 8 Try.underlying63 hi iz0 iz1 iz2 rfl (by decide) _ 0 [] rfl hown0 (some ⟨g, 0, none⟩) a c3 ((L.take a).map zv) rfl HLN.out.1 (.inr ⟨_, rfl, (ints_src HM.out HG5.out hg2 ((Below.refl w5.heap.size w5).alloc (Nat.le_refl _) _) a ha).1⟩) (map_one _) (by unfold maxLen; omega) (by omega) (by simp) ?_; intro v1 w6 hown1 hgr1; clear tok1; have hB6 : Below w5.heap.size w5 w6 := ((Below.refl w5.heap.size w5).alloc (Nat.le_refl _) _).grown hgr1 (by simp) (fun b hb => by have e : w5.heap.size = b := (by injection hb); omega))
                    | (at_builtin; have _t := tok2; refine wpList_append_own _ rfl _ _ 63 rfl w5.heap.size 3 i0 _ 1 8 Try.underlying63 hi iz0 iz1 iz2 rfl (by decide) _ _ _ rfl (hown1.alloc _) ⟨w6.heap.size, 0, none⟩ 1 1 [.int .i64 t] rfl rfl (cell_one_new _ _ _) (by simp [Value.oneCell']) (by unfold maxLen; omega) (by omega) (by have := hB6.size; simp; omega) ?_; intro v2 w7 hown2 hgr2 _; clear tok2; have hB7 : Below w5.heap.size w5 w7 := (hB6.alloc hB6.size _).grown hgr2 (by have := hB6.size; simp; omega) (fun b hb => (hown1.lt b hb).1))
                    | (at_builtin; refine wpList_append_rows rfl _ _ 63 rfl w5.heap.size 3 i0 _ 1 8 Try.underlying63 hi iz0 iz1 iz2 rfl (by decide) _ _ _ rfl hown2 (some ⟨g, a, none⟩) (m - a) (c3 - a) ((L.drop a).map zv) rfl HLN.out.2 (.inr ⟨_, rfl, (ints_src HM.out HG5.out hg2 hB7 a ha).2⟩) (map_one _) (by unfold maxLen; omega) (by omega) hB7.size ?_; intro v3 w8 hown3 hgr3))
                  have hB8 : Below w5.heap.size w5 w8 := hB7.grown hgr3 hB7.size (fun b hb => (hown2.lt b hb).1)
                  obtain ⟨A8, c8, rfl, hO8⟩ := put_end HM.out ha (by omega) hown3 (show w.heap.size + 1 ≤ w5.heap.size by have := HS0.out; omega)
                  have hpl := putIn_len L a t (by rw [← HM.out]; exact ha)
                  rw [← HM.out] at hpl
                  have HPL := Lib.hid hpl
                  clear hpl
                  go_roundw
                  case rel => exact ⟨j + 1, putIn L a t, A8, c8, by omega, by go_num, by rw [HPL.out]; omega, by rw [HPL.out], HP3, Lib.hid hO8, HB5.out.1.trans (hB8.mono h55)⟩
                  case measure => simp [intOf]; omega
              · have HP3 := Lib.hid (HP2.out a HA.out (fun h => absurd (by rw [HM.out]; exact h) hla))
                have y1 : decide ((a : Int) < (m : Int)) = false := decide_eq_false (by omega)
                have y2 : decide (a < m) = false := decide_eq_false hla
                by_cases kc : a < c3
                · have kk : True := trivial
                  have hown0 : (w5.alloc (.cells #[] 3)).ownsRow w5.heap.size 3 1 (.slice (some ⟨w5.heap.size, 0, none⟩) 0 0) 0 [] := ⟨rfl, .inr ⟨w5.heap.size, 0, #[], rfl, Nat.le_refl _, Blk.new w5 #[] _, by omega, by unfold maxLen; omega, rfl, rfl⟩⟩
                  have HLN : Hid (((L.take a).map zv).length = a * 1 ∧ ((L.drop a).map zv).length = (m - a) * 1) := Lib.hid (by simp; have := HM.out; omega)
                  have tok1 : True := trivial
                  have tok2 : True := trivial
                  go_wp2_with (first
                    | (at_builtin; have _t := tok1; refine wpList_append_rows rfl _ _ 63 rfl w5.heap.size 3 i0 _ 1 8 Try.underlying63 hi iz0 iz1 iz2 rfl (by decide) _ 0 [] rfl hown0 (some ⟨g, 0, none⟩) a c3 ((L.take a).map zv) rfl HLN.out.1 (.inr ⟨_, rfl, (ints_src HM.out HG5.out hg2 ((Below.refl w5.heap.size w5).alloc (Nat.le_refl _) _) a ha).1⟩) (map_one _) (by unfold maxLen; omega) (by omega) (by simp) ?_; intro v1 w6 hown1 hgr1; clear tok1; have hB6 : Below w5.heap.size w5 w6 := ((Below.refl w5.heap.size w5).alloc (Nat.le_refl _) _).grown hgr1 (by simp) (fun b hb => by have e : w5.heap.size = b := (by injection hb); omega))
                    | (at_builtin; have _t := tok2; refine wpList_append_own _ rfl _ _ 63 rfl w5.heap.size 3 i0 _ 1 8 Try.underlying63 hi iz0 iz1 iz2 rfl (by decide) _ _ _ rfl (hown1.alloc _) ⟨w6.heap.size, 0, none⟩ 1 1 [.int .i64 t] rfl rfl (cell_one_new _ _ _) (by simp [Value.oneCell']) (by unfold maxLen; omega) (by omega) (by have := hB6.size; simp; omega) ?_; intro v2 w7 hown2 hgr2 _; clear tok2; have hB7 : Below w5.heap.size w5 w7 := (hB6.alloc hB6.size _).grown hgr2 (by have := hB6.size; simp; omega) (fun b hb => (hown1.lt b hb).1))
                    | (at_builtin; refine wpList_append_rows rfl _ _ 63 rfl w5.heap.size 3 i0 _ 1 8 Try.underlying63 hi iz0 iz1 iz2 rfl (by decide) _ _ _ rfl hown2 (some ⟨g, a, none⟩) (m - a) (c3 - a) ((L.drop a).map zv) rfl HLN.out.2 (.inr ⟨_, rfl, (ints_src HM.out HG5.out hg2 hB7 a ha).2⟩) (map_one _) (by unfold maxLen; omega) (by omega) hB7.size ?_; intro v3 w8 hown3 hgr3))
                  have hB8 : Below w5.heap.size w5 w8 := hB7.grown hgr3 hB7.size (fun b hb => (hown2.lt b hb).1)
                  obtain ⟨A8, c8, rfl, hO8⟩ := put_end HM.out ha (by omega) hown3 (show w.heap.size + 1 ≤ w5.heap.size by have := HS0.out; omega)
                  have hpl := putIn_len L a t (by rw [← HM.out]; exact ha)
                  rw [← HM.out] at hpl
                  have HPL := Lib.hid hpl
                  clear hpl
                  go_roundw
                  case rel => exact ⟨j + 1, putIn L a t, A8, c8, by omega, by go_num, by rw [HPL.out]; omega, by rw [HPL.out], HP3, Lib.hid hO8, HB5.out.1.trans (hB8.mono h55)⟩
                  case measure => simp [intOf]; omega
                · have kk : c3 = a := by omega
                  have k5 : ¬ a < c3 := kc
                  obtain rfl : c3 = a := kk
                  clear k5
                  have hown0 : (w5.alloc (.cells #[] 3)).ownsRow w5.heap.size 3 1 (.slice (some ⟨w5.heap.size, 0, none⟩) 0 0) 0 [] := ⟨rfl, .inr ⟨w5.heap.size, 0, #[], rfl, Nat.le_refl _, Blk.new w5 #[] _, by omega, by unfold maxLen; omega, rfl, rfl⟩⟩
                  have HLN : Hid (((L.take c3).map zv).length = c3 * 1 ∧ ((L.drop c3).map zv).length = (m - c3) * 1) := Lib.hid (by simp; have := HM.out; omega)
                  have tok1 : True := trivial
                  have tok2 : True := trivial
                  go_wp2_with (first
                    | (at_builtin; have _t := tok1; refine wpList_append_rows rfl _ _ 63 rfl w5.heap.size 3 i0 _ 1 8 Try.underlying63 hi iz0 iz1 iz2 rfl (by decide) _ 0 [] rfl hown0 (some ⟨g, 0, none⟩) c3 c3 ((L.take c3).map zv) rfl HLN.out.1 (.inr ⟨_, rfl, (ints_src HM.out HG5.out hg2 ((Below.refl w5.heap.size w5).alloc (Nat.le_refl _) _) c3 ha).1⟩) (map_one _) (by unfold maxLen; omega) (by omega) (by simp) ?_; intro v1 w6 hown1 hgr1; clear tok1; have hB6 : Below w5.heap.size w5 w6 := ((Below.refl w5.heap.size w5).alloc (Nat.le_refl _) _).grown hgr1 (by simp) (fun b hb => by have e : w5.heap.size = b := (by injection hb); omega))
                    | (at_builtin; have _t := tok2; refine wpList_append_own _ rfl _ _ 63 rfl w5.heap.size 3 i0 _ 1 8 Try.underlying63 hi iz0 iz1 iz2 rfl (by decide) _ _ _ rfl (hown1.alloc _) ⟨w6.heap.size, 0, none⟩ 1 1 [.int .i64 t] rfl rfl (cell_one_new _ _ _) (by simp [Value.oneCell']) (by unfold maxLen; omega) (by omega) (by have := hB6.size; simp; omega) ?_; intro v2 w7 hown2 hgr2 _; clear tok2; have hB7 : Below w5.heap.size w5 w7 := (hB6.alloc hB6.size _).grown hgr2 (by have := hB6.size; simp; omega) (fun b hb => (hown1.lt b hb).1))
                    | (at_builtin; refine wpList_append_rows rfl _ _ 63 rfl w5.heap.size 3 i0 _ 1 8 Try.underlying63 hi iz0 iz1 iz2 rfl (by decide) _ _ _ rfl hown2 (some ⟨g, 0, none⟩) 0 0 ((L.drop c3).map zv) rfl (by rw [HLN.out.2]; omega) (.inr ⟨_, rfl, fun j u hu => absurd hu (by rw [List.getElem?_eq_none (by rw [HLN.out.2]; omega)]; simp)⟩) (map_one _) (by unfold maxLen; omega) (by omega) hB7.size ?_; intro v3 w8 hown3 hgr3))
                  have hB8 : Below w5.heap.size w5 w8 := hB7.grown hgr3 hB7.size (fun b hb => (hown2.lt b hb).1)
                  obtain ⟨A8, c8, rfl, hO8⟩ := put_end HM.out ha (by omega) hown3 (show w.heap.size + 1 ≤ w5.heap.size by have := HS0.out; omega)
                  have hpl := putIn_len L c3 t (by rw [← HM.out]; exact ha)
                  rw [← HM.out] at hpl
                  have HPL := Lib.hid hpl
                  clear hpl
                  go_roundw
                  case rel => exact ⟨j + 1, putIn L c3 t, A8, c8, by omega, by go_num, by rw [HPL.out]; omega, by rw [HPL.out], HP3, Lib.hid hO8, HB5.out.1.trans (hB8.mono h55)⟩
                  case measure => simp [intOf]; omega
    · obtain rfl : j = n := by omega
      have z1 : decide ((j : Int) < (j : Int)) = false := decide_eq_false (by omega)
      have hS := HSM.out
      rw [HN.out] at hS
      have HE := Lib.hid (And.intro hS.up (And.intro hS.all (And.intro HO.out.ints hBw)))
      clear hS
      generalize hm : L.length = m at *
      have HM := Lib.hid hm
      clear hm
      go_wp2_with fail
      go_ret
      exact ⟨A3, L, c3, by rw [HM.out]; rfl, HE.out.1, HE.out.2.1, by rw [HM.out]; omega, HE.out.2.2.1, HE.out.2.2.2⟩

end Go.Proofs.Ytkemhcokkaanfaa
