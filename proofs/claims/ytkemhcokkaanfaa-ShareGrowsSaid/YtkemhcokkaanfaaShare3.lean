/-
  share.each, Split: a slice of the call's own, filled by a closure.
-/
import Derived.Test.YtkemhcokkaanfaaShare2
import Derived.Laws.AppendOwn
namespace Go.Proofs.Ytkemhcokkaanfaa
open Go.RowKit

theorem infoW : (Try.prog.info? 22).map (fun i => (i.zero, i.size, i.bytes)) = some (some (.int .u64 0), 1, 8) := by kernel_rfl

theorem grown_of_below {w w' : World} (h : Below w.heap.size w w') (row : Option Nat) : w.grownBy w' row := ⟨h.os, h.tape, h.output, h.size, fun i hi _ => h.block i hi⟩
theorem owns_below {w w' : World} {base : Nat} {e : TypeId} {size n : Nat} {v : Value} {xs : List Value} (h : w.ownsRow base e size v n xs) (hb : Below w.heap.size w w') : w'.ownsRow base e size v n xs :=
  h.kept (grown_of_below hb none) (by cases h1 : v.ownBlock with | none => exact .inl rfl | some k => exact .inr (by simp))

def wv (x : Nat) : Value := .int .u64 ((x : Nat) : Int)

set_option maxHeartbeats 400000 in
theorem tell_any (P Q s x all : Nat) (hs : s < 18446744073709551616) (hx : x < 18446744073709551616) (ha : all < 18446744073709551616) (w : World)
    (hP : w.cell? ⟨P, 0, none⟩ = some (.int .u64 s)) (hQ : w.cell? ⟨Q, 0, none⟩ = some (.int .u64 all)) :
    Calls Try.prog 78 #[.int .u64 x, .pointer (some ⟨P, 0, none⟩), .pointer (some ⟨Q, 0, none⟩)] w fun e w' => e = .returned (.int .u64 (wgtN s x all : Nat)) ∧ Below w.heap.size w w' := by
  have m1 := fun W => weight_any s x all hs hx ha W
  generalize wgtN s x all = R at *
  have M1 := Lib.hid m1
  clear m1
  go_enter Try.func78, Try.ntmps78
  go_wp2_with fail
  refine (M1.out _).mono ?_
  rintro e w1 ⟨rfl, hb1⟩
  have hz1 := hb1.size
  go_wp2_with fail
  go_ret
  have B1 := hb1
  exact ⟨rfl, B1⟩

/-- what has been told of the first k -/
def toldN (s all : Nat) (xs : List Nat) (k : Nat) : List Nat := (xs.take k).map fun x => wgtN s x all
theorem told_succ (s all : Nat) (xs : List Nat) (k : Nat) (hk : k < xs.length) : toldN s all xs (k + 1) = toldN s all xs k ++ [wgtN s (xs.getD k 0) all] := by
  unfold toldN
  rw [List.take_succ_eq_append_getElem hk, List.map_append]
  simp [List.getD, List.getElem?_eq_getElem hk]
theorem told_len (s all : Nat) (xs : List Nat) (k : Nat) (hk : k ≤ xs.length) : (toldN s all xs k).length = k := by
  unfold toldN; simp; omega

set_option maxRecDepth 100000 in
set_option maxHeartbeats 2000000 in
theorem each_any (w : World) (A : Option Addr) (xs : List Nat) (c P Q s all : Nat) (hA : U64s w w.heap.size A xs) (hx : Words xs) (hn : xs.length ≤ 100000)
    (hs : s < 18446744073709551616) (ha : all < 18446744073709551616) (hPl : P < w.heap.size) (hQl : Q < w.heap.size)
    (hP : w.cell? ⟨P, 0, none⟩ = some (.int .u64 s)) (hQ : w.cell? ⟨Q, 0, none⟩ = some (.int .u64 all)) :
    Calls Try.prog 77 #[.slice A xs.length c, .func (.func 78) #[] #[.pointer (some ⟨P, 0, none⟩), .pointer (some ⟨Q, 0, none⟩)]] w fun e w' =>
      ∃ v, e = .returned v ∧ w'.ownsRow w.heap.size 22 1 v xs.length ((toldN s all xs xs.length).map wv) ∧ Below w.heap.size w w' := by
  obtain ⟨i0, hi, iz0, iz1, iz2⟩ := info_parts infoW
  obtain ⟨n, hnx⟩ : ∃ n, n = xs.length := ⟨_, rfl⟩
  rw [← hnx]
  rw [← hnx] at hn
  have HL := Lib.hid hnx
  clear hnx
  go_enter Try.func77, Try.ntmps77
  go_wp2_with fail
  go_loopw [5, 10] (fun v i wr => ∃ k : Nat, k ≤ n ∧ i = .int .i64 k ∧ wr.ownsRow w.heap.size 22 1 v k ((toldN s all xs k).map wv) ∧ Below w.heap.size w wr) (fun _ i _ => n - (intOf i).toNat)
  case atStart => exact ⟨0, Nat.zero_le _, rfl, World.ownsRow_nil _ _ _ _, Below.refl _ _⟩
  case round =>
    obtain ⟨k, hk, rfl, hown, hB⟩ := hrel
    have hzr := hB.size
    by_cases hlt : k < n
    · have z1 : decide ((k : Int) < (n : Int)) = true := decide_eq_true (by omega)
      have z2 : decide (k < n) = true := decide_eq_true hlt
      have hl : k < xs.length := by rw [← HL.out]; exact hlt
      have hx1 := hx k hl
      have hts := told_succ s all xs k hl
      rcases hA with h0 | ⟨b, off, rfl, hbB, hc⟩
      · rw [h0] at hl; simp at hl
      · have hcell := (hB.cell (p := ⟨b, off + k, none⟩) hbB).trans (hc k hl)
        have hP1 := (hB.cell (p := ⟨P, 0, none⟩) hPl).trans hP
        have hQ1 := (hB.cell (p := ⟨Q, 0, none⟩) hQl).trans hQ
        clear hc hx hP hQ
        have M1 := Lib.hid (tell_any P Q s (xs.getD k 0) all hs hx1 ha wr hP1 hQ1)
        generalize xs.getD k 0 = x at *
        have TS := Lib.hid hts
        clear hts hl
        generalize wgtN s x all = r at *
        go_wp2_with fail
        refine M1.out.mono ?_
        rintro e w1 ⟨rfl, hb1⟩
        have hz1 := hb1.size
        have hown1 := owns_below hown hb1
        clear hown hP1 hQ1 M1
        go_wp2_with (at_builtin; refine wpList_append_own _ rfl _ _ 23 rfl w.heap.size 22 i0 (.int .u64 0) 1 8 Try.underlying23 hi iz0 iz1 iz2 rfl (by decide) _ _ _ rfl (hown1.alloc _) ⟨w1.heap.size, 0, none⟩ 1 1 [.int .u64 r] rfl rfl ?c1 ?c2 ?c3 ?c4 ?c5 ?_)
        case c1 =>
          intro j u hj
          match j, hj with
          | 0, hj => simp at hj; subst hj; simp [Addr.add]
        case c2 => intro u hu; simp at hu; subst hu; rfl
        case c3 => unfold maxLen; omega
        case c4 => omega
        case c5 => simp; omega
        intro v' w2 hown' hgrow _
        have hB2 : Below w.heap.size w w2 := ((hB.trans (hb1.mono hzr)).alloc (by omega) _).grown hgrow (by simp; omega) (fun j hj => (hown1.lt j hj).1)
        have hown2 : w2.ownsRow w.heap.size 22 1 v' (k + 1) ((toldN s all xs (k + 1)).map wv) := by
          rw [TS.out, List.map_append]
          exact hown'
        clear hown' hgrow hown1 hb1
        go_wp2_with fail
        go_roundw
        case rel => exact ⟨k + 1, by omega, by go_num, hown2, hB2⟩
        case measure => simp [intOf]; omega
    · obtain rfl : k = n := by omega
      have z1 : decide ((k : Int) < (k : Int)) = false := decide_eq_false (by omega)
      go_wp2_with fail
      go_ret
      exact ⟨_, rfl, hown, hB⟩

end Go.Proofs.Ytkemhcokkaanfaa
