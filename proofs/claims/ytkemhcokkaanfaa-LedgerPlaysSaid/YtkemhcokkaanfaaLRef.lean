/-
  doleref18: Total, Task, Group.
-/
import Derived.Test.YtkemhcokkaanfaaLed7
namespace Go.Proofs.Ytkemhcokkaanfaa
open Go.RowKit Go.Maps

/-- the time of those rows of which P holds -/
def sumIf (P : Deed18 → Bool) : List Deed18 → Int
  | [] => 0
  | d :: l => (if P d = true then d.ns else 0) + sumIf P l
theorem sumIf_append (P : Deed18 → Bool) : ∀ l m, sumIf P (l ++ m) = sumIf P l + sumIf P m
  | [], m => by simp [sumIf]
  | d :: l, m => by simp only [List.cons_append, sumIf, sumIf_append P l m]; omega
theorem sumIf_pos (P : Deed18 → Bool) : ∀ l : List Deed18, (∀ d ∈ l, 0 ≤ d.ns) → 0 ≤ sumIf P l
  | [], _ => by simp [sumIf]
  | d :: l, h => by
    have h1 := h d (by simp)
    have h2 := sumIf_pos P l (fun x hx => h x (by simp [hx]))
    simp only [sumIf]
    split <;> omega
theorem sumIf_le (P : Deed18 → Bool) : ∀ l : List Deed18, (∀ d ∈ l, 0 ≤ d.ns) → sumIf P l ≤ sumIf (fun _ => true) l
  | [], _ => by simp [sumIf]
  | d :: l, h => by
    have h1 := h d (by simp)
    have h2 := sumIf_le P l (fun x hx => h x (by simp [hx]))
    simp only [sumIf, if_true]
    split <;> omega
theorem sumIf_take (P : Deed18 → Bool) (R : List Deed18) (k : Nat) (hk : k < R.length) : sumIf P (R.take (k + 1)) = sumIf P (R.take k) + (if P (R.getD k Deed18.none) = true then (R.getD k Deed18.none).ns else 0) := by
  have e : R.getD k Deed18.none = R[k] := by rw [List.getD_eq_getElem?_getD, List.getElem?_eq_getElem hk]; rfl
  rw [e, ← List.take_append_getElem hk, sumIf_append]
  simp [sumIf]
theorem sumIf_take_le (P : Deed18 → Bool) (R : List Deed18) (h : ∀ d ∈ R, 0 ≤ d.ns) (k : Nat) : 0 ≤ sumIf P (R.take k) ∧ sumIf P (R.take k) ≤ sumIf (fun _ => true) R := by
  refine ⟨sumIf_pos P _ (fun d hd => h d (List.mem_of_mem_take hd)), ?_⟩
  have e : sumIf (fun _ => true) R = sumIf (fun _ => true) (R.take k ++ R.drop k) := by rw [List.take_append_drop]
  rw [e, sumIf_append]
  have h1 := sumIf_le P (R.take k) (fun d hd => h d (List.mem_of_mem_take hd))
  have h2 := sumIf_pos (fun _ => true) (R.drop k) (fun d hd => h d (List.mem_of_mem_drop hd))
  omega
abbrev totR (R : List Deed18) : Int := sumIf (fun _ => true) R
def isTask (k : Int) (d : Deed18) : Bool := d.task == k && !d.gone
def taskR (R : List Deed18) (k : Int) : Int := sumIf (isTask k) R
def isGroup (g : Int) (d : Deed18) : Bool := decide (g ∈ d.zs)
def groupR (R : List Deed18) (g : Int) : Int := sumIf (isGroup g) R

/-- rows that may be -/
structure RowsOk (w : World) (B : Nat) (R : List Deed18) : Prop where
  ok : ∀ d ∈ R, d.ok w B
  pos : ∀ d ∈ R, 0 ≤ d.ns
  top : totR R ≤ 9223372036854775807
theorem RowsOk.below {w w' : World} {B : Nat} {R : List Deed18} (h : RowsOk w B R) (k : Below B w w') : RowsOk w' B R := ⟨fun d hd => (h.ok d hd).below k, h.pos, h.top⟩
theorem Deeds18.mono {w : World} {B C : Nat} {A : Option Addr} {R : List Deed18} (h : Deeds18 w B A R) (hC : B ≤ C) : Deeds18 w C A R := by
  rcases h with h | ⟨b, off, e, h1, h2⟩
  · exact .inl h
  · exact .inr ⟨b, off, e, by omega, h2⟩
theorem row_mem {R : List Deed18} {k : Nat} (hk : k < R.length) : R.getD k Deed18.none ∈ R := by
  rw [List.getD_eq_getElem?_getD, List.getElem?_eq_getElem hk]; exact List.getElem_mem _

set_option maxRecDepth 100000 in
set_option maxHeartbeats 2000000 in
theorem rtotal_any (A : Option Addr) (R : List Deed18) (c : Nat) (w : World) (hR : Deeds18 w w.heap.size A R) (hn : R.length ≤ 1000) (hp : ∀ d ∈ R, 0 ≤ d.ns) (ht : totR R ≤ 9223372036854775807) :
    Calls Try.prog 56 #[.agg #[.slice A R.length c]] w fun e w' => e = .returned (.int .i64 (totR R)) ∧ Below w.heap.size w w' := by
  have HS := Lib.hid fun k (hk : k < R.length) => And.intro (sumIf_take (fun _ => true) R k hk) (And.intro (sumIf_take_le (fun _ => true) R hp (k + 1)) (And.intro (sumIf_take_le (fun _ => true) R hp k) (hp _ (row_mem hk))))
  have HA : Hid (sumIf (fun _ => true) (R.take R.length) = totR R) := Lib.hid (by rw [List.take_length])
  obtain ⟨n, hnx⟩ : ∃ n, n = R.length := ⟨_, rfl⟩
  rw [← hnx]
  rw [← hnx] at hn
  have HN := Lib.hid hnx
  obtain ⟨T, hT⟩ : ∃ T, T = totR R := ⟨_, rfl⟩
  rw [← hT]
  rw [← hT] at ht
  have HT := Lib.hid hT
  clear hnx hp hT
  go_enter Try.func56, Try.ntmps56
  go_wp2_with fail
  have hB0 : Below w.heap.size w (w.alloc (.cells #[.slice A n c] 81)) := (Below.refl _ _).alloc (Nat.le_refl _) _
  go_loop [3, 4] (fun s3 s4 => ∃ (k : Nat) (s : Int), k ≤ n ∧ s4 = .int .i64 k ∧ s3 = .int .i64 s ∧ Hid (s = sumIf (fun _ => true) (R.take k))) (fun _ s4 => n - (intOf s4).toNat)
  case atStart => exact ⟨0, 0, by omega, rfl, rfl, rfl⟩
  case round =>
    obtain ⟨k, s, hk, rfl, rfl, HSU⟩ := hrel
    by_cases hlt : k < n
    · have hkR : k < R.length := by rw [← HN.out]; exact hlt
      obtain ⟨b, off, rfl, hbB, hat⟩ := hR.at_ (by omega)
      obtain ⟨d0, d1, d2, d3⟩ := (hat k hkR).below hB0 hbB
      obtain ⟨e1, e2, e3, e4⟩ := HS.out k hkR
      rw [← HSU.out] at e1 e3
      simp only [if_true] at e1
      have htt : T = sumIf (fun _ => true) R := HT.out
      clear hat hR hkR d0 d1 d3
      generalize hd : R.getD k Deed18.none = d at *
      clear hd
      obtain ⟨s2, hs2⟩ : ∃ s2, s2 = s + d.ns := ⟨_, rfl⟩
      have e5 : IntKind.i64.wrap (s + d.ns) = s2 := by rw [IntKind.wrap_i64]; omega
      have HS2 : Hid (s2 = sumIf (fun _ => true) (R.take (k + 1))) := Lib.hid (by omega)
      have z1 : decide ((k : Int) < (n : Int)) = true := decide_eq_true (by omega)
      have z2 : decide (k < n) = true := decide_eq_true hlt
      have j0 : (0 : Int) ≤ (k : Int) := Int.natCast_nonneg _
      have j1 : (k : Int) < (n : Int) := by omega
      clear hs2 e1 e2 e3 e4 htt
      go_wp2_with fail
      go_round
      case rel => exact ⟨k + 1, s2, by omega, by go_num, rfl, HS2⟩
      case measure => simp [intOf]; omega
    · obtain rfl : k = n := by omega
      have z1 : decide ((k : Int) < (k : Int)) = false := decide_eq_false (by omega)
      obtain rfl : s = T := by rw [HSU.out, HT.out, ← HA.out, HN.out]
      clear hR
      go_wp2_with fail
      go_ret
      exact ⟨rfl, hB0⟩

set_option maxRecDepth 100000 in
set_option maxHeartbeats 2000000 in
theorem rtask_any (A : Option Addr) (R : List Deed18) (c : Nat) (x : Int) (w : World) (hR : Deeds18 w w.heap.size A R) (hn : R.length ≤ 1000) (hp : ∀ d ∈ R, 0 ≤ d.ns) (ht : totR R ≤ 9223372036854775807) :
    Calls Try.prog 53 #[.agg #[.slice A R.length c], .int .i64 x] w fun e w' => e = .returned (.int .i64 (taskR R x)) ∧ Below w.heap.size w w' := by
  have HS := Lib.hid fun k (hk : k < R.length) => And.intro (sumIf_take (isTask x) R k hk) (And.intro (sumIf_take_le (isTask x) R hp (k + 1)) (And.intro (sumIf_take_le (isTask x) R hp k) (hp _ (row_mem hk))))
  have HA : Hid (sumIf (isTask x) (R.take R.length) = taskR R x) := Lib.hid (by rw [List.take_length]; rfl)
  obtain ⟨n, hnx⟩ : ∃ n, n = R.length := ⟨_, rfl⟩
  rw [← hnx]
  rw [← hnx] at hn
  have HN := Lib.hid hnx
  obtain ⟨T, hT⟩ : ∃ T, T = taskR R x := ⟨_, rfl⟩
  rw [← hT]
  have HT := Lib.hid hT
  have HTT := Lib.hid ht
  clear hnx hp hT ht
  go_enter Try.func53, Try.ntmps53
  go_wp2_with fail
  have hB0 : Below w.heap.size w (w.alloc (.cells #[.slice A n c] 81)) := (Below.refl _ _).alloc (Nat.le_refl _) _
  go_loop [5, 6] (fun s3 s4 => ∃ (k : Nat) (s : Int), k ≤ n ∧ s4 = .int .i64 k ∧ s3 = .int .i64 s ∧ Hid (s = sumIf (isTask x) (R.take k))) (fun _ s4 => n - (intOf s4).toNat)
  case atStart => exact ⟨0, 0, by omega, rfl, rfl, rfl⟩
  case round =>
    obtain ⟨k, s, hk, rfl, rfl, HSU⟩ := hrel
    by_cases hlt : k < n
    · have hkR : k < R.length := by rw [← HN.out]; exact hlt
      obtain ⟨b, off, rfl, hbB, hat⟩ := hR.at_ (by omega)
      obtain ⟨d0, d1, d2, d3⟩ := (hat k hkR).below hB0 hbB
      obtain ⟨e1, e2, e3, e4⟩ := HS.out k hkR
      rw [← HSU.out] at e1 e3
      have htt : sumIf (fun _ => true) R ≤ 9223372036854775807 := HTT.out
      clear hat hR hkR d0
      generalize hd : R.getD k Deed18.none = d at *
      clear hd
      have z1 : decide ((k : Int) < (n : Int)) = true := decide_eq_true (by omega)
      have z2 : decide (k < n) = true := decide_eq_true hlt
      have j0 : (0 : Int) ≤ (k : Int) := Int.natCast_nonneg _
      have j1 : (k : Int) < (n : Int) := by omega
      obtain ⟨a', zs', c', tk, ns, gn⟩ := d
      dsimp only at d1 d2 d3 e1 e4
      by_cases hc : tk = x ∧ gn = false
      · obtain ⟨rfl, rfl⟩ := hc
        have q1 : (tk == tk) = true := by simp
        rw [if_pos (by simp [isTask])] at e1
        obtain ⟨s2, hs2⟩ : ∃ s2, s2 = s + ns := ⟨_, rfl⟩
        have e5 : IntKind.i64.wrap (s + ns) = s2 := by rw [IntKind.wrap_i64]; omega
        have HS2 : Hid (s2 = sumIf (isTask tk) (R.take (k + 1))) := Lib.hid (by omega)
        clear hs2 e1 e2 e3 e4 htt
        go_wp2_with fail
        go_round
        case rel => exact ⟨k + 1, s2, by omega, by go_num, rfl, HS2⟩
        case measure => simp [intOf]; omega
      · have hi : isTask x ⟨a', zs', c', tk, ns, gn⟩ = false := by
          unfold isTask
          by_cases h : tk = x
          · have : gn = true := by cases gn; exact absurd ⟨h, rfl⟩ hc; rfl
            simp [this]
          · simp [h]
        rw [if_neg (by rw [hi]; simp)] at e1
        have HS2 : Hid (s = sumIf (isTask x) (R.take (k + 1))) := Lib.hid (by omega)
        clear e1 e2 e3 e4 htt hi
        by_cases h : tk = x
        · obtain rfl : gn = true := by cases gn; exact absurd ⟨h, rfl⟩ hc; rfl
          have q1 : (tk == x) = true := by simp [h]
          clear hc h
          go_wp2_with fail
          go_round
          case rel => exact ⟨k + 1, s, by omega, by go_num, rfl, HS2⟩
          case measure => simp [intOf]; omega
        · have q1 : (tk == x) = false := by simp [h]
          clear hc h
          go_wp2_with fail
          go_round
          case rel => exact ⟨k + 1, s, by omega, by go_num, rfl, HS2⟩
          case measure => simp [intOf]; omega
    · obtain rfl : k = n := by omega
      have z1 : decide ((k : Int) < (k : Int)) = false := decide_eq_false (by omega)
      obtain rfl : s = T := by rw [HSU.out, HT.out, ← HA.out, HN.out]
      clear hR
      go_wp2_with fail
      go_ret
      exact ⟨rfl, hB0⟩

set_option maxRecDepth 100000 in
set_option maxHeartbeats 2000000 in
theorem rgroup_any (A : Option Addr) (R : List Deed18) (c : Nat) (x : Int) (w : World) (hR : Deeds18 w w.heap.size A R) (hn : R.length ≤ 1000) (hp : ∀ d ∈ R, 0 ≤ d.ns) (ht : totR R ≤ 9223372036854775807) (hok : ∀ d ∈ R, d.ok w w.heap.size) :
    Calls Try.prog 57 #[.agg #[.slice A R.length c], .int .i64 x] w fun e w' => e = .returned (.int .i64 (groupR R x)) ∧ Below w.heap.size w w' := by
  have HS := Lib.hid fun k (hk : k < R.length) => And.intro (sumIf_take (isGroup x) R k hk) (And.intro (sumIf_take_le (isGroup x) R hp (k + 1)) (And.intro (sumIf_take_le (isGroup x) R hp k) (And.intro (hp _ (row_mem hk)) (hok _ (row_mem hk)))))
  have HA : Hid (sumIf (isGroup x) (R.take R.length) = groupR R x) := Lib.hid (by rw [List.take_length]; rfl)
  obtain ⟨n, hnx⟩ : ∃ n, n = R.length := ⟨_, rfl⟩
  rw [← hnx]
  rw [← hnx] at hn
  have HN := Lib.hid hnx
  obtain ⟨T, hT⟩ : ∃ T, T = groupR R x := ⟨_, rfl⟩
  rw [← hT]
  have HT := Lib.hid hT
  have HTT := Lib.hid ht
  clear hnx hp hT ht hok
  go_enter Try.func57, Try.ntmps57
  go_wp2_with fail
  have hB0 : Below w.heap.size w (w.alloc (.cells #[.slice A n c] 81)) := (Below.refl _ _).alloc (Nat.le_refl _) _
  go_loop [5, 6] (fun s3 s4 => ∃ (k : Nat) (s : Int), k ≤ n ∧ s4 = .int .i64 k ∧ s3 = .int .i64 s ∧ Hid (s = sumIf (isGroup x) (R.take k))) (fun _ s4 => n - (intOf s4).toNat)
  case atStart => exact ⟨0, 0, by omega, rfl, rfl, rfl⟩
  case round =>
    obtain ⟨k, s, hk, rfl, rfl, HSU⟩ := hrel
    by_cases hlt : k < n
    · have hkR : k < R.length := by rw [← HN.out]; exact hlt
      obtain ⟨b, off, rfl, hbB, hat⟩ := hR.at_ (by omega)
      obtain ⟨d0, d1, d2, d3⟩ := (hat k hkR).below hB0 hbB
      obtain ⟨e1, e2, e3, e4, e6⟩ := HS.out k hkR
      rw [← HSU.out] at e1 e3
      have htt : sumIf (fun _ => true) R ≤ 9223372036854775807 := HTT.out
      clear hat hR hkR
      generalize hd : R.getD k Deed18.none = d at *
      clear hd
      have z1 : decide ((k : Int) < (n : Int)) = true := decide_eq_true (by omega)
      have z2 : decide (k < n) = true := decide_eq_true hlt
      have j0 : (0 : Int) ≤ (k : Int) := Int.natCast_nonneg _
      have j1 : (k : Int) < (n : Int) := by omega
      have MH := lhas_any (w.alloc (.cells #[.slice (some ⟨b, off, none⟩) n c] 81)) d.A d.zs d.c x ((e6.path.below hB0).mono (by simp)) e6.len
      by_cases hc : x ∈ d.zs
      · rw [decide_eq_true hc] at MH
        rw [if_pos (by simp [isGroup, hc])] at e1
        obtain ⟨s2, hs2⟩ : ∃ s2, s2 = s + d.ns := ⟨_, rfl⟩
        have e5 : IntKind.i64.wrap (s + d.ns) = s2 := by rw [IntKind.wrap_i64]; omega
        have HS2 : Hid (s2 = sumIf (isGroup x) (R.take (k + 1))) := Lib.hid (by omega)
        replace MH := Lib.hid MH
        clear hs2 e1 e2 e3 e4 htt e6 hc
        go_wp2_with fail
        refine MH.out.mono ?_
        rintro e w7 ⟨rfl, rfl⟩
        go_wp2_with fail
        go_round
        case rel => exact ⟨k + 1, s2, by omega, by go_num, rfl, HS2⟩
        case measure => simp [intOf]; omega
      · rw [decide_eq_false hc] at MH
        rw [if_neg (by simp [isGroup, hc])] at e1
        have HS2 : Hid (s = sumIf (isGroup x) (R.take (k + 1))) := Lib.hid (by omega)
        replace MH := Lib.hid MH
        clear e1 e2 e3 e4 htt e6 hc
        go_wp2_with fail
        refine MH.out.mono ?_
        rintro e w7 ⟨rfl, rfl⟩
        go_wp2_with fail
        go_round
        case rel => exact ⟨k + 1, s, by omega, by go_num, rfl, HS2⟩
        case measure => simp [intOf]; omega
    · obtain rfl : k = n := by omega
      have z1 : decide ((k : Int) < (k : Int)) = false := decide_eq_false (by omega)
      obtain rfl : s = T := by rw [HSU.out, HT.out, ← HA.out, HN.out]
      clear hR
      go_wp2_with fail
      go_ret
      exact ⟨rfl, hB0⟩

end Go.Proofs.Ytkemhcokkaanfaa
