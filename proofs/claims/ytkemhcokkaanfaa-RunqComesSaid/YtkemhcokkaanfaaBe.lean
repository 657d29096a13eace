/-
  The bench of chapter 8 in memory; renorm.Wake of small numbers; set, here, most.
-/
import Derived.Test.YtkemhcokkaanfaaLw8c
import Derived.Test.YtkemhcokkaanfaaWk2
namespace Go.Proofs.Ytkemhcokkaanfaa
open Go.RowKit Go.Maps

set_option maxRecDepth 100000 in
theorem fsub_yes (a b : Int) (ha1 : -4611686018427387903 ≤ a) (ha2 : a ≤ 4611686018427387903) (hb1 : -4611686018427387903 ≤ b) (hb2 : b ≤ 4611686018427387903) (w : World) :
    Calls Try.prog 142 #[.int .i64 a, .int .i64 b] w fun e w' => e = .returned (.tuple #[.int .i64 (a - b), .bool true]) ∧ w = w' := by
  obtain ⟨n, hn⟩ : ∃ n, n = a - b := ⟨_, rfl⟩
  have e1 : a - b = n := hn.symm
  have e2 : IntKind.i64.wrap (a - b) = n := by rw [IntKind.wrap_i64]; omega
  have sg := signs b n a (by omega) (by omega) (by omega) (by omega) (by omega) (by omega)
  have sf : decide (bits .and .i64 (bits .xor .i64 a b) (bits .xor .i64 a n) < 0) = false := by
    have c1 : bits .xor .i64 a b = bits .xor .i64 b a := by rw [bits_xor, bits_xor, BitVec.xor_comm]
    have c2 : bits .xor .i64 a n = bits .xor .i64 n a := by rw [bits_xor, bits_xor, BitVec.xor_comm]
    rw [c1, c2, sg]
    by_cases p : a < 0 <;> by_cases q : b < 0 <;> by_cases r : n < 0 <;> simp [p, q, r] <;> omega
  rw [e1]
  clear sg hn
  go_enter Try.func142, Try.ntmps142
  go_wp2_with fail
  go_ret2
  exact ⟨rfl, rfl⟩
set_option maxRecDepth 100000 in
theorem fless_in (a b : Int) (ha1 : -4611686018427387903 ≤ a) (ha2 : a ≤ 4611686018427387903) (hb1 : -4611686018427387903 ≤ b) (hb2 : b ≤ 4611686018427387903) (w : World) :
    Calls Try.prog 116 #[.int .i64 a, .int .i64 b] w fun e w' => e = .returned (.int .i64 (a - b)) ∧ Below w.heap.size w w' := by
  have hB0 : Below w.heap.size w (w.alloc (.cells #[.int .i64 b] 2)) := (Below.refl _ _).alloc (Nat.le_refl _) _
  have M1 := Lib.hid fun W => fsub_yes a b ha1 ha2 hb1 hb2 W
  generalize a - b = s at *
  go_enter Try.func116, Try.ntmps116
  go_wp2_with fail
  refine (M1.out _).mono ?_
  rintro e w' ⟨rfl, rfl⟩
  go_wp2_with fail
  refine (held_yes s _ _).mono ?_
  rintro e w' ⟨rfl, rfl⟩
  go_wp2_with fail
  go_ret
  exact ⟨rfl, hB0⟩
theorem wake_in (own mn c : Int) (h1 : -4611686018427387903 ≤ mn) (h2 : mn ≤ 4611686018427387903) (c0 : 0 ≤ c) (c1 : c ≤ 65535) (w : World) :
    Calls Try.prog 73 #[.int .i64 own, .int .i64 mn, .int .i64 c] w fun e w' => e = .returned (.int .i64 (max own (mn - c))) ∧ Below w.heap.size w w' := by
  have MH := Lib.hid fun W => fhold_any c 0 1099511627776 W
  rw [hold_id c0 c1] at MH
  have ML := Lib.hid fun W => fless_in mn c h1 h2 (by omega) (by omega) W
  generalize mn - c = s at *
  go_enter Try.func73, Try.ntmps73
  go_wp2_with (first
    | (go_at_call 117; refine (MH.out _).mono ?_; rintro e w' ⟨rfl, rfl⟩)
    | (go_at_call 116; refine (ML.out _).mono ?_; rintro e w' ⟨rfl, hb⟩))
  go_ret
  exact ⟨rfl, hb⟩

/-- a bench in memory -/
structure BenchAt (w : World) (p q : Nat) (own : Nat → En) (c g : Int) (t : Nat) : Prop where
  blk : ∃ cs, Blk w p cs 124 ∧ cs.size = 36
  q0 : w.cell? ⟨p, 0, none⟩ = some (.pointer (some ⟨q, 0, none⟩))
  own : ∀ i, i < 8 → EntAt w p (1 + i * 4) (own i)
  c0 : w.cell? ⟨p, 33, none⟩ = some (.int .i64 c)
  g0 : w.cell? ⟨p, 34, none⟩ = some (.int .i64 g)
  t0 : w.cell? ⟨p, 35, none⟩ = some (.int .u64 t)
section
variable {w w' : World} {p q : Nat} {own : Nat → En} {c g : Int} {t : Nat}
theorem BenchAt.lt (h : BenchAt w p q own c g t) : p < w.heap.size := by
  obtain ⟨cs, hb, _⟩ := h.blk
  exact hb.lt
theorem BenchAt.of (h : BenchAt w p q own c g t) (e : w'.heap[p]? = w.heap[p]?) : BenchAt w' p q own c g t := by
  have key : ∀ i, w'.cell? ⟨p, i, none⟩ = w.cell? ⟨p, i, none⟩ := fun i => by unfold World.cell?; rw [e]
  obtain ⟨cs, hb, hs⟩ := h.blk
  exact ⟨⟨cs, hb.of e, hs⟩, (key _).trans h.q0, fun i hi => EntAt.of (h.own i hi) e, (key _).trans h.c0, (key _).trans h.g0, (key _).trans h.t0⟩
theorem BenchAt.frozen (h : BenchAt w p q own c g t) : ∀ j, w.frozen? ⟨p, j, none⟩ = false := by
  obtain ⟨cs, hb, hs⟩ := h.blk
  exact Blk.frozen hb
theorem BenchAt.below (h : BenchAt w p q own c g t) (k : Below w.heap.size w w') : BenchAt w' p q own c g t := h.of (k.block p h.lt)
end

set_option maxRecDepth 100000 in
set_option maxHeartbeats 4000000 in
theorem most_any (p q : Nat) (own : Nat → En) (c g : Int) (t : Nat) (ht : t ≤ 65536) (w : World) (h : BenchAt w p q own c g t) :
    Calls Try.prog 74 #[.pointer (some ⟨p, 0, none⟩)] w fun e w' => e = .returned (.int .i64 ((16 * t : Nat) : Int)) ∧ w = w' := by
  have t0 := h.t0
  clear h
  go_enter Try.func74, Try.ntmps74
  go_wp2_with fail
  go_ret
  refine ⟨?_, rfl⟩
  show Ending.returned (.int .i64 ((1024 * (t : Int) + 63) / 64)) = _
  rw [show (1024 * (t : Int) + 63) / 64 = ((16 * t : Nat) : Int) by omega]

/-- does one of that number stand there? -/
theorem ents_ids {X : QS} (h : X.ok) (i : Int) : (∃ e, e ∈ X.ents ∧ e.id = i) ↔ ∃ e, X.get i = some e := by
  constructor
  · rintro ⟨e, he, rfl⟩
    obtain ⟨j, hj, hje⟩ := List.mem_iff_getElem.1 he
    obtain ⟨x, hx, _, hxe⟩ := h.ents_at (j := j) (by rw [← ents_len]; exact hj)
    rw [List.getElem?_eq_getElem hj, hje] at hxe
    injection hxe with hxe
    subst hxe
    exact ⟨e, h.get hx⟩
  · rintro ⟨e, hg⟩
    obtain ⟨he, rfl⟩ := QS.get_some hg
    have hm : e.key ∈ ksOf X.L := (ksOf_mem _ _).2 (List.mem_map.2 ⟨e, he, rfl⟩)
    obtain ⟨j, hj, hjk⟩ := List.mem_iff_getElem.1 hm
    obtain ⟨x, hx, hxk, hxe⟩ := h.ents_at hj
    rw [List.getElem?_eq_getElem hj, hjk] at hxk
    injection hxk with hxk
    have : e = x := En.same h.ids he hx (congrArg Prod.snd hxk)
    subst this
    exact ⟨e, List.mem_of_getElem? hxe, rfl⟩


set_option maxRecDepth 100000 in
set_option maxHeartbeats 8000000 in
theorem here_any {w0 : World} {X : QS} {K : Int} (p q : Nat) (own : Nat → En) (c g : Int) (t : Nat) (i : Int) (w : World) (h : BenchAt w p q own c g t) (hQ : QNew w0 w q X K) :
    Calls Try.prog 115 #[.pointer (some ⟨p, 0, none⟩), .int .i64 i] w fun e w' => e = .returned (.bool (X.get i).isSome) ∧ Below w.heap.size w w' := by
  have q0 := h.q0
  have ME := Lib.hid (qn_ents hQ)
  have hok := hQ.ok
  have HI := Lib.hid (ents_ids hok i)
  obtain ⟨bb, hbb⟩ : ∃ bb, bb = (X.get i).isSome := ⟨_, rfl⟩
  rw [← hbb]
  have HB := Lib.hid hbb
  generalize X.ents = es at *
  clear h hQ hbb hok
  go_enter Try.func115, Try.ntmps115
  go_wp2_with fail
  refine ME.out.mono ?_
  rintro r w1 ⟨v, rfl, hO⟩
  obtain ⟨A, cc, rfl, hrow, hlen⟩ := own_ents hO.out.1
  have HROW := Lib.hid hrow
  have HBW := Lib.hid hO.out.2.1
  obtain ⟨n, hn⟩ : ∃ n, n = es.length := ⟨_, rfl⟩
  rw [← hn] at hlen ⊢
  have HN := Lib.hid hn
  clear hO hrow hn ME
  go_wp2_with fail
  go_loopw [6] (fun s6 wr => ∃ k : Nat, k ≤ n ∧ s6 = .int .i64 k ∧ w1 = wr ∧ Hid (∀ j, j < k → (es.getD j En.nil).id ≠ i)) (fun s6 _ => n - (intOf s6).toNat)
  case atStart => exact ⟨0, by omega, rfl, rfl, fun j hj => absurd hj (by omega)⟩
  case round =>
    obtain ⟨k, hk, rfl, rfl, HNO⟩ := hrel
    by_cases hlt : k < n
    · have hk1 : k < es.length := by rw [← HN.out]; exact hlt
      obtain ⟨b, off, rfl, hb, hc⟩ := HROW.out.at_ (by omega)
      have x0 := (hc k hk1).1
      have hmem : es.getD k En.nil ∈ es := by rw [getD_at es hk1]; exact List.getElem_mem _
      clear hc
      obtain ⟨ei, hei⟩ : ∃ ei, ei = (es.getD k En.nil).id := ⟨_, rfl⟩
      rw [← hei] at x0
      have HEI := Lib.hid (And.intro hei hmem)
      clear hei hmem
      have z1 : decide ((k : Int) < (n : Int)) = true := decide_eq_true (by omega)
      have z2 : decide (k < n) = true := decide_eq_true hlt
      have j0 : (0 : Int) ≤ (k : Int) := Int.natCast_nonneg _
      have j1 : (k : Int) < (n : Int) := by omega
      by_cases hid : ei = i
      · have z3 : decide (ei = i) = true := decide_eq_true hid
        have z4 : (ei == i) = true := by rw [hid]; exact beq_self_eq_true _
        obtain rfl : bb = true := by
          obtain ⟨x, hx⟩ := HI.out.1 ⟨_, HEI.out.2, HEI.out.1.symm.trans hid⟩
          rw [HB.out, hx]; rfl
        have HID := Lib.hid hid
        clear hid
        go_wp2_with fail
        go_ret
        exact ⟨rfl, HBW.out⟩
      · have z3 : decide (ei = i) = false := decide_eq_false hid
        have z4 : (ei == i) = false := beq_eq_false_iff_ne.2 hid
        have HID := Lib.hid hid
        clear hid
        go_wp2_with fail
        go_roundw
        case rel => exact ⟨k + 1, by omega, by go_num, by first | rfl | trivial, fun j hj => by
          by_cases hjk : j = k
          · subst hjk; rw [← HEI.out.1]; exact HID.out
          · exact HNO.out j (by omega)⟩
        case measure => simp [intOf]; omega
    · obtain rfl : k = n := by omega
      have z1 : decide ((k : Int) < (k : Int)) = false := decide_eq_false (by omega)
      obtain rfl : bb = false := by
        rw [HB.out]
        cases hg : X.get i with
        | none => rfl
        | some x =>
          obtain ⟨e, he, hei⟩ := HI.out.2 ⟨x, hg⟩
          obtain ⟨j, hj, hje⟩ := List.mem_iff_getElem.1 he
          exact absurd (by rw [getD_at es hj, hje]; exact hei) (HNO.out j (by rw [HN.out]; exact hj))
      go_wp2_with fail
      go_ret
      exact ⟨rfl, HBW.out⟩

end Go.Proofs.Ytkemhcokkaanfaa
