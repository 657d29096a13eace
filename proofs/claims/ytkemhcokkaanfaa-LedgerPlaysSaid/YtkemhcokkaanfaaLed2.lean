/-
  ledger.Credit.
-/
import Derived.Test.YtkemhcokkaanfaaLed
namespace Go.Proofs.Ytkemhcokkaanfaa
open Go.RowKit Go.Maps

/-- each group on a path has so much more -/
def gAdd (g : Int → Int) (zs : List Int) (ns : Int) : Int → Int := fun x => if x ∈ zs then g x + ns else g x
theorem gAdd_nil (g : Int → Int) (ns : Int) : gAdd g [] ns = g := by funext x; simp [gAdd]
theorem gAdd_snoc (g : Int → Int) (zs : List Int) (z ns : Int) (h : z ∉ zs) : gAdd g (zs ++ [z]) ns = upd (gAdd g zs ns) z (gAdd g zs ns z + ns) := by
  funext x
  unfold gAdd upd
  by_cases e : x = z
  · subst e; simp [h]
  · simp [e]
theorem gAdd_not (g : Int → Int) (zs : List Int) (z ns : Int) (h : z ∉ zs) : gAdd g zs ns z = g z := if_neg h

/-- the path's numbers lie elsewhere than the book -/
def PathAt (w : World) (p : Nat) (A : Option Addr) (zs : List Int) : Prop :=
  zs = [] ∨ ∃ b off : Nat, A = some ⟨b, off, none⟩ ∧ b < w.heap.size ∧ b ≠ p ∧ ∀ j, j < zs.length → w.cell? ⟨b, off + j, none⟩ = some (.int .i64 (zs.getD j 0))
theorem PathAt.ints {w : World} {p : Nat} {A : Option Addr} {zs : List Int} (h : PathAt w p A zs) : IntsAt w w.heap.size A zs := by
  rcases h with h | ⟨b, off, e, hb, _, hc⟩
  · exact .inl h
  · exact .inr ⟨b, off, e, hb, hc⟩
theorem PathAt.below {w w' : World} {p : Nat} {A : Option Addr} {zs : List Int} (h : PathAt w p A zs) (k : Below w.heap.size w w') : PathAt w' p A zs := by
  rcases h with h | ⟨b, off, e, hb, hp, hc⟩
  · exact .inl h
  · exact .inr ⟨b, off, e, Nat.lt_of_lt_of_le hb k.size, hp, fun j hj => (k.cell (p := ⟨b, off + j, none⟩) hb).trans (hc j hj)⟩
theorem map_no_cell {w : World} {b n : Nat} {f : Int → Int} (k : MapF w b n f) (a : Addr) (h : a.block = b) : w.cell? a = none := by
  obtain ⟨D, ⟨es, clock, hb, r⟩, hf⟩ := k
  unfold World.cell?
  rw [h, hb]

def credArg (zs : List Int) (k ns : Int) : Bool := decide (ns < 0) || decide (k < 0) || !onceB zs

set_option maxRecDepth 100000 in
set_option maxHeartbeats 1000000 in
theorem credit_nil (A : Option Addr) (zs : List Int) (c : Nat) (k ns : Int) (w : World) :
    Calls Try.prog 40 #[.pointer none, .slice A zs.length c, .int .i64 k, .int .i64 ns] w fun e w' => e = .returned (.int .i64 1) ∧ w = w' := by
  generalize zs.length = n
  go_enter Try.func40, Try.ntmps40
  go_wp2_with fail
  all_goals first
    | (exact absurd (show some undef = some (Value.bool _) by assumption) (by simp [undef]))
    | (go_ret; exact ⟨rfl, rfl⟩)

set_option maxRecDepth 100000 in
set_option maxHeartbeats 1000000 in
theorem credit_arg {p bt bg nt ng : Nat} {t g : Int → Int} {tot : Int} (A : Option Addr) (zs : List Int) (c : Nat) (k ns : Int) (w : World) (_h : BookAt w p bt bg nt ng t g tot) (hp : PathAt w p A zs) (hreach : zs.length ≤ 1000) (hbad : credArg zs k ns = true) :
    Calls Try.prog 40 #[.pointer (some ⟨p, 0, none⟩), .slice A zs.length c, .int .i64 k, .int .i64 ns] w fun e w' => e = .returned (.int .i64 1) ∧ Below w.heap.size w w' := by
  have M := Lib.hid (once_any A zs c (by omega) w hp.ints)
  unfold credArg at hbad
  clear hp _h hreach
  generalize zs.length = n at *
  generalize onceB zs = R at *
  by_cases h1 : ns < 0
  · have t1 : decide (ns < 0) = true := decide_eq_true h1
    clear hbad
    go_enter Try.func40, Try.ntmps40
    go_wp2_with fail
    all_goals first
      | (exact absurd (show some undef = some (Value.bool _) by assumption) (by simp [undef]))
      | (go_ret; exact ⟨rfl, Below.refl _ _⟩)
  · have t1 : decide (ns < 0) = false := decide_eq_false h1
    by_cases h2 : k < 0
    · have t2 : decide (k < 0) = true := decide_eq_true h2
      clear hbad
      go_enter Try.func40, Try.ntmps40
      go_wp2_with fail
      all_goals first
        | (exact absurd (show some undef = some (Value.bool _) by assumption) (by simp [undef]))
        | (go_ret; exact ⟨rfl, Below.refl _ _⟩)
    · have t2 : decide (k < 0) = false := decide_eq_false h2
      obtain rfl : R = false := by rw [t1, t2] at hbad; simpa using hbad
      clear hbad
      go_enter Try.func40, Try.ntmps40
      go_wp2_with (go_at_call 93; refine M.out.mono ?_; rintro e w' ⟨rfl, hb⟩)
      all_goals first
        | (exact absurd (show some undef = some (Value.bool _) by assumption) (by simp [undef]))
        | (go_ret; exact ⟨rfl, hb⟩)

set_option maxRecDepth 100000 in
set_option maxHeartbeats 1000000 in
theorem credit_full {p bt bg nt ng : Nat} {t g : Int → Int} {tot : Int} (A : Option Addr) (zs : List Int) (c : Nat) (k ns : Int) (w : World) (h : BookAt w p bt bg nt ng t g tot) (hp : PathAt w p A zs) (hreach : zs.length ≤ 1000) (hok : credArg zs k ns = false) (hfull : 9223372036854775807 - tot < ns) :
    Calls Try.prog 40 #[.pointer (some ⟨p, 0, none⟩), .slice A zs.length c, .int .i64 k, .int .i64 ns] w fun e w' => e = .returned (.int .i64 3) ∧ Below w.heap.size w w' := by
  have M := Lib.hid (once_any A zs c (by omega) w hp.ints)
  unfold credArg at hok
  simp only [Bool.or_eq_false_iff, Bool.not_eq_false'] at hok
  obtain ⟨⟨t1, t2⟩, t3⟩ := hok
  rw [t3] at M
  have H := Lib.hid fun w' (hb : Below w.heap.size w w') => (h.below hb (Nat.le_refl _)).cells
  have hb0 := h.b0
  have hb1 := h.b1
  have t4 : decide (9223372036854775807 - tot < ns) = true := decide_eq_true hfull
  clear hp h hreach t3
  generalize zs.length = n at *
  go_enter Try.func40, Try.ntmps40
  go_wp2_with (go_at_call 93; refine M.out.mono ?_; rintro e w' ⟨rfl, hb⟩; obtain ⟨c0, c1, c2, cf⟩ := H.out w' hb)
  go_ret
  exact ⟨rfl, hb⟩

end Go.Proofs.Ytkemhcokkaanfaa
