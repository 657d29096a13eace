/-
  The tree of groups: Unlink, where no group is within that one.
  The tree of groups: is one group within another one, or it?
  The tree of groups: Move into what lies under it.
  The tree of groups: Move of a group in whose queue somebody stands.
  A chain of groups, each one within the one before, as data; what Move does, as data.
  renorm.Move at whatever numbers.
-/
import Derived.Test.YtefekboacghnjaaMt
import Derived.Test.YtefekboacghnjaaMj

namespace Go.Proofs.Ytefekboacghnjaa
open Go.RowKit Go.Maps

section
variable {w : World} {h : Nat} {gb qb : Nat → Nat} {Fq : Nat → List Nat} {S : HS} {K : Int}
/-- Unlink of a group within which no group is: busy, where a task stands in its queue -/
def unlinkI (x : Gr) : Int := if x.q.L = [] then 0 else 6
set_option maxRecDepth 100000 in
set_option maxHeartbeats 8000000 in
theorem hunlink_leaf (m : HMem w h gb qb Fq S K) {a : Nat} {x : Gr} (h0 : a ≠ 0) (ha : a < 32) (hg : S.G a = some x) (hok : x.q.ok) (hno : ∀ j y, S.G j = some y → y.up ≠ (a : Int)) :
    Calls Try.prog 31 #[.pointer (some ⟨h, 0, none⟩), .int .i64 (a : Int)] w fun e w' => e = .returned (.int .i64 (unlinkI x)) ∧ Hid (Turns [h] w w' ∧ (x.q.L ≠ [] → Below w.heap.size w w')) := by
  obtain ⟨cs, hcs⟩ : ∃ cs : List Value, cs = (List.range 32).map (gpV gb S) := ⟨_, rfl⟩
  have hlen : cs.length = 32 := by rw [hcs]; simp
  have hat : ∀ i, i < 32 → cs[i]? = some (gpV gb S i) := fun i hi => by rw [hcs]; simp [hi]
  have hrg : w.rangeAt h 2 cs := fun j v hv => by
    have hj : j < 32 := by
      rw [← hlen]
      exact (List.getElem?_eq_some_iff.1 hv).1
    rw [hat j hj] at hv
    rw [Blk.cell m.blk, hcells_at gb S hj]
    exact hv
  have hinf : (Try.prog.info? 117).map (·.size) = some cs.length := by rw [hlen]; rfl
  have HL := Lib.hid (And.intro hrg hinf)
  have HC := Lib.hid (And.intro hat m)
  have ML := Lib.hid (hlinked_some m h0 hg)
  have xq := (m.cells hg).2.2.1
  have ME := Lib.hid (qents_any (m.que a x hg))
  have hel := ents_pos hok
  have hblk := m.blk
  have fz := Blk.frozen hblk
  have cz : w.cell? ⟨h, 2 + a, none⟩ = some (gpV gb S a) := by rw [Blk.cell hblk, hcells_at gb S ha]
  have HZ := Lib.hid (And.intro fz cz)
  have HEL := Lib.hid hel
  have HNO := Lib.hid hno
  clear hrg hinf m hcs hlen hat hel hblk fz cz hno hok
  go_enter Try.func31, Try.ntmps31
  go_wp2_with (first
    | (go_at_call 84; refine ML.out.mono ?_; rintro r w' ⟨rfl, rfl⟩)
    | (refine wpList_load_mid rfl 117 (.tmp 15) rfl h 2 rfl cs _ HL.out.1 Try.underlying117 rfl HL.out.2 ?_))
  clear HL ML
  go_loopw [17] (fun s17 wr => ∃ i : Nat, i ≤ 32 ∧ s17 = .int .i64 i ∧ w = wr) (fun s17 _ => 32 - (intOf s17).toNat)
  case atStart => exact ⟨0, by omega, rfl, rfl⟩
  case round =>
    obtain ⟨i, hi, rfl, rfl⟩ := hrel
    by_cases hlt : i < 32
    · have i0 : (0 : Int) ≤ (i : Int) := Int.natCast_nonneg _
      have i1 : (i : Int) < 32 := by omega
      have i2 : decide (i < 32) = true := decide_eq_true hlt
      have i3 : decide ((i : Int) < 32) = true := decide_eq_true i1
      have hv := HC.out.1 i hlt
      have HI := run_index32 cs hlt hv w
      unfold gpV at HI
      cases hx : S.G i with
      | none =>
        rw [hx] at HI
        simp only [Option.map_none] at HI
        clear hv xq
        go_wp2_with fail
        go_roundw
        case rel => exact ⟨i + 1, hlt, by go_num, by first | trivial | rfl⟩
        case measure => simp [intOf]; omega
      | some y =>
        rw [hx] at HI
        simp only [Option.map_some] at HI
        have y0 := (HC.out.2.cells hx).1
        have hne := HNO.out i y hx
        obtain ⟨up, hup⟩ : ∃ up, up = y.up := ⟨_, rfl⟩
        rw [← hup] at y0 hne
        have z0 : (up == (a : Int)) = false := by rw [beq_eq_false_iff_ne]; exact hne
        have z1 : decide (up = (a : Int)) = false := decide_eq_false hne
        clear hv xq hup
        go_wp2_with fail
        go_roundw
        case rel => exact ⟨i + 1, hlt, by go_num, by first | trivial | rfl⟩
        case measure => simp [intOf]; omega
    · obtain rfl : i = 32 := by omega
      go_wp2_with fail
      refine ME.out.mono ?_
      rintro r w2 ⟨v, hr, HV⟩
      obtain ⟨A, cc, rfl, hrow, hlen⟩ := own_ents HV.out.1
      subst hr
      have hb2 := HV.out.2
      have hlt := Array.getElem?_eq_some_iff.1 HC.out.2.blk
      obtain ⟨hlt, _⟩ := hlt
      have cz : w2.cell? ⟨h, 2 + a, none⟩ = some (gpV gb S a) := (hb2.cell (p := ⟨h, 2 + a, none⟩) hlt).trans HZ.out.2
      have fz : ∀ j, w2.frozen? ⟨h, j, none⟩ = false := fun j => (hb2.frozen (p := ⟨h, j, none⟩) hlt).trans (HZ.out.1 j)
      have HB2 := Lib.hid hb2
      obtain ⟨el, hel⟩ : ∃ el, el = x.q.ents.length := ⟨_, rfl⟩
      rw [← hel]
      have hel2 := HEL.out
      rw [← hel] at hel2
      have j0 : (0 : Int) ≤ (a : Int) := Int.natCast_nonneg _
      have j1 : (a : Int) < 32 := by omega
      have j2 : decide (a < 32) = true := decide_eq_true ha
      have hu : unlinkI x = if el = 0 then 0 else 6 := by
        unfold unlinkI
        by_cases hL : x.q.L = []
        · rw [if_pos hL, if_pos (by rw [hel2, hL]; rfl)]
        · rw [if_neg hL, if_neg (fun h => hL (List.eq_nil_of_length_eq_zero (by omega)))]
      have HU := Lib.hid hu
      have HLL : Hid (el = 0 → x.q.L = []) := Lib.hid fun h => List.eq_nil_of_length_eq_zero (by omega)
      clear hb2 hrow hlen hel hel2 hu xq
      by_cases hz : el = 0
      · subst hz
        go_wp2_with fail
        go_ret
        refine ⟨by rw [HU.out]; first | rfl | simp, Lib.hid ?_⟩
        exact ⟨Turns.setCell (p := ⟨h, 2 + a, none⟩) (Turns.of_below HB2.out) (.inl (by simp)) _, fun hne => absurd (HLL.out (by trivial)) hne⟩
      · have z2 : decide ((0 : Int) < (el : Int)) = true := decide_eq_true (by omega)
        have z3 : decide (0 < el) = true := decide_eq_true (by omega)
        go_wp2_with fail
        go_ret
        refine ⟨by rw [HU.out]; simp [hz], Lib.hid ?_⟩
        exact ⟨Turns.of_below HB2.out, fun _ => HB2.out⟩
end

end Go.Proofs.Ytefekboacghnjaa

namespace Go.Proofs.Ytefekboacghnjaa
open Go.RowKit Go.Maps

section
variable {w : World} {h : Nat} {gb qb : Nat → Nat} {Fq : Nat → List Nat} {S : HS} {K : Int}
/-- from a group up to the root: is that one there? -/
def underF : Nat → HS → Nat → Int → Bool
  | 0, _, _, _ => false
  | n + 1, S, i, a => if (i : Int) = a then true else match S.G i with
    | none => false
    | some x => if x.up = -1 then false else underF n S x.up.toNat a
set_option maxRecDepth 100000 in
set_option maxHeartbeats 8000000 in
theorem hunder_any (m : HMem w h gb qb Fq S K) (T : HTree S) (a : Int) {i : Nat} {x : Gr} (hx : S.G i = some x) :
    Calls Try.prog 85 #[.pointer (some ⟨h, 0, none⟩), .int .i64 (i : Int), .int .i64 a] w fun e w' => e = .returned (.bool (underF 9 S i a)) ∧ w = w' := by
  have HM := Lib.hid m
  have HT := Lib.hid T
  have hd := T.deep i x hx
  obtain ⟨R, hR⟩ : ∃ R, R = underF 9 S i a := ⟨_, rfl⟩
  have HS := Lib.hid (show ∃ (n j : Nat) (y : Gr), y.deep < n ∧ S.G j = some y ∧ (i : Int) = (j : Int) ∧ R = underF n S j a from ⟨9, i, x, by omega, hx, rfl, hR⟩)
  rw [← hR]
  clear m T hx hd hR
  go_enter Try.func85, Try.ntmps85
  go_wp2_with fail
  go_loopw [1] (fun s1 wr => (∃ j : Int, s1 = .int .i64 j ∧ ((∃ (n k : Nat) (y : Gr), y.deep < n ∧ S.G k = some y ∧ j = (k : Int) ∧ R = underF n S k a) ∨ (j = -1 ∧ R = false))) ∧ w = wr) (fun s1 _ => if intOf s1 < 0 then 0 else (grOf S (intOf s1).toNat).deep + 1)
  case atStart => exact ⟨⟨_, rfl, .inl HS.out⟩, rfl⟩
  case round =>
    obtain ⟨⟨j, rfl, hc⟩, rfl⟩ := hrel
    rcases hc with ⟨n, k, y, h1, h2, rfl, hR⟩ | ⟨rfl, rfl⟩
    · have z0 : ((k : Int) == -1) = false := by rw [beq_eq_false_iff_ne]; omega
      have z1 : ((k : Int) != -1) = true := by rw [bne_iff_ne]; omega
      have z2 : decide ((k : Int) = -1) = false := decide_eq_false (by omega)
      have hk32 := HM.out.idx h2
      by_cases hka : (k : Int) = a
      · have z3 : ((k : Int) == a) = true := by rw [beq_iff_eq]; exact hka
        have z4 : decide ((k : Int) = a) = true := decide_eq_true hka
        have hRt : R = true := by
          match n, h1 with
          | n + 1, _ =>
            rw [hR]
            unfold underF
            rw [if_pos hka]
        subst hRt
        clear hR
        subst hka
        go_wp2_with fail
        go_ret
        exact ⟨rfl, rfl⟩
      · have z3 : ((k : Int) == a) = false := by rw [beq_eq_false_iff_ne]; exact hka
        have z4 : decide ((k : Int) = a) = false := decide_eq_false hka
        have c1 := HM.out.ptr_some h2
        have y0 := (HM.out.cells h2).1
        have j0 : (0 : Int) ≤ (k : Int) := Int.natCast_nonneg _
        have j1 : (k : Int) < 32 := by omega
        have j2 : decide (k < 32) = true := decide_eq_true hk32
        have HR := Lib.hid (And.intro h1 (And.intro h2 (And.intro hR hka)))
        clear h1 h2 hR hka
        go_wp2_with fail
        obtain ⟨h1, h2, hR, hka⟩ := HR.out
        have hgk : grOf S k = y := by unfold grOf; rw [h2]; rfl
        have key : (∃ (n : Nat) (k' : Nat) (z : Gr), z.deep < n ∧ S.G k' = some z ∧ y.up = (k' : Int) ∧ R = underF n S k' a ∧ z.deep < y.deep) ∨ (y.up = -1 ∧ R = false) := by
          match n, h1, hR with
          | n + 1, h1, hR =>
            unfold underF at hR
            rw [if_neg hka, h2] at hR
            dsimp only at hR
            by_cases hup : y.up = -1
            · rw [if_pos hup] at hR
              exact .inr ⟨hup, hR⟩
            · rw [if_neg hup] at hR
              have h0 : k ≠ 0 := by
                rintro rfl
                obtain ⟨g, e1, e2, _⟩ := HT.out.root
                rw [h2] at e1
                injection e1 with e1
                subst e1
                exact hup e2
              obtain ⟨u, z, e1, e2, e3⟩ := HT.out.up k y h0 h2
              rw [e1] at hR
              exact .inl ⟨n, u, z, by omega, e2, e1, by simpa using hR, by omega⟩
        show _ ∧ (if y.up < 0 then 0 else (grOf S y.up.toNat).deep + 1) < (if (k : Int) < 0 then 0 else (grOf S (k : Int).toNat).deep + 1)
        rw [if_neg (show ¬((k : Int) < 0) by omega), Int.toNat_natCast, hgk]
        rcases key with ⟨n', k', z, e1, e2, e3, e4, e5⟩ | ⟨e1, e2⟩
        · have hgz : grOf S k' = z := by unfold grOf; rw [e2]; rfl
          refine ⟨⟨⟨y.up, rfl, .inl ⟨n', k', z, e1, e2, e3, e4⟩⟩, trivial⟩, ?_⟩
          rw [e3, if_neg (show ¬((k' : Int) < 0) by omega), Int.toNat_natCast, hgz]
          omega
        · refine ⟨⟨⟨y.up, rfl, .inr ⟨e1, e2⟩⟩, trivial⟩, ?_⟩
          rw [e1, if_pos (by decide)]
          omega
    · go_wp2_with fail
      go_ret
      exact ⟨rfl, rfl⟩
end

end Go.Proofs.Ytefekboacghnjaa

namespace Go.Proofs.Ytefekboacghnjaa
open Go.RowKit Go.Maps

section
variable {w : World} {h : Nat} {gb qb : Nat → Nat} {Fq : Nat → List Nat} {S : HS} {K : Int}
set_option maxRecDepth 100000 in
set_option maxHeartbeats 8000000 in
theorem hmove_loop (m : HMem w h gb qb Fq S K) (T : HTree S) {i j : Nat} {x y : Gr} (h0 : i ≠ 0) (hx : S.G i = some x) (hy : S.G j = some y) (hu : underF 9 S j (i : Int) = true) :
    Calls Try.prog 29 #[.pointer (some ⟨h, 0, none⟩), .int .i64 (i : Int), .int .i64 (j : Int)] w fun e w' => e = .returned (.int .i64 10) ∧ w = w' := by
  have ML := Lib.hid (hlinked_some m h0 hx)
  have MA := Lib.hid (hat_some m hy)
  have MU := Lib.hid (hunder_any m T (i : Int) hy)
  rw [hu] at MU
  clear m T hx hy hu h0
  go_enter Try.func29, Try.ntmps29
  go_wp2_with (first
    | (go_at_call 84; refine ML.out.mono ?_; rintro r w' ⟨rfl, rfl⟩)
    | (go_at_call 82; refine MA.out.mono ?_; rintro r w' ⟨rfl, rfl⟩)
    | (go_at_call 85; refine MU.out.mono ?_; rintro r w' ⟨rfl, rfl⟩))
  go_ret
  exact ⟨rfl, rfl⟩
end

end Go.Proofs.Ytefekboacghnjaa

namespace Go.Proofs.Ytefekboacghnjaa
open Go.RowKit Go.Maps

section
variable {w : World} {h : Nat} {gb qb : Nat → Nat} {Fq : Nat → List Nat} {S : HS} {K : Int}
set_option maxRecDepth 100000 in
set_option maxHeartbeats 8000000 in
theorem hmove_busy (m : HMem w h gb qb Fq S K) (T : HTree S) {i j : Nat} {x y : Gr} (h0 : i ≠ 0) (hx : S.G i = some x) (hy : S.G j = some y) (hok : x.q.ok) (hL : x.q.L ≠ []) (hu : underF 9 S j (i : Int) = false) (hno : ∀ k, k < i → underF 9 S k (i : Int) = false) :
    Calls Try.prog 29 #[.pointer (some ⟨h, 0, none⟩), .int .i64 (i : Int), .int .i64 (j : Int)] w fun e w' => e = .returned (.int .i64 6) ∧ Below w.heap.size w w' := by
  have hi32 := m.idx hx
  have ML := Lib.hid (hlinked_some m h0 hx)
  have MA := Lib.hid (hat_some m hy)
  have MU := Lib.hid (hunder_any m T (i : Int) hy)
  have MV := Lib.hid fun (k : Nat) (z : Gr) (hz : S.G k = some z) => hunder_any m T (i : Int) hz
  have ME := Lib.hid (qents_any (m.que i x hx))
  have xq := (m.cells hx).2.2.1
  have hel := ents_pos hok
  have hpos : 0 < x.q.ents.length := by
    rw [hel]
    exact List.length_pos_iff.2 hL
  obtain ⟨cs, hcs⟩ : ∃ cs : List Value, cs = (List.range 32).map (gpV gb S) := ⟨_, rfl⟩
  have hlen : cs.length = 32 := by rw [hcs]; simp
  have hat : ∀ i, i < 32 → cs[i]? = some (gpV gb S i) := fun i hi => by rw [hcs]; simp [hi]
  have hrg : w.rangeAt h 2 cs := fun j v hv => by
    have hj : j < 32 := by
      rw [← hlen]
      exact (List.getElem?_eq_some_iff.1 hv).1
    rw [hat j hj] at hv
    rw [Blk.cell m.blk, hcells_at gb S hj]
    exact hv
  have hinf : (Try.prog.info? 117).map (·.size) = some cs.length := by rw [hlen]; rfl
  have HLD := Lib.hid (And.intro hrg hinf)
  have HC := Lib.hid (And.intro hat m)
  have HNO := Lib.hid hno
  have hself : underF 9 S i (i : Int) = true := by unfold underF; rw [if_pos rfl]
  have HX := Lib.hid (And.intro hx (And.intro hself hpos))
  rw [hu] at MU
  clear m T hx hy hu h0 hok hL hel hcs hlen hat hrg hinf hno hself hpos
  go_enter Try.func29, Try.ntmps29
  go_wp2_with (first
    | (go_at_call 84; refine ML.out.mono ?_; rintro r w' ⟨rfl, rfl⟩)
    | (go_at_call 82; refine MA.out.mono ?_; rintro r w' ⟨rfl, rfl⟩)
    | (go_at_call 85; refine MU.out.mono ?_; rintro r w' ⟨rfl, rfl⟩)
    | (refine wpList_load_mid rfl 117 (.tmp 34) rfl h 2 rfl cs _ HLD.out.1 Try.underlying117 rfl HLD.out.2 ?_))
  clear HLD ML MA MU
  go_loopw [36] (fun s36 wr => ∃ k : Nat, k ≤ i ∧ s36 = .int .i64 k ∧ w = wr) (fun s36 _ => 32 - (intOf s36).toNat)
  case atStart => exact ⟨0, by omega, rfl, rfl⟩
  case round =>
    obtain ⟨k, hk, rfl, rfl⟩ := hrel
    have hlt : k < 32 := by omega
    have i0 : (0 : Int) ≤ (k : Int) := Int.natCast_nonneg _
    have i1 : (k : Int) < 32 := by omega
    have i2 : decide (k < 32) = true := decide_eq_true hlt
    have i3 : decide ((k : Int) < 32) = true := decide_eq_true i1
    have hv := HC.out.1 k hlt
    have HI := run_index32 cs hlt hv w
    unfold gpV at HI
    cases hz : S.G k with
    | none =>
      rw [hz] at HI
      simp only [Option.map_none] at HI
      have hki : k ≠ i := by rintro rfl; rw [HX.out.1] at hz; simp at hz
      clear hv xq
      go_wp2_with fail
      go_roundw
      case rel => exact ⟨k + 1, by omega, by go_num, by first | trivial | rfl⟩
      case measure => simp [intOf]; omega
    | some z =>
      rw [hz] at HI
      simp only [Option.map_some] at HI
      have MV1 := Lib.hid (MV.out k z hz)
      by_cases hki : k = i
      · subst hki
        rw [HX.out.2.1] at MV1
        clear hv
        go_wp2_with (go_at_call 85; refine MV1.out.mono ?_; rintro r w' ⟨rfl, rfl⟩)
        refine ME.out.mono ?_
        rintro r w2 ⟨v, hr, HV⟩
        obtain ⟨A, cc, rfl, hrow, hlen⟩ := own_ents HV.out.1
        subst hr
        have hb2 := Lib.hid HV.out.2
        obtain ⟨el, hel⟩ : ∃ el, el = x.q.ents.length := ⟨_, rfl⟩
        have hp := HX.out.2.2
        rw [← hel] at hp ⊢
        have z2 : decide ((0 : Int) < (el : Int)) = true := decide_eq_true (by omega)
        have z3 : decide (0 < el) = true := decide_eq_true hp
        clear hrow hlen hel xq
        go_wp2_with fail
        go_ret
        exact ⟨rfl, hb2.out⟩
      · rw [HNO.out k (by omega)] at MV1
        clear hv xq
        go_wp2_with (go_at_call 85; refine MV1.out.mono ?_; rintro r w' ⟨rfl, rfl⟩)
        go_roundw
        case rel => exact ⟨k + 1, by omega, by go_num, by first | trivial | rfl⟩
        case measure => simp [intOf]; omega
end

end Go.Proofs.Ytefekboacghnjaa

namespace Go.Proofs.Ytefekboacghnjaa
open Go.RowKit Go.Maps

theorem stepH_stopped {S : HS} {i u : Nat} {x p : Gr} (hi : S.G i = some x) (hp : S.G u = some p) (j : Nat) : ((stepH S i u x p).G j).map (·.stopped) = (S.G j).map (·.stopped) := by
  have key : ∀ (p' x' : Gr), p'.stopped = p.stopped → x'.stopped = x.stopped → (((S.put u (some p')).put i (some x')).G j).map (·.stopped) = (S.G j).map (·.stopped) := fun p' x' h1 h2 => by
    by_cases hj : j = i
    · rw [hj, HS.put_same, hi]
      exact congrArg some h2
    · rw [HS.put_other _ _ hj]
      by_cases hu : j = u
      · rw [hu, HS.put_same, hp]
        exact congrArg some h1
      · rw [HS.put_other _ _ hu]
  unfold stepH
  split
  · exact key _ _ rfl rfl
  · exact key _ _ rfl rfl
theorem settle_stopped : ∀ (n : Nat) (S : HS) (i j : Nat), ((settleH n S i).G j).map (·.stopped) = (S.G j).map (·.stopped)
  | 0, _, _, _ => rfl
  | n + 1, S, i, j => by
    unfold settleH
    cases hi : S.G i with
    | none => rfl
    | some x =>
      dsimp only
      by_cases hup : x.up = -1
      · rw [if_pos hup]
      · rw [if_neg hup]
        by_cases hs : shouldB x = x.on
        · rw [if_pos hs]
        · rw [if_neg hs]
          cases hp : S.G x.up.toNat with
          | none => rfl
          | some p =>
            dsimp only
            rw [settle_stopped n, stepH_stopped hi hp]

/-- groups 1 to d, each within the one before; and 31, if it is there, within the root -/
structure Chn (S : HS) (d : Nat) : Prop where
  d8 : d ≤ 8
  le : ∀ i, i ≤ d → ∃ x, S.G i = some x ∧ x.up = (i : Int) - 1 ∧ x.stopped = false
  no : ∀ i, d < i → i ≠ 31 → S.G i = none
  far : ∀ x, S.G 31 = some x → x.up = 0
/-- no task stands anywhere, but that one in group d, if b -/
def Tk (S : HS) (d : Nat) (t : Int) (b : Prop) : Prop := ∀ u p, S.G u = some p → ∀ k : Int, k % 2 = 0 → (Has p.q k ↔ (b ∧ u = d ∧ k = 2 * t))
section
variable {S S' : HS} {d : Nat} {t : Int} {b : Prop}
theorem Sim.back (h : Sim S S') {u : Nat} {x' : Gr} (hx' : S'.G u = some x') : ∃ x, S.G u = some x ∧ x'.up = x.up ∧ ∀ k : Int, k % 2 = 0 → (Has x'.q k ↔ Has x.q k) := by
  cases hx : S.G u with
  | none => rw [h.no u hx] at hx'; simp at hx'
  | some x =>
    obtain ⟨y', h1, h2, h3⟩ := h.G u x hx
    rw [hx'] at h1
    injection h1 with h1
    subst h1
    exact ⟨x, rfl, h2, h3⟩
theorem newH_is {c g : Int} {j : Nat} {z : Gr} (hj : (newH c g).G j = some z) : j = 0 ∧ z = ⟨-1, 0, emptyQ, ⟨0, 0, 0, 0⟩, false, false⟩ := by
  unfold newH at hj
  dsimp only at hj
  split at hj
  · rename_i h; injection hj with hj; exact ⟨h, hj.symm⟩
  · simp at hj
theorem newH_no {c g : Int} {j : Nat} (hj : j ≠ 0) : (newH c g).G j = none := if_neg hj
theorem Chn.new (c g : Int) : Chn (newH c g) 0 :=
  ⟨by omega, fun i hi => ⟨⟨-1, 0, emptyQ, ⟨0, 0, 0, 0⟩, false, false⟩, by
    have h0 : i = 0 := by omega
    subst h0
    rfl, by
    have h0 : i = 0 := by omega
    subst h0
    rfl, rfl⟩, fun i hi _ => newH_no (by omega), fun x hx => absurd (newH_is hx).1 (by decide)⟩
theorem Tk.new (c g : Int) (d : Nat) (t : Int) : Tk (newH c g) d t False := fun u p hp k _ => by
  rw [(newH_is hp).2]
  constructor
  · rintro ⟨e, he, _⟩
    simp [emptyQ] at he
  · rintro ⟨h, _⟩
    exact h.elim
theorem Tk.any {d' : Nat} {t' : Int} (T : Tk S d t False) : Tk S d' t' False := fun u p hp k hk => by
  rw [T u p hp k hk]
  exact ⟨fun h => h.1.elim, fun h => h.1.elim⟩
theorem Chn.link (C : Chn S d) (hd : d < 8) (h31 : S.G 31 = none) (dp : Nat) : Chn (S.put (d + 1) (some (linkG (d + 1) d dp))) (d + 1) ∧ (S.put (d + 1) (some (linkG (d + 1) d dp))).G 31 = none :=
  have h2 : (S.put (d + 1) (some (linkG (d + 1) d dp))).G 31 = none := (HS.put_other _ _ (by omega)).trans h31
  ⟨⟨by omega, fun i hi => by
    by_cases he : i = d + 1
    · subst he
      exact ⟨_, HS.put_same _ _ _, by show (d : Int) = _; omega, rfl⟩
    · obtain ⟨x, hx, h3⟩ := C.le i (by omega)
      exact ⟨x, (HS.put_other _ _ he).trans hx, h3⟩, fun i hi h => by
    rw [HS.put_other _ _ (by omega)]
    exact C.no i (by omega) h, fun x hx => by rw [h2] at hx; simp at hx⟩, h2⟩
theorem Tk.link (T : Tk S d t b) {i pa dp d' : Nat} (hb : ¬b ∨ (d' = d ∧ i ≠ d)) : Tk (S.put i (some (linkG i pa dp))) d' t b := fun u p hp k hk => by
  by_cases hu : u = i
  · subst hu
    rw [HS.put_same] at hp
    injection hp with hp
    subst hp
    constructor
    · rintro ⟨e, he, _⟩
      simp [linkG, emptyQ] at he
    · rintro ⟨h1, h2, _⟩
      rcases hb with hb | hb
      · exact absurd h1 hb
      · omega
  · rw [HS.put_other _ _ hu] at hp
    rw [T u p hp k hk]
    rcases hb with hb | hb
    · exact ⟨fun h => absurd h.1 hb, fun h => absurd h.1 hb⟩
    · rw [hb.1]
theorem Chn.far_link (C : Chn S d) : Chn (S.put 31 (some (linkG 31 0 0))) d :=
  ⟨C.d8, fun i hi => by
    obtain ⟨x, hx, h3⟩ := C.le i hi
    exact ⟨x, (HS.put_other _ _ (by have := C.d8; omega)).trans hx, h3⟩, fun i hi h => (HS.put_other _ _ h).trans (C.no i hi h), fun x hx => by
    rw [HS.put_same] at hx
    injection hx with hx
    subst hx
    rfl⟩
theorem Chn.sim (C : Chn S d) (h : Sim S S') (hs : ∀ j, (S'.G j).map (·.stopped) = (S.G j).map (·.stopped)) : Chn S' d :=
  ⟨C.d8, fun i hi => by
    obtain ⟨x, hx, h1, h2⟩ := C.le i hi
    obtain ⟨x', k1, k2, _⟩ := h.G i x hx
    have := hs i
    rw [k1, hx] at this
    injection this with this
    exact ⟨x', k1, k2.trans h1, this.trans h2⟩, fun i hi hn => h.no i (C.no i hi hn), fun x' hx' => by
    obtain ⟨x, hx, h1, _⟩ := h.back hx'
    exact h1.trans (C.far x hx)⟩
theorem Tk.sim (T : Tk S d t b) (h : Sim S S') : Tk S' d t b := fun u p' hp' k hk => by
  obtain ⟨p, hp, _, h3⟩ := h.back hp'
  exact (h3 k hk).trans (T u p hp k hk)
/-- who may be within a group -/
theorem Chn.kids (C : Chn S d) {i k : Nat} {y : Gr} (h1 : 1 ≤ i) (hk : S.G k = some y) (hup : y.up = (i : Int)) : k = i + 1 ∧ k ≤ d := by
  by_cases hkd : k ≤ d
  · obtain ⟨x, hx, h2, _⟩ := C.le k hkd
    rw [hk] at hx
    injection hx with hx
    subst hx
    omega
  · by_cases h31 : k = 31
    · subst h31
      have := C.far y hk
      omega
    · rw [C.no k (by omega) h31] at hk
      simp at hk
theorem Chn.empty (C : Chn S d) (H : HGood S) (T : Tk S d t False) : ∀ (n i : Nat) (x : Gr), 1 ≤ i → d < i + n → S.G i = some x → x.q.L = []
  | 0, i, x, h1, h2, hx => by
    refine List.eq_nil_iff_forall_not_mem.2 fun e he => ?_
    rcases H.inv.ids i x hx e he with ⟨t', _, h3⟩ | ⟨k, y, _, _, hk, hup, _⟩
    · exact ((T i x hx e.id (by omega)).1 ⟨e, he, rfl⟩).1
    · have := C.kids h1 hk hup
      omega
  | n + 1, i, x, h1, h2, hx => by
    refine List.eq_nil_iff_forall_not_mem.2 fun e he => ?_
    rcases H.inv.ids i x hx e he with ⟨t', _, h3⟩ | ⟨k, y, _, h0, hk, hup, hon⟩
    · exact ((T i x hx e.id (by omega)).1 ⟨e, he, rfl⟩).1
    · have hki := (C.kids h1 hk hup).1
      subst hki
      have hL := Chn.empty C H T n (i + 1) y (by omega) (by omega) hk
      have := H.set (i + 1) y h0 hk
      rw [hon] at this
      unfold shouldB at this
      rw [hL] at this
      simp at this
theorem Chn.full (C : Chn S d) (H : HGood S) (T : Tk S d t True) : ∀ (n i : Nat) (x : Gr), 1 ≤ i → i + n = d → S.G i = some x → x.q.L ≠ []
  | 0, i, x, _, h2, hx => by
    obtain ⟨e, he, _⟩ := (T i x hx (2 * t) (by omega)).2 ⟨trivial, by omega, rfl⟩
    intro h
    rw [h] at he
    simp at he
  | n + 1, i, x, h1, h2, hx => by
    obtain ⟨y, hy, hup, hst⟩ := C.le (i + 1) (by omega)
    have hL := Chn.full C H T n (i + 1) y (by omega) (by omega) hy
    have hon := H.set (i + 1) y (by omega) hy
    have hsh : shouldB y = true := by
      unfold shouldB
      rw [hst]
      cases hq : y.q.L with
      | nil => exact absurd hq hL
      | cons a l => rfl
    obtain ⟨e, he, _⟩ := H.inv.on (i + 1) y i x (by omega) hy (by omega) hx (hon.trans hsh)
    intro h
    rw [h] at he
    simp at he
theorem Chn.under (C : Chn S d) : ∀ (n i : Nat), i < n → i ≤ d → underF n S i 1 = decide (1 ≤ i)
  | n + 1, i, h, hi => by
    unfold underF
    obtain ⟨x, hx, hup, _⟩ := C.le i hi
    rw [hx]
    dsimp only
    by_cases h1 : (i : Int) = 1
    · rw [if_pos h1]
      exact (decide_eq_true (by omega)).symm
    · rw [if_neg h1, hup]
      by_cases h0 : i = 0
      · subst h0
        rfl
      · rw [if_neg (by omega), show ((i : Int) - 1).toNat = i - 1 by omega, Chn.under C n (i - 1) (by omega) (by omega), decide_eq_true (show 1 ≤ i - 1 by omega), decide_eq_true (show 1 ≤ i by omega)]
theorem Chn.under31 (C : Chn S d) {x : Gr} (hx : S.G 31 = some x) : underF 9 S 31 1 = false := by
  unfold underF
  rw [if_neg (by decide), hx]
  dsimp only
  rw [C.far x hx, if_neg (by decide)]
  exact C.under 8 0 (by omega) (by omega)
theorem Chn.deep (C : Chn S d) (H : HTree S) : ∀ (i : Nat) (x : Gr), i ≤ d → S.G i = some x → x.deep = i
  | 0, x, _, hx => by
    obtain ⟨g, h1, _, h3⟩ := H.root
    rw [hx] at h1
    injection h1 with h1
    subst h1
    exact h3
  | i + 1, x, hi, hx => by
    obtain ⟨u, p, h1, h2, h3⟩ := H.up (i + 1) x (by omega) hx
    obtain ⟨x', hx', h4, _⟩ := C.le (i + 1) hi
    rw [hx] at hx'
    injection hx' with hx'
    subst hx'
    have hu : u = i := by omega
    subst hu
    rw [h3, Chn.deep C H u p (by omega) h2]
theorem Chn.deep31 (C : Chn S d) (H : HTree S) {x : Gr} (hx : S.G 31 = some x) : x.deep = 1 := by
  obtain ⟨u, p, h1, h2, h3⟩ := H.up 31 x (by decide) hx
  have h4 := C.far x hx
  have hu : u = 0 := by omega
  subst hu
  rw [h3, C.deep H 0 p (by omega) h2]
/-- a task is put into the last group -/
theorem Chn.put (C : Chn S d) (H : HGood S) (T : Tk S d t False) {x : Gr} (hx : S.G d = some x) (hd : 1 ≤ d) {v : Int} {wt rem : Nat} (hc : putC x.q ⟨2 * t, wt, v, rem⟩ = 0) (ht0 : 0 ≤ t) (ht1 : t < 64) (hv : -9223372036854775808 ≤ v ∧ v ≤ 9223372036854775807) :
    Chn (putHS S d x ⟨2 * t, wt, v, rem⟩) d ∧ Tk (putHS S d x ⟨2 * t, wt, v, rem⟩) d t True ∧ HGood (putHS S d x ⟨2 * t, wt, v, rem⟩) ∧ (S.G 31 = none → (putHS S d x ⟨2 * t, wt, v, rem⟩).G 31 = none) := by
  have hG := put_good H hx (e := ⟨2 * t, wt, v, rem⟩) (t := t.toNat) (by omega) (by show 2 * t = _; omega) hv
  refine ⟨?_, ?_, hG, ?_⟩
  all_goals
    unfold putHS
    rw [if_pos hc]
  all_goals
    have hL := putQ_L hc
    have hdp := H.inv.tree.deep d x hx
    have I : HInv (S.put d (some { x with q := putQ x.q ⟨2 * t, wt, v, rem⟩ })) := H.inv.queue hx ((H.inv.qok d x hx).put (by show 2 * t ≤ 9223372036854775807; omega) hv) (fun e' he' => by
      rw [hL, List.mem_append] at he'
      rcases he' with he' | he'
      · exact .inl ⟨e', he', rfl⟩
      · rw [List.mem_singleton] at he'
        subst he'
        exact .inr ⟨t.toNat, by omega, by show 2 * t = _; omega⟩) (fun e' he' _ => by
      rw [hL]
      exact ⟨e', List.mem_append_left _ he', rfl⟩)
    have hs := settle_sim 9 _ d _ (HS.put_same S d (some { x with q := putQ x.q ⟨2 * t, wt, v, rem⟩ })) (by show x.deep < 9; omega) I (H.set.queue hx)
  · have C1 : Chn (S.put d (some { x with q := putQ x.q ⟨2 * t, wt, v, rem⟩ })) d := by
      refine ⟨C.d8, fun i hi => ?_, fun i hi hn => (HS.put_other _ _ (by omega)).trans (C.no i hi hn), fun y hy => ?_⟩
      · obtain ⟨y, hy, h1, h2⟩ := C.le i hi
        by_cases hid : i = d
        · subst hid
          rw [hx] at hy
          injection hy with hy
          subst hy
          exact ⟨_, HS.put_same _ _ _, h1, h2⟩
        · exact ⟨y, (HS.put_other _ _ hid).trans hy, h1, h2⟩
      · have := C.d8
        rw [HS.put_other _ _ (by omega)] at hy
        exact C.far y hy
    exact C1.sim hs fun j => settle_stopped _ _ _ _
  · have T1 : Tk (S.put d (some { x with q := putQ x.q ⟨2 * t, wt, v, rem⟩ })) d t True := fun u p hp k hk => by
      by_cases hu : u = d
      · subst hu
        rw [HS.put_same] at hp
        injection hp with hp
        subst hp
        show Has (putQ x.q ⟨2 * t, wt, v, rem⟩) k ↔ _
        unfold Has
        rw [hL]
        constructor
        · rintro ⟨e, he, rfl⟩
          rcases List.mem_append.1 he with he | he
          · exact (((T u x hx e.id hk).1 ⟨e, he, rfl⟩).1).elim
          · rw [List.mem_singleton] at he
            subst he
            exact ⟨trivial, rfl, rfl⟩
        · rintro ⟨_, _, rfl⟩
          exact ⟨_, List.mem_append_right _ (List.mem_singleton.2 rfl), rfl⟩
      · rw [HS.put_other _ _ hu] at hp
        rw [T u p hp k hk]
        exact ⟨fun h => h.1.elim, fun h => absurd h.2.1 hu⟩
    exact T1.sim hs
  · intro h31
    refine hs.no 31 ((HS.put_other _ _ ?_).trans h31)
    have := C.d8
    omega
/-- it is dropped -/
theorem Chn.drop (C : Chn S d) (H : HGood S) (T : Tk S d t True) {x : Gr} (hx : S.G d = some x) (hd : 1 ≤ d) :
    (∃ e, x.q.get (2 * t) = some e) ∧ Chn (dropHS S d x (2 * t)) d ∧ Tk (dropHS S d x (2 * t)) d t False ∧ HGood (dropHS S d x (2 * t)) ∧ ∀ y, S.G 31 = some y → ∃ y', (dropHS S d x (2 * t)).G 31 = some y' := by
  obtain ⟨e, he, hid⟩ := (T d x hx (2 * t) (by omega)).2 ⟨trivial, rfl, rfl⟩
  have hget := (H.inv.qok d x hx).get he
  rw [hid] at hget
  have hG := drop_good H hx t
  refine ⟨⟨e, hget⟩, ?_, ?_, hG, ?_⟩
  all_goals
    unfold dropHS
    rw [hget]
    dsimp only
  all_goals
    have hdp := H.inv.tree.deep d x hx
    have I : HInv (S.put d (some { x with q := dropQ x.q (2 * t) })) := H.inv.queue hx ((H.inv.qok d x hx).dropQ _) (fun e' he' => by
      rw [dropQ_L] at he'
      exact .inl ⟨e', (lessL_mem.1 he').1, rfl⟩) (fun e' he' ho => by
      rw [dropQ_L]
      exact ⟨e', lessL_mem.2 ⟨he', by omega⟩, rfl⟩)
    have hs := settle_sim 9 _ d _ (HS.put_same S d (some { x with q := dropQ x.q (2 * t) })) (by show x.deep < 9; omega) I (H.set.queue hx)
  · have C1 : Chn (S.put d (some { x with q := dropQ x.q (2 * t) })) d := by
      refine ⟨C.d8, fun i hi => ?_, fun i hi hn => (HS.put_other _ _ (by omega)).trans (C.no i hi hn), fun y hy => ?_⟩
      · obtain ⟨y, hy, h1, h2⟩ := C.le i hi
        by_cases hid : i = d
        · subst hid
          rw [hx] at hy
          injection hy with hy
          subst hy
          exact ⟨_, HS.put_same _ _ _, h1, h2⟩
        · exact ⟨y, (HS.put_other _ _ hid).trans hy, h1, h2⟩
      · have := C.d8
        rw [HS.put_other _ _ (by omega)] at hy
        exact C.far y hy
    exact C1.sim hs fun j => settle_stopped _ _ _ _
  · have T1 : Tk (S.put d (some { x with q := dropQ x.q (2 * t) })) d t False := fun u p hp k hk => by
      by_cases hu : u = d
      · subst hu
        rw [HS.put_same] at hp
        injection hp with hp
        subst hp
        show Has (dropQ x.q (2 * t)) k ↔ _
        unfold Has
        rw [dropQ_L]
        constructor
        · rintro ⟨e, he, rfl⟩
          obtain ⟨h1, h2⟩ := lessL_mem.1 he
          exact absurd ((T u x hx e.id hk).1 ⟨e, h1, rfl⟩).2.2 h2
        · rintro ⟨h, _⟩
          exact h.elim
      · rw [HS.put_other _ _ hu] at hp
        rw [T u p hp k hk]
        exact ⟨fun h => absurd h.2.1 hu, fun h => h.1.elim⟩
    exact T1.sim hs
  · intro y hy
    have := C.d8
    obtain ⟨y', h1, _⟩ := hs.G 31 y ((HS.put_other _ _ (by omega)).trans hy)
    exact ⟨y', h1⟩
end

/-! where nobody was served all stands at 0 -/
def ZerQ (X : QS) : Prop := X.mn = 0 ∧ ∀ e, e ∈ X.L → e.v = 0
structure Zer (S : HS) : Prop where
  cr : S.credit = 0
  G : ∀ u x, S.G u = some x → x.own.v = 0 ∧ ZerQ x.q
theorem ZerQ.raise {X : QS} (h : ZerQ X) : ZerQ X.raise := by
  refine ⟨?_, h.2⟩
  show (match (ksOf X.L).head? with | none => X.mn | some k => max X.mn k.1) = 0
  cases hk : (ksOf X.L).head? with
  | none => exact h.1
  | some k =>
    obtain ⟨x, hx, rfl⟩ := head_mem hk
    show max X.mn x.v = 0
    rw [h.1, h.2 x hx]
    rfl
theorem ZerQ.put {X : QS} (h : ZerQ X) {e : En} (he : e.v = 0) : ZerQ (putQ X e) := by
  unfold putQ
  split
  · refine ZerQ.raise ⟨h.1, fun x hx => ?_⟩
    rcases List.mem_append.1 hx with hx | hx
    · exact h.2 x hx
    · rw [List.mem_singleton] at hx
      rw [hx]
      exact he
  · exact h
theorem ZerQ.drop {X : QS} (h : ZerQ X) (i : Int) : ZerQ (dropQ X i) := by
  unfold dropQ
  split
  · exact ZerQ.raise ⟨h.1, fun x hx => h.2 x (lessL_mem.1 hx).1⟩
  · exact h
theorem Zer.put {S : HS} (Z : Zer S) (i : Nat) {y : Gr} (h1 : y.own.v = 0) (h2 : ZerQ y.q) : Zer (S.put i (some y)) :=
  ⟨Z.cr, fun u x hx => by
    by_cases hu : u = i
    · rw [hu, HS.put_same] at hx
      injection hx with hx
      subst hx
      exact ⟨h1, h2⟩
    · rw [HS.put_other _ _ hu] at hx
      exact Z.G u x hx⟩
theorem step_zer {S : HS} (Z : Zer S) {i u : Nat} {x p : Gr} (hi : S.G i = some x) (hp : S.G u = some p) : Zer (stepH S i u x p) := by
  have hx := Z.G i x hi
  have hq := Z.G u p hp
  have hw : wakeZ x.own.v p.q.mn S.credit = 0 := by
    rw [hx.1, hq.2.1, Z.cr]
    decide
  unfold stepH
  split
  · exact (Z.put u (y := { p with q := putQ p.q { x.own with v := wakeZ x.own.v p.q.mn S.credit } }) hq.1 (hq.2.put hw)).put i (y := { x with own := { x.own with v := wakeZ x.own.v p.q.mn S.credit }, on := true }) hw hx.2
  · refine (Z.put u (y := { p with q := dropQ p.q (2 * (i : Int) + 1) }) hq.1 (hq.2.drop _)).put i (y := { x with own := (p.q.get (2 * (i : Int) + 1)).getD ⟨0, 0, 0, 0⟩, on := false }) ?_ hx.2
    show ((p.q.get (2 * (i : Int) + 1)).getD ⟨0, 0, 0, 0⟩).v = 0
    cases hg : p.q.get (2 * (i : Int) + 1) with
    | none => rfl
    | some e => exact hq.2.2 e (QS.get_some hg).1
theorem settle_zer : ∀ (n : Nat) (S : HS) (i : Nat), Zer S → Zer (settleH n S i)
  | 0, _, _, Z => Z
  | n + 1, S, i, Z => by
    unfold settleH
    cases hi : S.G i with
    | none => exact Z
    | some x =>
      dsimp only
      by_cases hup : x.up = -1
      · rw [if_pos hup]; exact Z
      · rw [if_neg hup]
        by_cases hs : shouldB x = x.on
        · rw [if_pos hs]; exact Z
        · rw [if_neg hs]
          cases hp : S.G x.up.toNat with
          | none => exact Z
          | some p => exact settle_zer n _ _ (step_zer Z hi hp)
theorem put_zer {S : HS} (Z : Zer S) {i : Nat} {x : Gr} (hi : S.G i = some x) {e : En} (he : e.v = 0) : Zer (putHS S i x e) := by
  unfold putHS
  split
  · exact settle_zer _ _ _ (Z.put i (Z.G i x hi).1 ((Z.G i x hi).2.put he))
  · exact Z
theorem drop_zer {S : HS} (Z : Zer S) {i : Nat} {x : Gr} (hi : S.G i = some x) (k : Int) : Zer (dropHS S i x k) := by
  unfold dropHS
  split
  · exact Z
  · exact settle_zer _ _ _ (Z.put i (Z.G i x hi).1 ((Z.G i x hi).2.drop k))
theorem link_zer {S : HS} (Z : Zer S) (i pa dp : Nat) : Zer (S.put i (some (linkG i pa dp))) := Z.put i rfl ⟨rfl, fun e he => by simp [linkG, emptyQ] at he⟩
theorem new_zer : Zer (newH 0 0) := ⟨rfl, fun u x hx => by
  rw [(newH_is hx).2]
  exact ⟨rfl, rfl, fun e he => by simp [emptyQ] at he⟩⟩

/-! Move as data -/
def unders (S : HS) (i n : Nat) : List Nat := (List.range n).filter fun k => (S.G k).isSome && underF 9 S k (i : Int)
theorem unders_step (S : HS) (i n : Nat) : unders S i (n + 1) = if (S.G n).isSome && underF 9 S n (i : Int) then unders S i n ++ [n] else unders S i n := by
  unfold unders
  rw [List.range_succ, List.filter_append]
  split
  · rename_i h
    rw [List.filter_cons_of_pos (by exact h)]
    rfl
  · rename_i h
    rw [List.filter_cons_of_neg (by exact h), List.filter_nil, List.append_nil]
theorem unders_mem {S : HS} {i n k : Nat} : k ∈ unders S i n ↔ k < n ∧ (∃ y, S.G k = some y) ∧ underF 9 S k (i : Int) = true := by
  unfold unders
  rw [List.mem_filter, List.mem_range, Bool.and_eq_true, Option.isSome_iff_exists]
theorem unders_nodup (S : HS) (i n : Nat) : (unders S i n).Nodup := List.Nodup.sublist List.filter_sublist List.nodup_range
theorem unders_len (S : HS) (i n : Nat) : (unders S i n).length ≤ n := Nat.le_trans (List.length_filter_le _ _) (by simp)
def deepest (S : HS) (l : List Nat) : Nat := l.foldl (fun m k => max m (grOf S k).deep) 0
theorem deepest_snoc (S : HS) (l : List Nat) (k : Nat) : deepest S (l ++ [k]) = max (deepest S l) (grOf S k).deep := by
  unfold deepest
  rw [List.foldl_append]
  rfl
theorem deepest_le {S : HS} (T : HTree S) (l : List Nat) (h : ∀ k, k ∈ l → ∃ y, S.G k = some y) : deepest S l ≤ 8 := by
  have key : ∀ (l : List Nat) (m : Nat), m ≤ 8 → (∀ k, k ∈ l → ∃ y, S.G k = some y) → l.foldl (fun m k => max m (grOf S k).deep) m ≤ 8 := by
    intro l
    induction l with
    | nil => exact fun m h _ => h
    | cons a l ih =>
      intro m hm h
      rw [List.foldl_cons]
      refine ih _ ?_ fun k hk => h k (List.mem_cons_of_mem _ hk)
      obtain ⟨y, hy⟩ := h a List.mem_cons_self
      have := T.deep a y hy
      unfold grOf
      rw [hy]
      exact Nat.max_le.2 ⟨hm, this⟩
  exact key l 0 (by omega) h
/-- a group is told another depth -/
def deeper (by_ : Int) (S : HS) (k : Nat) : HS := S.put k (some { grOf S k with deep := (((grOf S k).deep : Int) + by_).toNat })
def deepL (by_ : Int) (S : HS) (l : List Nat) : HS := l.foldl (deeper by_) S
theorem deepL_snoc (by_ : Int) (S : HS) (l : List Nat) (k : Nat) : deepL by_ S (l ++ [k]) = deeper by_ (deepL by_ S l) k := by
  unfold deepL
  rw [List.foldl_append]
  rfl
theorem grOf_some {S : HS} {k : Nat} {y : Gr} (h : S.G k = some y) : grOf S k = y := by
  unfold grOf
  rw [h]
  rfl
theorem deepL_other {by_ : Int} {k : Nat} : ∀ (l : List Nat) (S : HS), k ∉ l → (deepL by_ S l).G k = S.G k
  | [], _, _ => rfl
  | a :: l, S, h => by
    show (deepL by_ (deeper by_ S a) l).G k = _
    rw [deepL_other l _ (fun hk => h (List.mem_cons_of_mem _ hk))]
    exact HS.put_other _ _ (fun e => h (e ▸ List.mem_cons_self))
theorem deepL_like {by_ : Int} {k : Nat} : ∀ (l : List Nat) (S : HS) (y : Gr), (∀ a, a ∈ l → ∃ y, S.G a = some y) → S.G k = some y → ∃ y', (deepL by_ S l).G k = some y' ∧ y'.up = y.up ∧ y'.q = y.q ∧ y'.own = y.own
  | [], _, y, _, h => ⟨y, h, rfl, rfl, rfl⟩
  | a :: l, S, y, ha, h => by
    obtain ⟨z, hz⟩ := ha a List.mem_cons_self
    have hn : ∀ b, b ∈ l → ∃ y, (deeper by_ S a).G b = some y := fun b hb => by
      by_cases hba : b = a
      · subst hba
        exact ⟨_, HS.put_same _ _ _⟩
      · obtain ⟨y2, h2⟩ := ha b (List.mem_cons_of_mem _ hb)
        exact ⟨y2, (HS.put_other _ _ hba).trans h2⟩
    by_cases hka : k = a
    · subst hka
      obtain ⟨y', h1, h2, h3, h4⟩ := deepL_like l (deeper by_ S k) _ hn (HS.put_same _ _ _)
      rw [grOf_some h] at h2 h3 h4
      exact ⟨y', h1, h2, h3, h4⟩
    · exact deepL_like l (deeper by_ S a) y hn ((HS.put_other _ _ hka).trans h)
theorem deepL_none {by_ : Int} {k : Nat} (l : List Nat) (S : HS) (ha : ∀ a, a ∈ l → ∃ y, S.G a = some y) (h : S.G k = none) : (deepL by_ S l).G k = none := by
  rw [deepL_other l S fun hk => ?_]
  · exact h
  · obtain ⟨y, hy⟩ := ha k hk
    rw [h] at hy
    simp at hy
def moveBy (x p : Gr) : Int := ((p.deep : Int) + 1) - (x.deep : Int)
/-- what Move answers, where it is no loop -/
def moveC (S : HS) (i : Nat) (x p : Gr) : Int :=
  if ∃ k, k ∈ unders S i 32 ∧ (grOf S k).q.L ≠ [] then 6 else if 8 < (deepest S (unders S i 32) : Int) + moveBy x p then 5 else 0
def movV (S : HS) (x p : Gr) : Int := satZ (satZ x.own.v (-(grOf S x.up.toNat).q.mn)) p.q.mn
def moveHS (S : HS) (i j : Nat) (x p : Gr) : HS :=
  (deepL (moveBy x p) S (unders S i 32)).put i (some { grOf (deepL (moveBy x p) S (unders S i 32)) i with own := { x.own with v := movV S x p }, up := (j : Int) })
theorem Zer.mov {S : HS} (Z : Zer S) {i j : Nat} {x p : Gr} (hx : S.G i = some x) (hp : S.G j = some p) : movV S x p = x.own.v := by
  unfold movV
  have h1 : (grOf S x.up.toNat).q.mn = 0 := by
    unfold grOf
    cases hu : S.G x.up.toNat with
    | none => rfl
    | some y => exact (Z.G _ y hu).2.1
  rw [h1, (Z.G i x hx).1, (Z.G j p hp).2.1]
  decide
section
variable {S : HS} {d : Nat} {t : Int}
theorem Chn.deepest (C : Chn S d) (H : HTree S) : ∀ n, n ≤ 32 → deepest S (unders S 1 n) = if n ≤ d then n - 1 else d
  | 0, _ => by rw [if_pos (Nat.zero_le _)]; rfl
  | n + 1, hn => by
    have ih := Chn.deepest C H n (by omega)
    have d8 := C.d8
    rw [unders_step]
    by_cases hd : n ≤ d
    · obtain ⟨x, hx, _⟩ := C.le n hd
      rw [if_pos hd] at ih
      have hu := C.under 9 n (by omega) hd
      have e1 : underF 9 S n ((1 : Nat) : Int) = decide (1 ≤ n) := hu
      rw [hx, e1]
      by_cases h1 : 1 ≤ n
      · rw [if_pos (by simpa using h1), deepest_snoc, ih, grOf_some hx, C.deep H n x hd hx, Nat.max_eq_right (by omega)]
        split <;> omega
      · have h0 : n = 0 := by omega
        subst h0
        rw [if_neg (by simp)]
        rw [ih]
        split <;> omega
    · rw [if_neg hd] at ih
      have hno : ((S.G n).isSome && underF 9 S n ((1 : Nat) : Int)) = false := by
        by_cases h31 : n = 31
        · subst h31
          cases hx : S.G 31 with
          | none => rfl
          | some x =>
            have := C.under31 hx
            simpa using this
        · rw [C.no n (by omega) h31]
          rfl
      rw [hno, if_neg (by simp), ih, if_neg (by omega)]
theorem Chn.moveC (C : Chn S d) (H : HGood S) (T : Tk S d t False) (hd : 1 ≤ d) {x p : Gr} (hx : S.G 1 = some x) (hp : S.G 31 = some p) : moveC S 1 x p = if d = 8 then 5 else 0 := by
  unfold Go.Proofs.Ytefekboacghnjaa.moveC
  have d8 := C.d8
  rw [if_neg]
  · rw [C.deepest H.inv.tree 32 (by omega), if_neg (show ¬(32 ≤ d) by omega)]
    unfold moveBy
    rw [C.deep H.inv.tree 1 x hd hx, C.deep31 H.inv.tree hp]
    by_cases h8 : d = 8
    · rw [if_pos h8, if_pos (by omega)]
    · rw [if_neg h8, if_neg (by omega)]
  · rintro ⟨k, hk, hne⟩
    obtain ⟨h1, ⟨y, hy⟩, h3⟩ := unders_mem.1 hk
    rw [grOf_some hy] at hne
    refine hne (C.empty H T 9 k y ?_ (by omega) hy)
    refine Decidable.byContradiction fun h0 => ?_
    have : k = 0 := by omega
    subst this
    have hu := C.under 9 0 (by omega) (by omega)
    have e1 : underF 9 S 0 ((1 : Nat) : Int) = false := hu
    rw [e1] at h3
    simp at h3
/-- behind Move the last group has nobody, and none is within it -/
theorem Chn.moved (C : Chn S d) (H : HGood S) (T : Tk S d t False) (hd : 1 ≤ d) {x p : Gr} (hx : S.G 1 = some x) (_hp : S.G 31 = some p) :
    (∃ y, (moveHS S 1 31 x p).G d = some y ∧ y.q.ok ∧ y.q.L = []) ∧ ∀ k y, (moveHS S 1 31 x p).G k = some y → y.up ≠ (d : Int) := by
  have d8 := C.d8
  have hall : ∀ a, a ∈ unders S 1 32 → ∃ y, S.G a = some y := fun a ha => (unders_mem.1 ha).2.1
  have key : ∀ k y, (moveHS S 1 31 x p).G k = some y → ∃ y0, S.G k = some y0 ∧ y.q = y0.q ∧ (k ≠ 1 → y.up = y0.up) ∧ (k = 1 → y.up = 31) := fun k y hy => by
    unfold moveHS at hy
    by_cases hk : k = 1
    · subst hk
      rw [HS.put_same] at hy
      injection hy with hy
      subst hy
      obtain ⟨y', h1, _, h3, _⟩ := deepL_like (by_ := moveBy x p) (unders S 1 32) S x hall hx
      refine ⟨x, hx, ?_, fun h => absurd rfl h, fun _ => rfl⟩
      rw [grOf_some h1]
      exact h3
    · rw [HS.put_other _ _ hk] at hy
      cases h0 : S.G k with
      | none => rw [deepL_none _ _ hall h0] at hy; simp at hy
      | some y0 =>
        obtain ⟨y', h1, h2, h3, _⟩ := deepL_like (by_ := moveBy x p) (unders S 1 32) S y0 hall h0
        rw [hy] at h1
        injection h1 with h1
        subst h1
        exact ⟨y0, rfl, h3, fun _ => h2, fun h => absurd h hk⟩
  refine ⟨?_, fun k y hy hup => ?_⟩
  · obtain ⟨z, hz, _⟩ := C.le d (Nat.le_refl _)
    have hex : ∃ y, (moveHS S 1 31 x p).G d = some y := by
      unfold moveHS
      by_cases h1 : d = 1
      · subst h1
        exact ⟨_, HS.put_same _ _ _⟩
      · obtain ⟨y', h2, _⟩ := deepL_like (by_ := moveBy x p) (unders S 1 32) S z hall hz
        exact ⟨y', (HS.put_other _ _ h1).trans h2⟩
    obtain ⟨y, hy⟩ := hex
    obtain ⟨y0, h1, h2, _⟩ := key d y hy
    refine ⟨y, hy, ?_, ?_⟩
    · rw [h2]; exact H.inv.qok d y0 h1
    · rw [h2]; exact C.empty H T 1 d y0 hd (by omega) h1
  · obtain ⟨y0, h1, _, h3, h4⟩ := key k y hy
    by_cases hk : k = 1
    · have := h4 hk
      omega
    · have := C.kids hd h1 ((h3 hk).symm.trans hup)
      omega
end

end Go.Proofs.Ytefekboacghnjaa

namespace Go.Proofs.Ytefekboacghnjaa
open Go.RowKit Go.Maps

set_option maxRecDepth 100000 in
theorem rheld_sub (a b : Int) (ha1 : -9223372036854775808 ≤ a) (ha2 : a ≤ 9223372036854775807) (hb1 : -9223372036854775808 ≤ b) (hb2 : b ≤ 9223372036854775807) (w : World) :
    Calls Try.prog 128 #[.agg #[.func (.func 126) #[] #[], .func (.func 127) #[] #[]], .int .i64 a, .int .i64 b] w fun e w' => e = .returned (.tuple #[.int .i64 (satZ a (-b)), .bool (overZ a (-b))]) ∧ Below w.heap.size w w' := by
  obtain ⟨W1, hW1⟩ : ∃ W1, W1 = w.alloc (.cells #[.func (.func 126) #[] #[], .func (.func 127) #[] #[]] 170) := ⟨_, rfl⟩
  have hb : Below w.heap.size w W1 := by rw [hW1]; exact (Below.refl _ _).alloc (Nat.le_refl _) _
  by_cases h : a - b < -9223372036854775808 ∨ 9223372036854775807 < a - b
  · rw [show overZ a (-b) = true from decide_eq_true (by omega)]
    have M1 := Lib.hid fun W => fsub_no a b ha1 ha2 hb1 hb2 h W
    have M2 := Lib.hid fun W => fless_any a b ha1 ha2 hb1 hb2 W
    generalize satZ a (-b) = s at *
    have HB := Lib.hid hb
    have HW := Lib.hid hW1
    clear h hb hW1
    go_enter Try.func128, Try.ntmps128
    go_wp2_with fail
    refine (M1.out _).mono ?_
    rintro e w' ⟨rfl, rfl⟩
    go_wp2_with fail
    refine (M2.out _).mono ?_
    rintro e w2 ⟨rfl, hb2⟩
    go_wp2_with fail
    go_ret2
    rw [← HW.out] at hb2
    exact ⟨rfl, HB.out.trans (hb2.mono HB.out.size)⟩
  · rw [show overZ a (-b) = false from decide_eq_false (by omega)]
    have e : satZ a (-b) = a - b := by rw [satZ_in a (-b) (by omega) (by omega)]; omega
    have m1 := fun W => fsub_in a b ha1 ha2 hb1 hb2 (by omega) (by omega) W
    rw [← e] at m1
    have M1 := Lib.hid m1
    generalize satZ a (-b) = s at *
    have HB := Lib.hid hb
    have HW := Lib.hid hW1
    clear e m1 h hb hW1
    go_enter Try.func128, Try.ntmps128
    go_wp2_with fail
    refine (M1.out _).mono ?_
    rintro e w' ⟨rfl, rfl⟩
    go_wp2_with fail
    go_ret2
    rw [← HW.out]
    exact ⟨rfl, HB.out⟩
set_option maxRecDepth 100000 in
theorem rheld_add (a b : Int) (ha1 : -9223372036854775808 ≤ a) (ha2 : a ≤ 9223372036854775807) (hb1 : -9223372036854775808 ≤ b) (hb2 : b ≤ 9223372036854775807) (w : World) :
    Calls Try.prog 128 #[.agg #[.func (.func 67) #[] #[], .func (.func 68) #[] #[]], .int .i64 a, .int .i64 b] w fun e w' => e = .returned (.tuple #[.int .i64 (satZ a b), .bool (overZ a b)]) ∧ Below w.heap.size w w' := by
  obtain ⟨W1, hW1⟩ : ∃ W1, W1 = w.alloc (.cells #[.func (.func 67) #[] #[], .func (.func 68) #[] #[]] 170) := ⟨_, rfl⟩
  have hb : Below w.heap.size w W1 := by rw [hW1]; exact (Below.refl _ _).alloc (Nat.le_refl _) _
  by_cases h : a + b < -9223372036854775808 ∨ 9223372036854775807 < a + b
  · rw [show overZ a b = true from decide_eq_true (by omega)]
    have M1 := Lib.hid fun W => fadd_no a b ha1 ha2 hb1 hb2 h W
    have M2 := Lib.hid fun W => fsat_any a b ha1 ha2 hb1 hb2 W
    generalize satZ a b = s at *
    have HB := Lib.hid hb
    have HW := Lib.hid hW1
    clear h hb hW1
    go_enter Try.func128, Try.ntmps128
    go_wp2_with fail
    refine (M1.out _).mono ?_
    rintro e w' ⟨rfl, rfl⟩
    go_wp2_with fail
    refine (M2.out _).mono ?_
    rintro e w2 ⟨rfl, hb2⟩
    go_wp2_with fail
    go_ret2
    rw [← HW.out] at hb2
    exact ⟨rfl, HB.out.trans (hb2.mono HB.out.size)⟩
  · rw [show overZ a b = false from decide_eq_false (by omega)]
    have e : satZ a b = a + b := satZ_in a b (by omega) (by omega)
    have m1 := fun W => fadd_yes a b ha1 ha2 hb1 hb2 (by omega) (by omega) W
    rw [← e] at m1
    have M1 := Lib.hid m1
    generalize satZ a b = s at *
    have HB := Lib.hid hb
    have HW := Lib.hid hW1
    clear e m1 h hb hW1
    go_enter Try.func128, Try.ntmps128
    go_wp2_with fail
    refine (M1.out _).mono ?_
    rintro e w' ⟨rfl, rfl⟩
    go_wp2_with fail
    go_ret2
    rw [← HW.out]
    exact ⟨rfl, HB.out⟩
set_option maxRecDepth 100000 in
theorem roff_any (a b : Int) (ha1 : -9223372036854775808 ≤ a) (ha2 : a ≤ 9223372036854775807) (hb1 : -9223372036854775808 ≤ b) (hb2 : b ≤ 9223372036854775807) (w : World) :
    Calls Try.prog 111 #[.int .i64 a, .int .i64 b] w fun e w' => e = .returned (.tuple #[.int .i64 (satZ a (-b)), .bool (overZ a (-b))]) ∧ Below w.heap.size w w' := by
  have M1 := Lib.hid (rheld_sub a b ha1 ha2 hb1 hb2 w)
  generalize satZ a (-b) = s at *
  generalize overZ a (-b) = o at *
  go_enter Try.func111, Try.ntmps111
  go_wp2_with fail
  refine M1.out.mono ?_
  rintro e w' ⟨rfl, hb⟩
  go_wp2_with fail
  go_ret2
  exact ⟨rfl, hb⟩
set_option maxRecDepth 100000 in
theorem ron_any (a b : Int) (ha1 : -9223372036854775808 ≤ a) (ha2 : a ≤ 9223372036854775807) (hb1 : -9223372036854775808 ≤ b) (hb2 : b ≤ 9223372036854775807) (w : World) :
    Calls Try.prog 112 #[.int .i64 a, .int .i64 b] w fun e w' => e = .returned (.tuple #[.int .i64 (satZ a b), .bool (overZ a b)]) ∧ Below w.heap.size w w' := by
  have M1 := Lib.hid (rheld_add a b ha1 ha2 hb1 hb2 w)
  generalize satZ a b = s at *
  generalize overZ a b = o at *
  go_enter Try.func112, Try.ntmps112
  go_wp2_with fail
  refine M1.out.mono ?_
  rintro e w' ⟨rfl, hb⟩
  go_wp2_with fail
  go_ret2
  exact ⟨rfl, hb⟩
set_option maxRecDepth 100000 in
theorem rmove_any (v f t : Int) (hv1 : -9223372036854775808 ≤ v) (hv2 : v ≤ 9223372036854775807) (hf1 : -9223372036854775808 ≤ f) (hf2 : f ≤ 9223372036854775807) (ht1 : -9223372036854775808 ≤ t) (ht2 : t ≤ 9223372036854775807) (w : World) :
    Calls Try.prog 86 #[.int .i64 v, .int .i64 f, .int .i64 t] w fun e w' => e = .returned (.tuple #[.int .i64 (satZ (satZ v (-f)) t), .bool (overZ v (-f) || overZ (satZ v (-f)) t)]) ∧ Below w.heap.size w w' := by
  have M1 := Lib.hid fun W => roff_any v f hv1 hv2 hf1 hf2 W
  have M2 := Lib.hid fun W => ron_any (satZ v (-f)) t (satZ_lo _ _) (satZ_hi _ _) ht1 ht2 W
  generalize satZ (satZ v (-f)) t = s at *
  generalize overZ (satZ v (-f)) t = o2 at *
  generalize satZ v (-f) = s0 at *
  generalize overZ v (-f) = o at *
  go_enter Try.func86, Try.ntmps86
  go_wp2_with fail
  refine (M1.out _).mono ?_
  rintro e w1 ⟨rfl, hb1⟩
  go_wp2_with fail
  refine (M2.out _).mono ?_
  rintro e w2 ⟨rfl, hb2⟩
  cases o
  all_goals
    go_wp2_with fail
    go_ret2
    exact ⟨by simp, hb1.trans (hb2.mono hb1.size)⟩

end Go.Proofs.Ytefekboacghnjaa
