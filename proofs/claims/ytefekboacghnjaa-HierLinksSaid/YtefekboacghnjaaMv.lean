/-
  The tree of groups: Move.
  The tree of groups: Move, whatever stands under the group.
  Queues that are new: Link too deep or within nothing, Move, Unlink, Drop.
  HierLinks: the steps behind the chain.
-/
import Derived.Test.YtefekboacghnjaaMu
import Derived.Test.YtefekboacghnjaaMn

namespace Go.Proofs.Ytefekboacghnjaa
open Go.RowKit Go.Maps

theorem infoGp : (Try.prog.info? 116).map (fun i => (i.zero, i.size, i.bytes)) = some (some (.pointer none), 1, 8) := by kernel_rfl
theorem own_below {w w' : World} {base : Nat} {e : TypeId} {size n : Nat} {v : Value} {xs : List Value} (h : w.ownsRow base e size v n xs) (hb : Below w.heap.size w w') : w'.ownsRow base e size v n xs :=
  h.kept (row := none) ⟨hb.os, hb.tape, hb.output, hb.size, fun i hi _ => hb.block i hi⟩ (Classical.em _)
theorem cell_one_new (w : World) (a : Value) (t : TypeId) : ∀ j u, [a][j]? = some u → (w.alloc (.cells #[a] t)).cell? ((⟨w.heap.size, 0, none⟩ : Addr).add j) = some u := by
  intro j u hj
  match j, hj with
  | 0, hj => simp at hj; subst hj; simp [go_sem, Addr.add]
  | j + 1, hj => simp at hj
theorem under_deep {S : HS} (T : HTree S) {i : Nat} {x : Gr} (hx : S.G i = some x) : ∀ (n k : Nat) (y : Gr), S.G k = some y → underF n S k (i : Int) = true → x.deep ≤ y.deep
  | 0, k, y, _, h => by simp [underF] at h
  | n + 1, k, y, hy, h => by
    unfold underF at h
    by_cases hk : (k : Int) = (i : Int)
    · have hki : k = i := by omega
      subst hki
      rw [hx] at hy
      injection hy with hy
      subst hy
      exact Nat.le_refl _
    · rw [if_neg hk, hy] at h
      dsimp only at h
      by_cases hup : y.up = -1
      · rw [if_pos hup] at h
        simp at h
      · rw [if_neg hup] at h
        have h0 : k ≠ 0 := by
          rintro rfl
          obtain ⟨g, e1, e2, _⟩ := T.root
          rw [hy] at e1
          injection e1 with e1
          subst e1
          exact hup e2
        obtain ⟨u, q, e1, e2, e3⟩ := T.up k y h0 hy
        rw [e1, Int.toNat_natCast] at h
        have := under_deep T hx n u q e2 h
        omega
section
variable {w W : World} {h : Nat} {gb qb : Nat → Nat} {Fq : Nat → List Nat} {S D : HS} {K : Int}
/-- one group's depth is set -/
theorem HMem.deeper (m : HMem W h gb qb Fq D K) {k : Nat} {y : Gr} (hy : D.G k = some y) {by_ dn : Int} (hdn : dn = (y.deep : Int) + by_) (h0 : 0 ≤ dn) :
    HMem (W.setCell ⟨gb k, 1, none⟩ (.int .i64 dn)) h gb qb Fq (deeper by_ D k) K := by
  unfold Go.Proofs.Ytefekboacghnjaa.deeper
  rw [grOf_some hy]
  refine m.group hy rfl (Blk.set (m.grp k y hy) 1 (.int .i64 dn)) ?_ fun b _ hb => Below.heap_setCell W _ _ b hb
  have e : (((((y.deep : Int) + by_).toNat : Nat)) : Int) = dn := by omega
  show _ = #[Value.int .i64 y.up, .int .i64 ((((y.deep : Int) + by_).toNat : Nat) : Int), .pointer (some ⟨qb k, 0, none⟩), .int .i64 y.own.id, .int .u64 y.own.wt, .int .i64 y.own.v, .int .u64 y.own.rem, .bool y.on, .bool y.stopped]
  rw [e]
  rfl
theorem HMem.vset (m : HMem W h gb qb Fq D K) {i : Nat} {y : Gr} (hy : D.G i = some y) (v : Int) :
    HMem (W.setCell ⟨gb i, 5, none⟩ (.int .i64 v)) h gb qb Fq (D.put i (some { y with own := { y.own with v := v } })) K :=
  m.group hy rfl (Blk.set (m.grp i y hy) 5 (.int .i64 v)) rfl fun b _ hb => Below.heap_setCell W ⟨gb i, 5, none⟩ _ b hb
theorem HS.put_like {D : HS} {i k : Nat} {y z : Gr} (_hy : D.G i = some y) (hz : D.G k = some z) (y' : Gr) : ∃ z', (D.put i (some y')).G k = some z' := by
  by_cases hk : k = i
  · exact ⟨y', by rw [hk, HS.put_same]⟩
  · exact ⟨z, (HS.put_other _ _ hk).trans hz⟩
/-- the group itself: its vruntime, and within which one it is -/
theorem HMem.moved (m : HMem W h gb qb Fq D K) {i : Nat} {y : Gr} (hy : D.G i = some y) (v u : Int) :
    HMem ((W.setCell ⟨gb i, 5, none⟩ (.int .i64 v)).setCell ⟨gb i, 0, none⟩ (.int .i64 u)) h gb qb Fq (D.put i (some { y with own := { y.own with v := v }, up := u })) K := by
  refine m.group hy rfl (Blk.set (Blk.set (m.grp i y hy) 5 (.int .i64 v)) 0 (.int .i64 u)) rfl fun b _ hb => ?_
  exact (Below.heap_setCell _ ⟨gb i, 0, none⟩ _ b hb).trans (Below.heap_setCell W ⟨gb i, 5, none⟩ _ b hb)
end

end Go.Proofs.Ytefekboacghnjaa

namespace Go.Proofs.Ytefekboacghnjaa
open Go.RowKit Go.Maps

section
variable {w : World} {h : Nat} {gb qb : Nat → Nat} {Fq : Nat → List Nat} {S : HS} {K : Int}
set_option maxRecDepth 100000 in
set_option maxHeartbeats 16000000 in
theorem hmove_any (m : HMem w h gb qb Fq S K) (T : HTree S) {i j : Nat} {x p : Gr} (h0 : i ≠ 0) (hx : S.G i = some x) (hp : S.G j = some p) (hok : ∀ u y, S.G u = some y → y.q.ok) (hv1 : -9223372036854775808 ≤ x.own.v) (hv2 : x.own.v ≤ 9223372036854775807) (hu : underF 9 S j (i : Int) = false) (hmv : movV S x p = x.own.v) :
    Calls Try.prog 29 #[.pointer (some ⟨h, 0, none⟩), .int .i64 (i : Int), .int .i64 (j : Int)] w fun e w' => e = .returned (.int .i64 (moveC S i x p)) ∧
      Hid ((moveC S i x p = 0 → HMem w' h gb qb Fq (moveHS S i j x p) K ∧ Turns (hblocks h gb Fq S) w w') ∧ (moveC S i x p ≠ 0 → Below w.heap.size w w')) := by
  obtain ⟨i0, hi, iz0, iz1, iz2⟩ := info_parts infoGp
  have hi32 := m.idx hx
  have ML := Lib.hid (hlinked_some m h0 hx)
  have MA := Lib.hid (hat_some m hp)
  have MU := Lib.hid (hunder_any m T (i : Int) hp)
  rw [hu] at MU
  have MV := Lib.hid fun (k : Nat) (z : Gr) (hz : S.G k = some z) (W : World) (hW : Below w.heap.size w W) => hunder_any (m.below hW) T (i : Int) hz
  have MEN := Lib.hid fun (k : Nat) (z : Gr) (hz : S.G k = some z) (W : World) (hW : Below w.heap.size w W) => qents_any ((m.below hW).que k z hz)
  obtain ⟨cs, hcs⟩ : ∃ cs : List Value, cs = (List.range 32).map (gpV gb S) := ⟨_, rfl⟩
  have hlen : cs.length = 32 := by rw [hcs]; simp
  have hat : ∀ i, i < 32 → cs[i]? = some (gpV gb S i) := fun i hi => by rw [hcs]; simp [hi]
  have hrg : w.rangeAt h 2 cs := fun j v hv => by
    have hj : j < 32 := by
      rw [← hlen]
      exact (List.getElem?_eq_some_iff.1 hv).1
    rw [hat j hj] at hv
    rw [Blk.cell m.blk, hcells_at gb S hj]
    exact hv
  have hinf : (Try.prog.info? 117).map (·.size) = some cs.length := by rw [hlen]; rfl
  have HLD := Lib.hid (And.intro hrg hinf)
  have HC := Lib.hid (And.intro hat m)
  have HX := Lib.hid (And.intro hx (And.intro hp (And.intro hok (And.intro hv1 (And.intro hv2 (And.intro h0 T))))))
  have HMV := Lib.hid hmv
  clear hmv m T hx hp hu h0 hok hv1 hv2 hcs hlen hat hrg hinf
  go_enter Try.func29, Try.ntmps29
  go_wp2_with (first
    | (go_at_call 84; refine ML.out.mono ?_; rintro r w' ⟨rfl, rfl⟩)
    | (go_at_call 82; refine MA.out.mono ?_; rintro r w' ⟨rfl, rfl⟩)
    | (go_at_call 85; refine MU.out.mono ?_; rintro r w' ⟨rfl, rfl⟩)
    | (refine wpList_load_mid rfl 117 (.tmp 34) rfl h 2 rfl cs _ HLD.out.1 Try.underlying117 rfl HLD.out.2 ?_))
  clear HLD ML MA MU
  go_loopw [9, 10, 36] (fun s9 s10 s36 wr => ∃ k mm : Nat, k ≤ 32 ∧ s36 = .int .i64 k ∧ s10 = .int .i64 mm ∧ mm = deepest S (unders S i k) ∧ wr.ownsRow w.heap.size 116 1 s9 (unders S i k).length ((unders S i k).map fun q => .pointer (some ⟨gb q, 0, none⟩)) ∧ Below w.heap.size w wr ∧ ∀ q, q ∈ unders S i k → (grOf S q).q.L = []) (fun _ _ s36 _ => 32 - (intOf s36).toNat)
  case atStart => exact ⟨0, 0, by omega, rfl, rfl, rfl, World.ownsRow_nil _ _ _ _, Below.refl _ _, fun q hq => by simp [unders] at hq⟩
  case round =>
    obtain ⟨k, mm, hk, rfl, rfl, hmm, hown, hB, hem⟩ := hrel
    by_cases hlt : k < 32
    · have k0 : (0 : Int) ≤ (k : Int) := Int.natCast_nonneg _
      have k1 : (k : Int) < 32 := by omega
      have k2 : decide (k < 32) = true := decide_eq_true hlt
      have k3 : decide ((k : Int) < 32) = true := decide_eq_true k1
      have hv := HC.out.1 k hlt
      have HI := fun W => run_index32 cs hlt hv W
      unfold gpV at HI
      have HR := Lib.hid (And.intro hmm (And.intro hown (And.intro hB hem)))
      have HLT := Lib.hid hlt
      cases hz : S.G k with
      | none =>
        rw [hz] at HI
        simp only [Option.map_none] at HI
        have HUS := Lib.hid (show unders S i (k + 1) = unders S i k by rw [unders_step, hz]; rfl)
        clear hv hown hB hem hmm
        go_wp2_with fail
        go_roundw
        case rel => exact ⟨k + 1, mm, HLT.out, by go_num, rfl, by rw [HUS.out]; exact HR.out.1, by rw [HUS.out]; exact HR.out.2.1, HR.out.2.2.1, by rw [HUS.out]; exact HR.out.2.2.2⟩
        case measure => simp [intOf]; omega
      | some z =>
        rw [hz] at HI
        simp only [Option.map_some] at HI
        cases hun : underF 9 S k (i : Int) with
        | false =>
          have MV1 := MV.out k z hz wr HR.out.2.2.1
          rw [hun] at MV1
          replace MV1 := Lib.hid MV1
          have HUS := Lib.hid (show unders S i (k + 1) = unders S i k by rw [unders_step, hz, hun]; rfl)
          clear hv hown hB hem hmm
          go_wp2_with (go_at_call 85; refine MV1.out.mono ?_; rintro r w' ⟨rfl, rfl⟩)
          go_roundw
          case rel => exact ⟨k + 1, mm, HLT.out, by go_num, rfl, by rw [HUS.out]; exact HR.out.1, by rw [HUS.out]; exact HR.out.2.1, HR.out.2.2.1, by rw [HUS.out]; exact HR.out.2.2.2⟩
          case measure => simp [intOf]; omega
        | true =>
          have MV1 := MV.out k z hz wr HR.out.2.2.1
          rw [hun] at MV1
          replace MV1 := Lib.hid MV1
          have HUS := Lib.hid (show unders S i (k + 1) = unders S i k ++ [k] by rw [unders_step, hz, hun]; rfl)
          have y2 := ((HC.out.2.below hB).cells hz).2.2.1
          have ME := Lib.hid (MEN.out k z hz wr HR.out.2.2.1)
          have HZ := Lib.hid (And.intro hz (And.intro hun (ents_pos (HX.out.2.2.1 k z hz))))
          clear hv hown hB hem hmm
          go_wp2_with (go_at_call 85; refine MV1.out.mono ?_; rintro r w' ⟨rfl, rfl⟩)
          refine ME.out.mono ?_
          rintro r w2 ⟨v, hr, HV⟩
          obtain ⟨A, cc, rfl, hrow, hlen⟩ := own_ents HV.out.1
          subst hr
          have HB2 := Lib.hid (HR.out.2.2.1.trans (HV.out.2.mono HR.out.2.2.1.size))
          have hown2 := own_below HR.out.2.1 HV.out.2
          obtain ⟨el, hel⟩ : ∃ el, el = z.q.ents.length := ⟨_, rfl⟩
          have hp := HZ.out.2.2
          rw [← hel] at hp ⊢
          clear hrow hlen hel y2
          by_cases hq : z.q.L = []
          · have he0 : el = 0 := by rw [hp, hq]; rfl
            subst he0
            have HQ := Lib.hid hq
            have nlt := unders_len S i k
            obtain ⟨nn, hnn⟩ : ∃ nn, nn = (unders S i k).length := ⟨_, rfl⟩
            obtain ⟨xs, hxs⟩ : ∃ xs : List Value, xs = (unders S i k).map fun q => .pointer (some ⟨gb q, 0, none⟩) := ⟨_, rfl⟩
            rw [← hnn, ← hxs] at hown2
            rw [← hnn] at nlt
            have HNN := Lib.hid (And.intro hnn hxs)
            obtain ⟨zd, hzd⟩ : ∃ zd, zd = z.deep := ⟨_, rfl⟩
            obtain ⟨m2, hm2⟩ : ∃ m2, m2 = max mm zd := ⟨_, rfl⟩
            have hmax : max (mm : Int) (zd : Int) = (m2 : Int) := by omega
            have HM2 := Lib.hid (And.intro hm2 hzd)
            have YD : Hid (∀ W, Below w.heap.size w W → W.cell? ⟨gb k, 1, none⟩ = some (.int .i64 (zd : Int))) := Lib.hid fun W hW => by
              rw [hzd]
              exact ((HC.out.2.below hW).cells HZ.out.1).2.1
            have hsz2 := HB2.out.size
            clear hp hq hnn hxs hm2 hzd
            go_wp2_with (at_builtin; refine wpList_append_own _ rfl (.tmp 56) (.tmp 58) 124 rfl w.heap.size 116 i0 _ 1 8 Try.underlying124 hi iz0 iz1 iz2 rfl (by decide) _ nn xs rfl (hown2.alloc _) ⟨w2.heap.size, 0, none⟩ 1 1 [.pointer (some ⟨gb k, 0, none⟩)] rfl rfl (cell_one_new _ _ _) (by simp [Value.oneCell']) (by unfold maxLen; omega) (by omega) (by simp; omega) ?_; intro v' w3 hown3 hgrow3 _; have hB3 : Below w.heap.size w w3 := (HB2.out.alloc HB2.out.size _).grown hgrow3 (by simp; omega) (fun b hb => (hown2.lt b hb).1); have y1 := YD.out w3 hB3; have HB3 := Lib.hid hB3; clear hB3)
            go_roundw
            case rel =>
              refine ⟨k + 1, m2, HLT.out, by go_num, rfl, ?_, ?_, HB3.out, ?_⟩
              · rw [HUS.out, deepest_snoc, grOf_some HZ.out.1, HM2.out.1, HM2.out.2, HR.out.1]
              · rw [HUS.out, List.length_append, List.map_append, ← HNN.out.1, ← HNN.out.2]
                exact hown3
              · rw [HUS.out]
                intro q hq
                rcases List.mem_append.1 hq with hq | hq
                · exact HR.out.2.2.2 q hq
                · rw [List.mem_singleton] at hq
                  rw [hq, grOf_some HZ.out.1]
                  exact HQ.out
            case measure => simp [intOf]; omega
          · have hpos : 0 < el := by rw [hp]; exact List.length_pos_iff.2 hq
            have z2 : decide ((0 : Int) < (el : Int)) = true := decide_eq_true (by omega)
            have z3 : decide (0 < el) = true := decide_eq_true hpos
            have HMC := Lib.hid (show moveC S i x p = 6 from if_pos ⟨k, unders_mem.2 ⟨HLT.out, ⟨z, HZ.out.1⟩, HZ.out.2.1⟩, by rw [grOf_some HZ.out.1]; exact hq⟩)
            clear hp hq hown2
            go_wp2_with fail
            go_ret
            refine ⟨by rw [HMC.out]; rfl, Lib.hid ⟨fun h6 => ?_, fun _ => HB2.out⟩⟩
            rw [HMC.out] at h6
            exact absurd h6 (by decide)
    · obtain rfl : k = 32 := by omega
      obtain ⟨Ls, hLs⟩ : ∃ Ls, Ls = unders S i 32 := ⟨_, rfl⟩
      rw [← hLs] at hmm hown hem
      have hLex : ∀ q, q ∈ Ls → ∃ y, S.G q = some y := fun q hq => by rw [hLs] at hq; exact (unders_mem.1 hq).2.1
      have hmc : moveC S i x p = if 8 < (mm : Int) + moveBy x p then 5 else 0 := by
        unfold moveC
        rw [← hLs, ← hmm, if_neg]
        rintro ⟨q, hq, hne⟩
        exact hne (hem q hq)
      have hm8 : mm ≤ 8 := by rw [hmm]; exact deepest_le HX.out.2.2.2.2.2.2 Ls hLex
      obtain ⟨A, c, rfl, hA⟩ : ∃ A c, u9 = .slice A Ls.length c ∧ ∀ k q, Ls[k]? = some q → ∃ b, A = some ⟨b, 0, none⟩ ∧ w.heap.size ≤ b ∧ b < wr.heap.size ∧ wr.cell? ⟨b, k, none⟩ = some (.pointer (some ⟨gb q, 0, none⟩)) := by
        rcases row_cells hown with ⟨rfl, h0⟩ | ⟨b, c, rfl, hb1, hb2, _, hc⟩
        · refine ⟨none, 0, by rw [h0], fun k q hk => ?_⟩
          have := (List.getElem?_eq_some_iff.1 hk).1
          omega
        · refine ⟨_, c, rfl, fun k q hk => ⟨b, rfl, hb1, hb2, ?_⟩⟩
          have hkl := (List.getElem?_eq_some_iff.1 hk).1
          rw [hc k (by omega), List.getElem?_map, hk]
          rfl
      have hTd := HX.out.2.2.2.2.2.2
      have hxd := hTd.deep i x HX.out.1
      have hpd := hTd.deep j p HX.out.2.1
      have mB := HC.out.2.below hB
      have p1 := (mB.cells HX.out.2.1).2.1
      have x1 := (mB.cells HX.out.1).2.1
      have hbz : moveBy x p = ((p.deep : Int) + 1) - (x.deep : Int) := rfl
      have HDQ := Lib.hid fun (q : Nat) (y : Gr) (hq : q ∈ Ls) (hy : S.G q = some y) => (show x.deep ≤ y.deep ∧ y.deep ≤ 8 by
        rw [hLs] at hq
        exact ⟨under_deep hTd HX.out.1 9 q y hy (unders_mem.1 hq).2.2, hTd.deep q y hy⟩)
      have HVV : Hid (moveHS S i j x p = (deepL (moveBy x p) S Ls).put i (some { grOf (deepL (moveBy x p) S Ls) i with own := { x.own with v := movV S x p }, up := (j : Int) })) := Lib.hid (by
        unfold moveHS
        rw [← hLs])
      have hnd : Ls.Nodup := by rw [hLs]; exact unders_nodup S i 32
      have HLN := Lib.hid (congrArg List.length hLs)
      have HLS := Lib.hid (And.intro hLex (And.intro hnd hA))
      have HWR := Lib.hid (And.intro hB mB)
      clear hLs hmm hown hem hTd hLex hA mB hnd
      generalize moveBy x p = bz at *
      obtain ⟨xd, hxd'⟩ : ∃ xd, xd = x.deep := ⟨_, rfl⟩
      obtain ⟨pd, hpd'⟩ : ∃ pd, pd = p.deep := ⟨_, rfl⟩
      rw [← hxd'] at hxd x1 hbz HDQ
      rw [← hpd'] at hpd p1 hbz
      have e1 : IntKind.i64.wrap ((pd : Int) + 1) = (pd : Int) + 1 := by rw [IntKind.wrap_i64]; omega
      have e2 : IntKind.i64.wrap ((pd : Int) + 1 - (xd : Int)) = bz := by rw [IntKind.wrap_i64]; omega
      obtain ⟨sm, hsm⟩ : ∃ sm, sm = (mm : Int) + bz := ⟨_, rfl⟩
      have e3 : IntKind.i64.wrap ((mm : Int) + bz) = sm := by rw [IntKind.wrap_i64]; omega
      rw [← hsm] at hmc
      have HBD := Lib.hid (And.intro hbz (And.intro hxd (And.intro hpd hmc)))
      clear hxd' hpd' hbz hsm hmc hxd hpd hB hm8
      go_wp2_with fail
      go_big_quiet (fail)
      by_cases h8 : 8 < sm
      · have z1 : decide ((8 : Int) < sm) = true := decide_eq_true h8
        have HMC := Lib.hid (show moveC S i x p = 5 from HBD.out.2.2.2.trans (if_pos h8))
        go_wp2_with fail
        go_ret
        refine ⟨by rw [HMC.out]; rfl, Lib.hid ⟨fun h6 => ?_, fun _ => HWR.out.1.trans (below_drewN (Below.refl _ _) _)⟩⟩
        rw [HMC.out] at h6
        exact absurd h6 (by decide)
      · have z1 : decide ((8 : Int) < sm) = false := decide_eq_false h8
        have HMC := Lib.hid (show moveC S i x p = 0 from HBD.out.2.2.2.trans (if_neg h8))
        obtain ⟨nl, hnl⟩ : ∃ nl, nl = Ls.length := ⟨_, rfl⟩
        rw [← hnl]
        have HNL := Lib.hid hnl
        have hnl32 : nl ≤ 32 := by rw [hnl, HLN.out]; exact unders_len S i 32
        clear h8 hnl e1 e2 p1 x1
        go_wp2_with fail
        clear e3
        go_loopw [83] (fun s83 W => ∃ k : Nat, k ≤ nl ∧ s83 = .int .i64 k ∧ HMem W h gb qb Fq (deepL bz S (Ls.take k)) K ∧ Turns (hblocks h gb Fq S) w W ∧ ∀ b, w.heap.size ≤ b → b < wr.heap.size → W.heap[b]? = wr.heap[b]?) (fun s83 _ => nl - (intOf s83).toNat)
        case atStart => exact ⟨0, Nat.zero_le _, rfl, HWR.out.2.below (below_drewN (Below.refl _ _) _), Turns.of_below (HWR.out.1.trans (below_drewN (Below.refl _ _) _)), fun b _ _ => rfl⟩
        case round =>
          obtain ⟨k, hk, rfl, hM, hT, hrow⟩ := hrel
          by_cases hgo : k < nl
          · have hkl : k < Ls.length := by rw [← HNL.out]; exact hgo
            obtain ⟨q, hq⟩ : ∃ q, Ls[k]? = some q := ⟨_, List.getElem?_eq_getElem hkl⟩
            have hqm : q ∈ Ls := List.mem_of_getElem? hq
            obtain ⟨y, hy⟩ := HLS.out.1 q hqm
            have hnin : q ∉ Ls.take k := by
              intro hin
              obtain ⟨a, ha, hqa⟩ := List.getElem_of_mem hin
              have hal : a < k := by rw [List.length_take] at ha; omega
              have h2 : Ls[a]? = some q := by rw [← hqa, List.getElem_take, List.getElem?_eq_getElem (by omega)]
              have h3 := (List.getElem?_inj (by omega) HLS.out.2.1).1 (h2.trans hq.symm)
              omega
            have hDy : (deepL bz S (Ls.take k)).G q = some y := (deepL_other _ _ hnin).trans hy
            obtain ⟨b, rfl, hb1, hb2, hc⟩ := HLS.out.2.2 k q hq
            have c0 : wr.cell? ⟨b, k, none⟩ = some (.pointer (some ⟨gb q, 0, none⟩)) := by
              rw [← hc]
              simp only [World.cell?, hrow b hb1 hb2]
            have d1 := (hM.cells hDy).2.1
            have df := (hM.cells hDy).2.2.2.2.2.2.2.2.2
            obtain ⟨hy1, hy2⟩ := HDQ.out q y hqm hy
            obtain ⟨yd, hyd⟩ : ∃ yd, yd = y.deep := ⟨_, rfl⟩
            rw [← hyd] at d1 hy1 hy2
            obtain ⟨dn, hdn⟩ : ∃ dn, dn = (yd : Int) + bz := ⟨_, rfl⟩
            have hbd := HBD.out
            have e5 : IntKind.i64.wrap ((yd : Int) + bz) = dn := by rw [IntKind.wrap_i64]; omega
            have hdn0 : 0 ≤ dn := by omega
            have z2 : decide ((k : Int) < (nl : Int)) = true := decide_eq_true (by omega)
            have z3 : decide (k < nl) = true := decide_eq_true hgo
            have j0 : (0 : Int) ≤ (k : Int) := Int.natCast_nonneg _
            have j1 : (k : Int) < (nl : Int) := by omega
            have HK := Lib.hid (And.intro hM (And.intro hT (And.intro hrow (And.intro hDy (And.intro (hyd ▸ hdn) (And.intro hdn0 hq))))))
            have HGO := Lib.hid hgo
            clear hM hT hrow hDy hdn hdn0 hq hqm hy hnin hc hbd hy1 hy2 hyd hkl
            go_wp2_with fail
            go_roundw
            case rel =>
              obtain ⟨hM, hT, hrow, hDy, hdn, hdn0, hq⟩ := HK.out
              have htk : Ls.take (k + 1) = Ls.take k ++ [q] := by
                rw [List.take_add_one, hq]
                rfl
              refine ⟨k + 1, HGO.out, by go_num, ?_, ?_, ?_⟩
              · rw [htk, deepL_snoc]
                exact hM.deeper hDy hdn hdn0
              · refine hT.setCell (p := ⟨gb q, 1, none⟩) (.inl ?_) _
                obtain ⟨y0, hy0⟩ := HLS.out.1 q (List.mem_of_getElem? hq)
                exact (hblocks_mem HC.out.2.top).2 (.inr ⟨q, y0, hy0, .inl rfl⟩)
              · intro b2 h1 h2
                obtain ⟨y0, hy0⟩ := HLS.out.1 q (List.mem_of_getElem? hq)
                have hlt := (HC.out.2.grp q y0 hy0).lt
                exact (Below.heap_setCell _ ⟨gb q, 1, none⟩ _ b2 (by show b2 ≠ gb q; omega)).trans (hrow b2 h1 h2)
            case measure => simp [intOf]; omega
          · obtain rfl : k = nl := by omega
            rw [List.take_of_length_le (by rw [← HNL.out]; exact Nat.le_refl _)] at hM
            obtain ⟨x', hx', hxu, hxq, hxo⟩ := deepL_like (by_ := bz) Ls S x HLS.out.1 HX.out.1
            obtain ⟨p', hp', _, hpq, _⟩ := deepL_like (by_ := bz) Ls S p HLS.out.1 HX.out.2.1
            obtain ⟨u, pu, hu1, hu2, _⟩ := HX.out.2.2.2.2.2.2.up i x HX.out.2.2.2.2.2.1 HX.out.1
            obtain ⟨pu', hpu', _, hpuq, _⟩ := deepL_like (by_ := bz) Ls S pu HLS.out.1 hu2
            have hpok := HX.out.2.2.1 j p HX.out.2.1
            have hpuok := HX.out.2.2.1 u pu hu2
            have hu32 := HC.out.2.idx hu2
            have hvv : movV S x p = satZ (satZ x.own.v (-pu.q.mn)) p.q.mn := by
              unfold movV
              rw [hu1, Int.toNat_natCast, grOf_some hu2]
            obtain ⟨ov, hov⟩ : ∃ ov, ov = x.own.v := ⟨_, rfl⟩
            obtain ⟨am, ham⟩ : ∃ am, am = pu.q.mn := ⟨_, rfl⟩
            obtain ⟨bm, hbm⟩ : ∃ bm, bm = p.q.mn := ⟨_, rfl⟩
            rw [HMV.out, ← hov, ← ham, ← hbm] at hvv
            have M1 := Lib.hid fun W' (hW : Below wr.heap.size wr W') => qmin_any ((hM.below hW).que u pu' hpu')
            have M2 := Lib.hid fun W' (hW : Below wr.heap.size wr W') => qmin_any ((hM.below hW).que j p' hp')
            rw [hpuq, ← ham] at M1
            rw [hpq, ← hbm] at M2
            have M3 := fun W' => rmove_any ov am bm (by rw [hov]; exact HX.out.2.2.2.1) (by rw [hov]; exact HX.out.2.2.2.2.1) (by rw [ham]; exact hpuok.m1) (by rw [ham]; exact hpuok.m2) (by rw [hbm]; exact hpok.m1) (by rw [hbm]; exact hpok.m2) W'
            rw [← hvv] at M3
            have HOV := Lib.hid (show movV S x p = ov by rw [HMV.out, hov])
            generalize (overZ ov (-am) || overZ (satZ ov (-am)) bm) = oo at M3
            have g5 : wr.cell? ⟨gb i, 5, none⟩ = some (.int .i64 ov) := by rw [hov, ← hxo]; exact (hM.cells hx').2.2.2.2.2.1
            have g0 : wr.cell? ⟨gb i, 0, none⟩ = some (.int .i64 (u : Int)) := by rw [← hu1, ← hxu]; exact (hM.cells hx').1
            have SO := Lib.hid fun W' (hW : Below wr.heap.size wr W') => (⟨(hW.cell (p := ⟨gb i, 5, none⟩) (hM.grp i x' hx').lt).trans g5, (hW.cell (p := ⟨gb i, 0, none⟩) (hM.grp i x' hx').lt).trans g0, (hM.below hW).ptr_some hpu', ((hM.below hW).cells hpu').2.2.1, ((hM.below hW).cells hp').2.2.1, Blk.frozen ((hM.below hW).grp i x' hx')⟩ :
              W'.cell? ⟨gb i, 5, none⟩ = some (.int .i64 ov) ∧ W'.cell? ⟨gb i, 0, none⟩ = some (.int .i64 (u : Int)) ∧ W'.cell? ⟨h, 2 + u, none⟩ = some (.pointer (some ⟨gb u, 0, none⟩)) ∧ W'.cell? ⟨gb u, 2, none⟩ = some (.pointer (some ⟨qb u, 0, none⟩)) ∧ W'.cell? ⟨gb j, 2, none⟩ = some (.pointer (some ⟨qb j, 0, none⟩)) ∧ ∀ l, W'.frozen? ⟨gb i, l, none⟩ = false)
            have SOS := Lib.hid fun W' (hW : Below wr.heap.size wr W') => (show
              (W'.setCell ⟨gb i, 5, none⟩ (.int .i64 ov)).cell? ⟨gb i, 5, none⟩ = some (.int .i64 ov) ∧ (W'.setCell ⟨gb i, 5, none⟩ (.int .i64 ov)).cell? ⟨gb i, 0, none⟩ = some (.int .i64 (u : Int)) ∧ (W'.setCell ⟨gb i, 5, none⟩ (.int .i64 ov)).cell? ⟨h, 2 + u, none⟩ = some (.pointer (some ⟨gb u, 0, none⟩)) ∧ (W'.setCell ⟨gb i, 5, none⟩ (.int .i64 ov)).cell? ⟨gb u, 2, none⟩ = some (.pointer (some ⟨qb u, 0, none⟩)) ∧ (W'.setCell ⟨gb i, 5, none⟩ (.int .i64 ov)).cell? ⟨gb j, 2, none⟩ = some (.pointer (some ⟨qb j, 0, none⟩)) ∧ ∀ l, (W'.setCell ⟨gb i, 5, none⟩ (.int .i64 ov)).frozen? ⟨gb i, l, none⟩ = false from by
              have m2 := (hM.below hW).vset hx' ov
              obtain ⟨zu, hzu⟩ := HS.put_like hx' hpu' { x' with own := { x'.own with v := ov } }
              obtain ⟨zj, hzj⟩ := HS.put_like hx' hp' { x' with own := { x'.own with v := ov } }
              have hs := HS.put_same (deepL bz S Ls) i (some { x' with own := { x'.own with v := ov } })
              refine ⟨(m2.cells hs).2.2.2.2.2.1, ?_, m2.ptr_some hzu, (m2.cells hzu).2.2.1, (m2.cells hzj).2.2.1, Blk.frozen (m2.grp i _ hs)⟩
              rw [← hu1, ← hxu]
              exact (m2.cells hs).1)
            have M4 : Hid (∀ W', Below wr.heap.size wr W' → Calls Try.prog 86 #[.int .i64 ov, .int .i64 am, .int .i64 bm] W' fun e w' => e = .returned (.tuple #[.int .i64 ov, .bool oo]) ∧ w'.cell? ⟨gb i, 5, none⟩ = some (.int .i64 ov) ∧ Below wr.heap.size wr w') := Lib.hid fun W' hW => (M3 W').mono fun e w' hp => by
              have hB := hW.trans (hp.2.mono hW.size)
              exact ⟨hp.1, (hB.cell (p := ⟨gb i, 5, none⟩) (hM.grp i x' hx').lt).trans g5, hB⟩
            have c1 := hM.ptr_some hpu'
            have c2 := (hM.cells hpu').2.2.1
            have c3 := (hM.cells hp').2.2.1
            have cf := Blk.frozen (hM.grp i x' hx')
            have j0 : (0 : Int) ≤ (u : Int) := Int.natCast_nonneg _
            have j1 : (u : Int) < 32 := by omega
            have j2 : decide (u < 32) = true := decide_eq_true hu32
            have z2 : decide ((k : Int) < (k : Int)) = false := decide_eq_false (by omega)
            have HE := Lib.hid (And.intro hM (And.intro hT (And.intro hx' hxo)))
            clear hM hT hrow hx' hxu hxq hxo hp' hpq hu1 hu2 hpu' hpuq hpok hpuok hov ham hbm hvv HDQ M3
            go_wp2_with fail
            apply wp_region_to (fun W' => Hid (∃ W0, Below wr.heap.size wr W0 ∧ W' = W0.setCell ⟨gb i, 5, none⟩ (.int .i64 ov)))
            case h =>
              go_region_held3 (fun W' => W'.cell? ⟨gb i, 5, none⟩ = some (.int .i64 ov) ∧ W'.cell? ⟨gb i, 0, none⟩ = some (.int .i64 (u : Int)) ∧ W'.cell? ⟨h, 2 + u, none⟩ = some (.pointer (some ⟨gb u, 0, none⟩)) ∧ W'.cell? ⟨gb u, 2, none⟩ = some (.pointer (some ⟨qb u, 0, none⟩)) ∧ W'.cell? ⟨gb j, 2, none⟩ = some (.pointer (some ⟨qb j, 0, none⟩)) ∧ ∀ l, W'.frozen? ⟨gb i, l, none⟩ = false)
                (first | exact SO.out _ ((Below.refl _ _).drew) | exact SO.out _ (by assumption) | exact SOS.out _ (by assumption))
                (first
                  | (go_at_call 79; refine (M1.out _ ((Below.refl _ _).drew)).mono ?_; rintro r w' ⟨rfl, rfl⟩)
                  | (go_at_call 79; refine (M2.out _ ((Below.refl _ _).drew)).mono ?_; rintro r w' ⟨rfl, rfl⟩)
                  | (go_at_call 86; refine (M4.out _ ((Below.refl _ _).drew)).mono ?_; rintro r w' ⟨rfl, y5, hb⟩))
              all_goals exact ⟨rfl, ⟨_, by assumption, rfl⟩⟩
            rintro W8 HW8
            obtain ⟨W0, hB0, hW8⟩ := HW8.out
            obtain ⟨-, k0, -, -, -, kf⟩ := SOS.out W0 hB0
            rw [← hW8] at k0 kf
            have HW9 := Lib.hid (And.intro hB0 hW8)
            clear hB0 hW8 HW8 SO SOS M1 M2 M4 c1 c2 c3 cf g5 g0
            go_wp2_with fail
            go_ret
            refine ⟨by rw [HMC.out]; rfl, Lib.hid ⟨fun _ => ?_, fun h6 => absurd HMC.out h6⟩⟩
            obtain ⟨hM, hT, hx', hxo⟩ := HE.out
            obtain ⟨hB0, hW8⟩ := HW9.out
            have m3 := (hM.below hB0).moved hx' ov (j : Int)
            rw [← hW8] at m3
            refine ⟨?_, ?_⟩
            · rw [HVV.out, grOf_some hx', ← hxo, HOV.out]
              exact m3
            · have hi1 : gb i ∈ hblocks h gb Fq S := (hblocks_mem HC.out.2.top).2 (.inr ⟨i, x, HX.out.1, .inl rfl⟩)
              rw [hW8]
              exact ((hT.below hB0 hT.size).setCell (.inl hi1) _).setCell (.inl hi1) _
end

end Go.Proofs.Ytefekboacghnjaa

namespace Go.Proofs.Ytefekboacghnjaa
open Go.RowKit Go.Maps

theorem hblocks_dom {h : Nat} {gb : Nat → Nat} {F : Nat → List Nat} {S S' : HS} (e : ∀ i, (S'.G i).isSome = (S.G i).isSome) : hblocks h gb F S' = hblocks h gb F S := by
  unfold hblocks
  congr 1
  have : (fun i => match S'.G i with | none => [] | some _ => gb i :: F i) = fun i => match S.G i with | none => [] | some _ => gb i :: F i := by
    funext i
    have := e i
    cases h1 : S'.G i with
    | none =>
      rw [h1] at this
      cases h2 : S.G i with
      | none => rfl
      | some y => rw [h2] at this; simp at this
    | some y =>
      rw [h1] at this
      cases h2 : S.G i with
      | none => rw [h2] at this; simp at this
      | some z => rfl
  exact congrArg (fun f => List.flatMap f (List.range 32)) this
theorem deepL_dom {by_ : Int} (l : List Nat) (S : HS) (ha : ∀ a, a ∈ l → ∃ y, S.G a = some y) (i : Nat) : ((deepL by_ S l).G i).isSome = (S.G i).isSome := by
  cases h : S.G i with
  | none => rw [deepL_none l S ha h]
  | some y =>
    obtain ⟨y', h1, _⟩ := deepL_like (by_ := by_) l S y ha h
    rw [h1]
    rfl
theorem moveHS_dom {S : HS} {i j : Nat} {x p : Gr} (hx : S.G i = some x) (k : Nat) : ((moveHS S i j x p).G k).isSome = (S.G k).isSome := by
  unfold moveHS
  by_cases hk : k = i
  · rw [hk, HS.put_same, hx]
    rfl
  · rw [HS.put_other _ _ hk]
    exact deepL_dom _ _ (fun a ha => (unders_mem.1 ha).2.1) k
section
variable {w0 w w' : World} {h : Nat} {S S' : HS} {K K' : Int}
theorem hn_move (a : HNew w0 w h S K) (H : HGood S) (Z : Zer S) {i j : Nat} {x p : Gr} (h0 : i ≠ 0) (hx : S.G i = some x) (hp : S.G j = some p) (hu : underF 9 S j (i : Int) = false) :
    Calls Try.prog 29 #[.pointer (some ⟨h, 0, none⟩), .int .i64 (i : Int), .int .i64 (j : Int)] w fun r w' => r = .returned (.int .i64 (moveC S i x p)) ∧
      Hid ((moveC S i x p = 0 → HNew w0 w' h (moveHS S i j x p) K) ∧ (moveC S i x p ≠ 0 → HNew w0 w' h S K)) := by
  obtain ⟨F, h1, h2, h3⟩ := a.ex
  obtain ⟨gb, qb, Fq, m, rfl⟩ := h1.ex
  have O := H.inv.own i x h0 hx
  refine (hmove_any m H.inv.tree h0 hx hp H.inv.qok O.v1 O.v2 hu (Z.mov hx hp)).mono fun r w' hpp => ?_
  obtain ⟨hr, hc⟩ := hpp
  refine ⟨hr, fun hz => ?_, fun hz => a.below (hc.out.2 hz)⟩
  obtain ⟨k1, k2⟩ := hc.out.1 hz
  have hd : hblocks h gb Fq (moveHS S i j x p) = hblocks h gb Fq S := hblocks_dom (moveHS_dom hx)
  exact HNew.of h2 h3 ⟨⟨gb, qb, Fq, k1, hd.symm⟩, k2, fun b hb => .inl hb⟩
theorem hn_loop (a : HNew w0 w h S K) (H : HGood S) {i j : Nat} {x y : Gr} (h0 : i ≠ 0) (hx : S.G i = some x) (hy : S.G j = some y) (hu : underF 9 S j (i : Int) = true) :
    Calls Try.prog 29 #[.pointer (some ⟨h, 0, none⟩), .int .i64 (i : Int), .int .i64 (j : Int)] w fun e w' => e = .returned (.int .i64 10) ∧ w = w' := by
  obtain ⟨F, h1, _, _⟩ := a.ex
  obtain ⟨gb, qb, Fq, m, rfl⟩ := h1.ex
  exact hmove_loop m H.inv.tree h0 hx hy hu
theorem hn_unlink (a : HNew w0 w h S K) {i : Nat} {x : Gr} (h0 : i ≠ 0) (hg : S.G i = some x) (hok : x.q.ok) (hno : ∀ j y, S.G j = some y → y.up ≠ (i : Int)) :
    Calls Try.prog 31 #[.pointer (some ⟨h, 0, none⟩), .int .i64 (i : Int)] w fun r w' => r = .returned (.int .i64 (unlinkI x)) ∧ Hid (Below w0.heap.size w0 w' ∧ (x.q.L ≠ [] → HNew w0 w' h S K)) := by
  obtain ⟨F, h1, h2, h3⟩ := a.ex
  obtain ⟨gb, qb, Fq, m, rfl⟩ := h1.ex
  refine (hunlink_leaf m h0 (m.idx hg) hg hok hno).mono fun r w' hpp => ?_
  obtain ⟨hr, hc⟩ := hpp
  refine ⟨hr, Below.turns h2 hc.out.1 (fun b hb => ?_) h2.size, fun hL => a.below (hc.out.2 hL)⟩
  rw [List.mem_singleton] at hb
  exact h3 b ((hblocks_mem m.top).2 (.inl hb))
theorem hn_drop (a : HNew w0 w h S K) (H : HGood S) (hK : K + 10000 ≤ 1000000000000000) {i : Nat} {x : Gr} (hg : S.G i = some x) (t : Int) (t0 : 0 ≤ t) (t1 : t < 64) (e : En) (hx : x.q.get (2 * t) = some e) :
    Calls Try.prog 32 #[.pointer (some ⟨h, 0, none⟩), .int .i64 (i : Int), .int .i64 t] w fun r w' => r = .returned (.tuple #[enV { e with id := t }, .int .i64 0]) ∧ Hid (HNew w0 w' h (dropHS S i x (2 * t)) (K + 10000)) := by
  obtain ⟨F, h1, h2, h3⟩ := a.ex
  refine (hdrop_some h1 hK hg (H.inv.chain hg) t t0 t1 e hx).mono fun r w' hpp => ?_
  obtain ⟨hr, F', hT⟩ := hpp
  exact ⟨hr, HNew.of h2 h3 hT.out⟩
/-- a chain that is linked so far -/
structure Lnk (w0 w : World) (h g : Nat) : Prop where
  ex : ∃ S, HNew w0 w h S 1 ∧ Chn S (min g 8) ∧ HGood S ∧ Tk S 0 0 False ∧ S.G 31 = none ∧ Zer S
/-- one more link -/
theorem Lnk.link {g : Nat} (a : Lnk w0 w h g) (hg : g < 12) :
    Calls Try.prog 28 #[.pointer (some ⟨h, 0, none⟩), .int .i64 ((g + 1 : Nat) : Int), .int .i64 (g : Int)] w fun r w' => ∃ c, r = .returned (.int .i64 c) ∧ (c = 0 ↔ g < 8) ∧ Hid (Lnk w0 w' h (g + 1)) := by
  obtain ⟨S, k1, k2, k3, k4, k5, k6⟩ := a.ex
  by_cases h8 : g < 8
  · have e1 : min g 8 = g := by omega
    have e2 : min (g + 1) 8 = g + 1 := by omega
    rw [e1] at k2
    obtain ⟨p, hp, _⟩ := k2.le g (Nat.le_refl _)
    have hd := k2.deep k3.inv.tree g p (Nat.le_refl _) hp
    have hn := k2.no (g + 1) (by omega) (by omega)
    refine (hn_link k1 (i := g + 1) (by omega) (by omega) hn hp (by omega)).mono fun r w' hpp => ?_
    obtain ⟨hr, hN⟩ := hpp
    refine ⟨0, hr, ⟨fun _ => h8, fun _ => rfl⟩, ⟨_, hN.out, ?_, link_good k3 (by omega) (by omega) hn hp (by omega), k4.link (.inl id), (k2.link h8 k5 p.deep).2, link_zer k6 _ _ _⟩⟩
    rw [e2]
    exact (k2.link h8 k5 p.deep).1
  · have e1 : min g 8 = 8 := by omega
    have e2 : min (g + 1) 8 = 8 := by omega
    rw [e1] at k2
    have hL : Lnk w0 w h (g + 1) := ⟨S, k1, e2.symm ▸ k2, k3, k4, k5, k6⟩
    have hn := k2.no (g + 1) (by omega) (by omega)
    obtain ⟨F, h1, h2, h3⟩ := k1.ex
    by_cases h9 : g = 8
    · subst h9
      obtain ⟨p, hp, _⟩ := k2.le 8 (Nat.le_refl _)
      have hd := k2.deep k3.inv.tree 8 p (Nat.le_refl _) hp
      refine (hlink_deep h1 (i := 8 + 1) (by omega) (by omega) hn hp hd).mono fun r w' hpp => ?_
      obtain ⟨hr, rfl⟩ := hpp
      exact ⟨5, hr, ⟨fun h => absurd h (by decide), fun h => absurd h h8⟩, hL⟩
    · have hat : S.at_ (g : Int) = none := by
        rw [HS.at_nat S (by omega)]
        exact k2.no g (by omega) (by omega)
      refine (hlink_none h1 (i := g + 1) (by omega) (by omega) hat).mono fun r w' hpp => ?_
      obtain ⟨hr, rfl⟩ := hpp
      exact ⟨1, hr, ⟨fun h => absurd h (by decide), fun h => absurd h h8⟩, hL⟩
end

end Go.Proofs.Ytefekboacghnjaa

namespace Go.Proofs.Ytefekboacghnjaa
open Go.RowKit Go.Maps

/-- a chain of d groups, a task in the last one (b), and group 31 (o) -/
structure Std (w0 w : World) (h d : Nat) (t K : Int) (b o : Bool) : Prop where
  ex : ∃ S, HNew w0 w h S K ∧ Chn S d ∧ HGood S ∧ Tk S d t (b = true) ∧ (o = true → ∃ p, S.G 31 = some p) ∧ (o = false → S.G 31 = none) ∧ Zer S
/-- behind the last Move -/
structure Lst (w0 w : World) (h d : Nat) (K : Int) : Prop where
  ex : ∃ S y, HNew w0 w h S K ∧ S.G d = some y ∧ y.q.ok ∧ y.q.L = [] ∧ ∀ j z, S.G j = some z → z.up ≠ (d : Int)
theorem tt_is : (true = true) = True := by simp
theorem ft_is : (false = true) = False := by simp
section
variable {w0 w w' : World} {h d g : Nat} {t K : Int} {b o : Bool}
theorem Std.base (a : Std w0 w h d t K b o) : Below w0.heap.size w0 w := by
  obtain ⟨S, k1, _⟩ := a.ex
  exact k1.base
theorem Std.below (a : Std w0 w h d t K b o) (hb : Below w.heap.size w w') : Std w0 w' h d t K b o := by
  obtain ⟨S, k1, k2⟩ := a.ex
  exact ⟨S, k1.below hb, k2⟩
theorem Lnk.std (a : Lnk w0 w h g) (hd : min g 8 = d) (t : Int) : Std w0 w h d t 1 false false := by
  obtain ⟨S, k1, k2, k3, k4, k5, k6⟩ := a.ex
  rw [hd] at k2
  refine ⟨S, k1, k2, k3, ?_, fun h => absurd h (by decide), fun _ => k5, k6⟩
  rw [ft_is]
  exact k4.any
theorem Std.loop (a : Std w0 w h d t K false false) (hd : 1 ≤ d) :
    Calls Try.prog 29 #[.pointer (some ⟨h, 0, none⟩), .int .i64 1, .int .i64 (d : Int)] w fun e w' => e = .returned (.int .i64 10) ∧ w = w' := by
  obtain ⟨S, k1, k2, k3, _⟩ := a.ex
  obtain ⟨x, hx, _⟩ := k2.le 1 hd
  obtain ⟨y, hy, _⟩ := k2.le d (Nat.le_refl _)
  have d8 := k2.d8
  have hu := k2.under 9 d (by omega) (Nat.le_refl _)
  rw [decide_eq_true hd] at hu
  exact hn_loop k1 k3 (i := 1) (by decide) hx hy hu
theorem Std.put (a : Std w0 w h d t K false false) (hK : K + 10000 ≤ 1000000000000000) (hd : 1 ≤ d) (t0 : 0 ≤ t) (t1 : t < 64) :
    Calls Try.prog 30 #[.pointer (some ⟨h, 0, none⟩), .int .i64 (d : Int), .agg #[.int .i64 t, .int .u64 1024, .int .i64 0, .int .u64 0]] w fun r w' => r = .returned (.int .i64 0) ∧ Hid (Std w0 w' h d t (K + 10000) true false) := by
  obtain ⟨S, k1, k2, k3, k4, _, k5, kz⟩ := a.ex
  obtain ⟨y, hy, _⟩ := k2.le d (Nat.le_refl _)
  rw [ft_is] at k4
  have hL := k2.empty k3 k4 9 d y hd (by omega) hy
  have hc : putC y.q ⟨2 * t, 1024, 0, 0⟩ = 0 := by
    unfold putC
    rw [hL, if_neg (by show ¬(2 * t < 0); omega), if_neg (by show ¬(1024 < 2 ∨ 262144 < 1024); decide), if_neg (by show ¬(1024 ≤ 0); decide), if_neg (by simp), if_neg (by simp)]
  obtain ⟨c1, c2, c3, c4⟩ := k2.put k3 k4 hy hd hc t0 t1 ⟨by omega, by omega⟩
  refine (hn_put k1 k3 hK hy ⟨t, 1024, 0, 0⟩ ⟨by show _ ≤ t; omega, by show t ≤ _; omega, by show _ ≤ (0 : Int); omega, by show (0 : Int) ≤ _; omega, by show 1024 < _; omega, by show 0 < _; omega⟩ t0 t1).mono fun r w' hp => ?_
  obtain ⟨hr, hN⟩ := hp
  rw [show dblE ⟨t, 1024, 0, 0⟩ = ⟨2 * t, 1024, 0, 0⟩ from rfl] at hr hN
  rw [hc] at hr
  refine ⟨hr, _, hN.out, c1, c3, ?_, fun h => absurd h (by decide), fun _ => c4 (k5 rfl), put_zer kz hy rfl⟩
  rw [tt_is]
  exact c2
theorem Std.busy (a : Std w0 w h d t K true false) (hd : 1 ≤ d) :
    Calls Try.prog 31 #[.pointer (some ⟨h, 0, none⟩), .int .i64 (d : Int)] w fun r w' => r = .returned (.int .i64 6) ∧ Hid (Std w0 w' h d t K true false) := by
  obtain ⟨S, k1, k2, k3, k4, k5⟩ := a.ex
  obtain ⟨y, hy, _⟩ := k2.le d (Nat.le_refl _)
  rw [tt_is] at k4
  have hL := k2.full k3 k4 0 d y hd (by omega) hy
  refine (hn_unlink k1 (by omega) hy (k3.inv.qok d y hy) fun j z hj hup => ?_).mono fun r w' hp => ?_
  · have := k2.kids hd hj hup
    omega
  · obtain ⟨hr, hc⟩ := hp
    unfold unlinkI at hr
    rw [if_neg hL] at hr
    exact ⟨hr, S, hc.out.2 hL, k2, k3, tt_is ▸ k4, k5⟩
theorem Std.far (a : Std w0 w h d t K true false) (hd : 1 ≤ d) :
    Calls Try.prog 28 #[.pointer (some ⟨h, 0, none⟩), .int .i64 31, .int .i64 0] w fun r w' => r = .returned (.int .i64 0) ∧ Hid (Std w0 w' h d t K true true) := by
  obtain ⟨S, k1, k2, k3, k4, _, k5, kz⟩ := a.ex
  obtain ⟨p, hp, _⟩ := k2.le 0 (Nat.zero_le _)
  have hdp := k2.deep k3.inv.tree 0 p (Nat.zero_le _) hp
  have d8 := k2.d8
  refine (hn_link k1 (i := 31) (pa := 0) (by decide) (by decide) (k5 rfl) hp (by omega)).mono fun r w' hpp => ?_
  obtain ⟨hr, hN⟩ := hpp
  have hG := link_good k3 (i := 31) (by decide) (by decide) (k5 rfl) hp (by omega)
  have hN2 := hN.out
  rw [hdp] at hN2 hG
  exact ⟨hr, _, hN2, k2.far_link, hG, k4.link (.inr ⟨rfl, by omega⟩), fun _ => ⟨_, HS.put_same _ _ _⟩, fun h => absurd h (by decide), link_zer kz _ _ _⟩
theorem Std.moveBusy (a : Std w0 w h d t K true true) (hd : 1 ≤ d) :
    Calls Try.prog 29 #[.pointer (some ⟨h, 0, none⟩), .int .i64 1, .int .i64 31] w fun r w' => r = .returned (.int .i64 6) ∧ Hid (Std w0 w' h d t K true true) := by
  obtain ⟨S, k1, k2, k3, k4, k5, k6, kz⟩ := a.ex
  obtain ⟨x, hx, _⟩ := k2.le 1 hd
  obtain ⟨p, hp⟩ := k5 rfl
  have d8 := k2.d8
  have k4' := k4
  rw [tt_is] at k4'
  have hL := k2.full k3 k4' (d - 1) 1 x (Nat.le_refl _) (by omega) hx
  have hu := k2.under 9 1 (by omega) hd
  have hmc : moveC S 1 x p = 6 := if_pos ⟨1, unders_mem.2 ⟨by omega, ⟨x, hx⟩, hu⟩, by rw [grOf_some hx]; exact hL⟩
  refine (hn_move k1 k3 kz (i := 1) (j := 31) (by decide) hx hp (k2.under31 hp)).mono fun r w' hpp => ?_
  obtain ⟨hr, hc⟩ := hpp
  rw [hmc] at hr
  exact ⟨hr, S, hc.out.2 (by rw [hmc]; decide), k2, k3, k4, k5, k6, kz⟩
theorem Std.drop (a : Std w0 w h d t K true true) (hK : K + 10000 ≤ 1000000000000000) (hd : 1 ≤ d) (t0 : 0 ≤ t) (t1 : t < 64) :
    Calls Try.prog 32 #[.pointer (some ⟨h, 0, none⟩), .int .i64 (d : Int), .int .i64 t] w fun r w' => ∃ e : En, r = .returned (.tuple #[enV e, .int .i64 0]) ∧ Hid (Std w0 w' h d t (K + 10000) false true) := by
  obtain ⟨S, k1, k2, k3, k4, k5, _, kz⟩ := a.ex
  obtain ⟨y, hy, _⟩ := k2.le d (Nat.le_refl _)
  rw [tt_is] at k4
  obtain ⟨⟨e, he⟩, c1, c2, c3, c4⟩ := k2.drop k3 k4 hy hd
  refine (hn_drop k1 k3 hK hy t t0 t1 e he).mono fun r w' hp => ?_
  obtain ⟨hr, hN⟩ := hp
  refine ⟨_, hr, _, hN.out, c1, c3, ?_, fun _ => ?_, fun h => absurd h (by decide), drop_zer kz hy _⟩
  · rw [ft_is]
    exact c2
  · obtain ⟨p, hp⟩ := k5 rfl
    exact c4 p hp
theorem Std.move (a : Std w0 w h d t K false true) (hd : 1 ≤ d) :
    Calls Try.prog 29 #[.pointer (some ⟨h, 0, none⟩), .int .i64 1, .int .i64 31] w fun r w' => r = .returned (.int .i64 (if d = 8 then 5 else 0)) ∧ Hid (Lst w0 w' h d K) := by
  obtain ⟨S, k1, k2, k3, k4, k5, k6, kz⟩ := a.ex
  obtain ⟨x, hx, _⟩ := k2.le 1 hd
  obtain ⟨p, hp⟩ := k5 rfl
  rw [ft_is] at k4
  have hmc := k2.moveC k3 k4 hd hx hp
  refine (hn_move k1 k3 kz (i := 1) (j := 31) (by decide) hx hp (k2.under31 hp)).mono fun r w' hpp => ?_
  obtain ⟨hr, hc⟩ := hpp
  rw [hmc] at hr
  refine ⟨hr, ?_⟩
  by_cases h8 : d = 8
  · obtain ⟨y, hy, _⟩ := k2.le d (Nat.le_refl _)
    refine ⟨S, y, hc.out.2 (by rw [hmc, if_pos h8]; decide), hy, k3.inv.qok d y hy, k2.empty k3 k4 9 d y hd (by omega) hy, fun j z hj hup => ?_⟩
    have := k2.kids hd hj hup
    omega
  · obtain ⟨⟨y, h1, h2, h3⟩, h4⟩ := k2.moved k3 k4 hd hx hp
    exact ⟨_, y, hc.out.1 (by rw [hmc, if_neg h8]), h1, h2, h3, h4⟩
theorem Lst.unlink (a : Lst w0 w h d K) (hd : 1 ≤ d) :
    Calls Try.prog 31 #[.pointer (some ⟨h, 0, none⟩), .int .i64 (d : Int)] w fun r w' => r = .returned (.int .i64 0) ∧ Hid (Below w0.heap.size w0 w') := by
  obtain ⟨S, y, k1, k2, k3, k4, k5⟩ := a.ex
  refine (hn_unlink k1 (by omega) k2 k3 k5).mono fun r w' hp => ?_
  obtain ⟨hr, hc⟩ := hp
  unfold unlinkI at hr
  rw [if_pos k4] at hr
  exact ⟨hr, hc.out.1⟩
end

end Go.Proofs.Ytefekboacghnjaa
