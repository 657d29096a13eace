/-
  runq.Queue: how memory holds it while one entity is put anew.
-/
import Derived.Test.YtkemhcokkaanfaaQ6
import Derived.WalkMore
namespace Go.Proofs.Ytkemhcokkaanfaa
open Go.RowKit Go.Maps

structure QRaw (w0 : World) (q bm bt : Nat) (S0 : List Nat) (g : Int → Nat) (X : QS) (w : World) (S : List Nat) (ks : List (Int × Int)) (K : Int) (ld : Nat) (over : Bool) (ee : En) : Prop where
  blk : Blk w q (qcells bm bt X.cur X.mn ld over) 139
  map : MapP w bm X.L.length (place X.L g)
  ents : ∀ x, x ∈ X.L → x.id ≠ ee.id → Blk w (g x.id) (ecells x) 52
  ent : Blk w (g ee.id) (ecells ee) 52
  tree : TreeAt w bt S ks K
  turns : Turns (qblocks q bm S0 g X) w0 w
  sub : ∀ b, b ∈ S → b ∈ S0 ∨ w0.heap.size ≤ b
  mem : ∃ x, x ∈ X.L ∧ x.id = ee.id
section
variable {w0 w w' : World} {q bm bt : Nat} {S0 S S' : List Nat} {g : Int → Nat} {X X' : QS} {ks ks' : List (Int × Int)} {K K' : Int} {ld ld' : Nat} {over over' : Bool} {e ee ee' : En}
theorem QMem.raw (h : QMem w q bm bt S g X K) (he : e ∈ X.L) : QRaw w q bm bt S g X w S (ksOf X.L) K (loadL X.L) X.over e :=
  ⟨h.blk, h.map, fun x hx _ => h.ents x hx, h.ents e he, h.tree, Turns.refl _ _, fun _ hb => .inl hb, ⟨e, he, rfl⟩⟩
theorem QRaw.below (h : QRaw w0 q bm bt S0 g X w S ks K ld over ee) (hb : Below w.heap.size w w') : QRaw w0 q bm bt S0 g X w' S ks K ld over ee :=
  ⟨h.blk.below hb h.blk.lt, h.map.of (hb.block _ h.map.lt), fun x hx hn => (h.ents x hx hn).below hb (h.ents x hx hn).lt, h.ent.below hb h.ent.lt, h.tree.below hb, h.turns.below hb h.turns.size, h.sub, h.mem⟩
theorem QRaw.ent_mem (h : QRaw w0 q bm bt S0 g X w S ks K ld over ee) : g ee.id ∈ qblocks q bm S0 g X := by
  obtain ⟨x, hx, hi⟩ := h.mem
  simp only [qblocks, List.mem_cons, List.mem_append, List.mem_map]
  exact .inr (.inr (.inr ⟨x, hx, by rw [hi]⟩))
theorem QRaw.tree_turn (h : QRaw w0 q bm bt S0 g X w S ks K ld over ee) (hT : TreeTurned w S bt ks' K' w' S') : QRaw w0 q bm bt S0 g X w' S' ks' K' ld over ee :=
  ⟨h.blk.turns hT.turns (h.tree.not h.blk (by simp) (by simp)), h.map.of (hT.turns.block _ h.map.lt (h.tree.not_map h.map)), fun x hx hn => (h.ents x hx hn).turns hT.turns (h.tree.not (h.ents x hx hn) (by simp) (by simp)),
    h.ent.turns hT.turns (h.tree.not h.ent (by simp) (by simp)), hT.at_, h.turns.then hT.turns (fun b hb hlt => by
      rcases h.sub b hb with e | e
      · simp [qblocks, e]
      · omega), fun b hb => by
    rcases hT.sub b hb with e | e
    · exact h.sub b e
    · exact .inr (Nat.le_trans h.turns.size e), h.mem⟩
theorem QRaw.mono (h : QRaw w0 q bm bt S0 g X w S ks K ld over ee) (hK : K ≤ K') : QRaw w0 q bm bt S0 g X w S ks K' ld over ee := ⟨h.blk, h.map, h.ents, h.ent, h.tree.mono hK, h.turns, h.sub, h.mem⟩
/-- the entity's own block turns -/
theorem QRaw.set_ent (h : QRaw w0 q bm bt S0 g X w S ks K ld over ee) (hi : ee'.id = ee.id) (hb : Blk w' (g ee.id) (ecells ee') 52) (ho : ∀ b, b ≠ g ee.id → w'.heap[b]? = w.heap[b]?) (ht : Turns [g ee.id] w w') : QRaw w0 q bm bt S0 g X w' S ks K ld over ee' := by
  refine ⟨h.blk.of (ho q (Blk.apart h.blk h.ent (by simp))), h.map.of (ho bm (h.map.not_blk h.ent)), fun x hx hn => ?_, by rw [hi]; exact hb, h.tree.of (fun b hb => ho b (fun e => h.tree.not h.ent (by simp) (by simp) (e ▸ hb))), h.turns.then ht (fun b hb _ => by
    rw [List.mem_singleton] at hb
    subst hb
    exact h.ent_mem), h.sub, by rw [hi]; exact h.mem⟩
  rw [hi] at hn
  have hx1 := h.ents x hx hn
  exact hx1.of (ho _ (Blk.apart hx1 h.ent (by simp; intro h; exact absurd h hn)))
/-- the queue's own block turns -/
theorem QRaw.set_q (h : QRaw w0 q bm bt S0 g X w S ks K ld over ee) (hb : Blk w' q (qcells bm bt X.cur X.mn ld' over') 139) (ho : ∀ b, b ≠ q → w'.heap[b]? = w.heap[b]?) (ht : Turns [q] w w') : QRaw w0 q bm bt S0 g X w' S ks K ld' over' ee :=
  ⟨hb, h.map.of (ho bm (h.map.not_blk h.blk)), fun x hx hn => (h.ents x hx hn).of (ho _ (Blk.apart (h.ents x hx hn) h.blk (by simp))), h.ent.of (ho _ (Blk.apart h.ent h.blk (by simp))), h.tree.of (fun b hb => ho b (fun e => h.tree.not h.blk (by simp) (by simp) (e ▸ hb))), h.turns.then ht (fun b hb _ => by
    rw [List.mem_singleton] at hb
    subst hb
    simp [qblocks]), h.sub, h.mem⟩
theorem setL_blocks (L : List En) (e : En) (g : Int → Nat) : (setL L e).map (fun x => g x.id) = L.map fun x => g x.id := by
  have := congrArg (List.map g) (setL_ids L e)
  rw [List.map_map, List.map_map] at this
  exact this
theorem QRaw.done (h : QRaw w0 q bm bt S0 g X w S ks K ld over ee) (hL : X'.L = setL X.L ee) (hc : X'.cur = X.cur) (hm : X'.mn = X.mn) (ho : X'.over = over) (hl : ld = loadL X'.L) (hk : ks = ksOf X'.L) (hok : X'.ok) (k1 : 1 ≤ K) (k2 : K ≤ 1000000000000000) :
    QTurned w0 (qblocks q bm S0 g X) q X' K w (qblocks q bm S g X') := by
  refine ⟨⟨bm, bt, S, g, ⟨by rw [hc, hm, ho, ← hl]; exact h.blk, by rw [hL, setL_len, place_set]; exact h.map, fun x hx => ?_, by rw [← hk]; exact h.tree, hok, k1, k2⟩, rfl⟩, h.turns, fun b hb => ?_⟩
  · rw [hL] at hx
    rcases setL_mem hx with rfl | ⟨h1, h2⟩
    · exact h.ent
    · exact h.ents x h1 h2
  · simp only [qblocks, List.mem_cons, List.mem_append] at hb
    rcases hb with rfl | rfl | hb | hb
    · exact .inl (by simp [qblocks])
    · exact .inl (by simp [qblocks])
    · rcases h.sub b hb with e | e
      · exact .inl (by simp [qblocks, e])
      · exact .inr e
    · rw [hL, setL_blocks] at hb
      refine .inl ?_
      simp only [qblocks, List.mem_cons, List.mem_append]
      exact .inr (.inr (.inr hb))
end

/-! vrun -/
theorem vcheck_ok (wt rem : Nat) (h1 : 2 ≤ wt) (h2 : wt ≤ 262144) (hr : rem < wt) (w : World) :
    Calls Try.prog 124 #[.int .u64 wt, .int .u64 rem] w fun e w' => e = .returned (.int .i64 0) ∧ w = w' := by
  have z1 : decide ((wt : Int) < 2) = false := decide_eq_false (by omega)
  have z2 : decide ((262144 : Int) < (wt : Int)) = false := decide_eq_false (by omega)
  have z3 : decide ((wt : Int) ≤ (rem : Int)) = false := decide_eq_false (by omega)
  have z4 : decide (wt ≤ rem) = false := decide_eq_false (by omega)
  go_enter Try.func124, Try.ntmps124
  go_wp2_with fail
  go_ret
  exact ⟨rfl, rfl⟩
set_option maxRecDepth 100000 in
theorem vcharge_any (wt rem ns : Nat) (h1 : 2 ≤ wt) (h2 : wt ≤ 262144) (hr : rem < wt) (w : World) :
    Calls Try.prog 89 #[.int .u64 wt, .int .u64 rem, .int .u64 ns] w fun e w' => e = .returned (if 1000000000 < ns then .tuple #[.int .i64 0, .int .u64 0, .int .i64 8] else .tuple #[.int .i64 (((rem + ns * 1024) / wt : Nat) : Int), .int .u64 (((rem + ns * 1024) % wt : Nat) : Int), .int .i64 0]) ∧ Below w.heap.size w w' := by
  have MC := Lib.hid fun W => vcheck_ok wt rem h1 h2 hr W
  by_cases hn : 1000000000 < ns
  · rw [if_pos hn]
    have z1 : decide ((ns : Int) ≤ 1000000000) = false := decide_eq_false (by omega)
    go_enter Try.func89, Try.ntmps89
    go_wp2_with fail
    go_step3
    go_wp2_with (go_at_call 124; refine (MC.out _).mono ?_; rintro r w2 ⟨rfl, rfl⟩)
    go_step3
    go_wp2_with fail
    rw [Exit.noGoto_ret]
    refine bodyPost_ret (v := .tuple #[.int .i64 0, .int .u64 0, .int .i64 8]) (by simp [results, Try.results89, go_sem]) rfl ?_
    exact ⟨rfl, Below.refl _ _⟩
  · rw [if_neg hn]
    have z1 : decide ((ns : Int) ≤ 1000000000) = true := decide_eq_true (by omega)
    obtain ⟨p, hp⟩ : ∃ p, p = rem + ns * 1024 := ⟨_, rfl⟩
    have e1 : IntKind.u64.wrap ((ns : Int) * 1024) = ((ns * 1024 : Nat) : Int) := by rw [IntKind.wrap_u64]; omega
    have e2 : IntKind.u64.wrap ((rem : Int) + ((ns * 1024 : Nat) : Int)) = (p : Int) := by rw [IntKind.wrap_u64]; omega
    have e2' : IntKind.u64.wrap ((rem : Int) + ((ns : Int) * 1024)) = (p : Int) := by rw [IntKind.wrap_u64]; omega
    rw [← hp]
    have hpb : p < 1024000262144 := by omega
    have hd : p / wt ≤ p := Nat.div_le_self _ _
    have w0 : (wt == 0) = false := by rw [beq_eq_false_iff_ne]; omega
    clear hp
    go_enter Try.func89, Try.ntmps89
    go_wp2_with fail
    go_step3
    go_wp2_with (go_at_call 124; refine (MC.out _).mono ?_; rintro r w2 ⟨rfl, rfl⟩)
    go_step3
    go_wp2_with fail
    go_big_quiet (fail)
    go_wp2_with fail
    rw [Exit.noGoto_ret]
    have e3 : wrap64 (IntKind.u64.wrap ((p : Int) / (wt : Int))) = (p : Int) / (wt : Int) := by
      have h3 : (p : Int) / (wt : Int) = ((p / wt : Nat) : Int) := rfl
      rw [h3]
      clear h3
      generalize p / wt = d at *
      unfold wrap64
      rw [IntKind.wrap_u64]
      omega
    refine bodyPost_ret (v := .tuple #[.int .i64 ((p / wt : Nat) : Int), .int .u64 ((p % wt : Nat) : Int), .int .i64 0]) (by simp [results, Try.results89, go_sem]; exact e3) rfl ?_
    exact ⟨rfl, below_drewN (Below.refl _ _) _⟩

end Go.Proofs.Ytkemhcokkaanfaa
