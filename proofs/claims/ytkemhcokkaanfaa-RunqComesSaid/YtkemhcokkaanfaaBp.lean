/-
  The bench of chapter 8: what two that stay were served, who joins, work whatever the piece, rows of pieces of work and how the inputs lie, a bench behind some pieces of work.
-/
import Derived.Test.YtkemhcokkaanfaaWk2
import Derived.Test.YtkemhcokkaanfaaBi
import Derived.Test.YtkemhcokkaanfaaBk
import Derived.Test.YtkemhcokkaanfaaBl
namespace Go.Proofs.Ytkemhcokkaanfaa
open Go.RowKit Go.Maps

theorem few_len : ∀ (n : Nat) (L : List En), (L.map (·.id)).Nodup → (∀ e, e ∈ L → 0 ≤ e.id ∧ e.id < n) → L.length ≤ n
  | 0, [], _, _ => Nat.le_refl _
  | 0, a :: L, _, h => by have := h a (by simp); omega
  | n + 1, L, hn, h => by
    by_cases hx : ∃ e, e ∈ L ∧ e.id = (n : Nat)
    · obtain ⟨e, he, hi⟩ := hx
      have h1 := len_less hn he
      have h2 := few_len n (lessL L e.id) ((List.filter_sublist.map _).nodup hn) (fun x hx => by
        obtain ⟨k1, k2⟩ := lessL_mem.1 hx
        have := h x k1
        omega)
      omega
    · have h2 := few_len n L hn (fun x hxm => by
        have := h x hxm
        have : x.id ≠ (n : Nat) := fun hc => hx ⟨x, hxm, hc⟩
        omega)
      omega
section
variable {c g : Int} {t : Nat} {B : BS} {e : En}
/-- whoever was served stands with what it was served; all others that are no bench's own stay as they stood -/
theorem serve_stays (hT : Terms c g t) (h : NearB c g t B) (hm : B.X.mn ≤ 100000000000) (x : WK) (weighs : Bool) (hk0 : x.kind ≠ 0) (hkw : ¬ (x.kind = 1 ∧ weighs = true)) (he : e ∈ B.X.L) :
    (servedB g t B x weighs = e.id ∧ charged e (x.ns % (t + 1)) ∈ (workB c g t B x weighs).X.L ∧ e.v ≤ B.X.mn + g) ∨ (servedB g t B x weighs ≠ e.id ∧ e ∈ (workB c g t B x weighs).X.L) := by
  have hn := h.q.turn g x.yields
  have e1 := turnQ_mn B.X g x.yields
  have e2 := turnQ_L B.X g x.yields
  have hge := (h.q.ok.ents e he).i1
  unfold servedB workB
  rw [if_neg hk0, if_neg hkw, if_neg hk0, if_neg hkw]
  split
  · exact .inr ⟨by omega, by rw [e2]; exact he⟩
  · rename_i hno
    have hcur : ∃ x', x' ∈ (turnQ B.X g x.yields).L ∧ x'.id = (turnQ B.X g x.yields).cur := by
      rcases hn.ok.cur with hx | hx
      · exact absurd (.inl hx) hno
      · exact hx
    obtain ⟨y, hy, hyc⟩ := hcur
    have hv : y.v ≤ (turnQ B.X g x.yields).mn + g := by
      rw [e1]
      exact turn_cur h.q.ok h.led hT.g0 hT.g1 x.yields (by rw [← e2]; exact hy) hyc
    have hns : x.ns % (t + 1) ≤ t := Nat.le_of_lt_succ (Nat.mod_lt _ (by omega))
    obtain ⟨b1, b2, b3⟩ := hn.charge hT (by rw [e1]; exact hm) hy hyc hv hns
    have b4 : (pickQ (chargeQ (turnQ B.X g x.yields) (x.ns % (t + 1))) g).L = setL (turnQ B.X g x.yields).L (charged y (x.ns % (t + 1))) := by rw [b1]; rfl
    show (_ ∧ _ ∈ (pickQ (chargeQ (turnQ B.X g x.yields) (x.ns % (t + 1))) g).L ∧ _) ∨ (_ ∧ _ ∈ (pickQ (chargeQ (turnQ B.X g x.yields) (x.ns % (t + 1))) g).L)
    rw [b4]
    by_cases hc : e.id = (turnQ B.X g x.yields).cur
    · have : y = e := En.same hn.ok.ids hy (by rw [e2]; exact he) (hyc.trans hc.symm)
      subst this
      exact .inl ⟨hc.symm, setL_self hy rfl, by rw [← e1]; exact hv⟩
    · exact .inr ⟨fun hx => hc hx.symm, setL_has (by rw [e2]; exact he) (fun hx => hc (hx.trans hyc))⟩
theorem work_stays (hT : Terms c g t) (h : NearB c g t B) (hm : B.X.mn ≤ 100000000000) (x : WK) (weighs : Bool) (he : e ∈ B.X.L) (h8 : 8 ≤ e.id) :
    (servedB g t B x weighs = e.id ∧ charged e (x.ns % (t + 1)) ∈ (workB c g t B x weighs).X.L) ∨ (servedB g t B x weighs ≠ e.id ∧ e ∈ (workB c g t B x weighs).X.L) := by
  have hw : x.who % 8 < 8 := Nat.mod_lt _ (by omega)
  by_cases hk0 : x.kind = 0
  · refine .inr ⟨?_, ?_⟩
    · unfold servedB; rw [if_pos hk0]; omega
    · unfold workB
      rw [if_pos hk0]
      cases hg : B.X.get ((x.who % 8 : Nat) : Int) with
      | none =>
        show e ∈ (putQ B.X _).L
        unfold putQ
        split
        · exact List.mem_append_left _ he
        · exact he
      | some y =>
        show e ∈ (dropQ B.X _).L
        unfold dropQ
        split
        · exact lessL_mem.2 ⟨he, by omega⟩
        · exact he
  · by_cases hkw : x.kind = 1 ∧ weighs = true
    · refine .inr ⟨?_, ?_⟩
      · unfold servedB; rw [if_neg hk0, if_pos hkw]; omega
      · unfold workB
        rw [if_neg hk0, if_pos hkw]
        show e ∈ (weighQ B.X _ _).L
        unfold weighQ
        cases hg : B.X.get ((x.who % 8 : Nat) : Int) with
        | none => exact he
        | some y =>
          simp only
          split
          · exact he
          · obtain ⟨_, hyi⟩ := QS.get_some hg
            exact setL_has he (by show e.id ≠ y.id; omega)
    · rcases serve_stays hT h hm x weighs hk0 hkw he with h1 | h1
      · exact .inl ⟨h1.1, h1.2.1⟩
      · exact .inr h1
/-- nobody comes but the bench's own -/
theorem work_ids (hT : Terms c g t) (h : NearB c g t B) (hm : B.X.mn ≤ 100000000000) (x : WK) (weighs : Bool) {n : Int} (h8 : 8 ≤ n) (hf : ∀ e, e ∈ B.X.L → e.id < n) : ∀ e, e ∈ (workB c g t B x weighs).X.L → e.id < n := by
  have hw : x.who % 8 < 8 := Nat.mod_lt _ (by omega)
  intro e
  unfold workB
  split
  · cases hg : B.X.get ((x.who % 8 : Nat) : Int) with
    | none =>
      show e ∈ (putQ B.X _).L → _
      unfold putQ
      split
      · intro he
        rcases List.mem_append.1 he with he | he
        · exact hf e he
        · rw [List.mem_singleton.1 he]
          have := (h.own _ hw).id
          show (B.own _).id < n
          omega
      · exact hf e
    | some y =>
      show e ∈ (dropQ B.X _).L → _
      unfold dropQ
      split
      · exact fun he => hf e (lessL_mem.1 he).1
      · exact hf e
  · split
    · show e ∈ (weighQ B.X _ _).L → _
      unfold weighQ
      cases hg : B.X.get ((x.who % 8 : Nat) : Int) with
      | none => exact hf e
      | some y =>
        simp only
        split
        · exact hf e
        · intro he
          rcases setL_mem he with rfl | he
          · exact hf y (QS.get_some hg).1
          · exact hf e he.1
    · have hn := h.q.turn g x.yields
      have e1 := turnQ_mn B.X g x.yields
      have e2 := turnQ_L B.X g x.yields
      split
      · show e ∈ (turnQ _ _ _).L → _
        rw [e2]
        exact hf e
      · rename_i hno
        have hcur : ∃ x', x' ∈ (turnQ B.X g x.yields).L ∧ x'.id = (turnQ B.X g x.yields).cur := by
          rcases hn.ok.cur with hx | hx
          · exact absurd (.inl hx) hno
          · exact hx
        obtain ⟨y, hy, hyc⟩ := hcur
        have hv : y.v ≤ (turnQ B.X g x.yields).mn + g := by
          rw [e1]
          exact turn_cur h.q.ok h.led hT.g0 hT.g1 x.yields (by rw [← e2]; exact hy) hyc
        have hns : x.ns % (t + 1) ≤ t := Nat.le_of_lt_succ (Nat.mod_lt _ (by omega))
        obtain ⟨b1, b2, b3⟩ := hn.charge hT (by rw [e1]; exact hm) hy hyc hv hns
        have b4 : (pickQ (chargeQ (turnQ B.X g x.yields) (x.ns % (t + 1))) g).L = setL (turnQ B.X g x.yields).L (charged y (x.ns % (t + 1))) := by rw [b1]; rfl
        show e ∈ (pickQ (chargeQ (turnQ B.X g x.yields) (x.ns % (t + 1))) g).L → _
        rw [b4, e2]
        intro he
        rcases setL_mem he with rfl | he
        · exact hf y (by rw [← e2]; exact hy)
        · exact hf e he.1
theorem raise_same {X : QS} (he : e ∈ X.L) (hv : e.v ≤ X.mn) : X.raise.mn = X.mn := by
  rw [raise_mn]
  split
  · rfl
  · rename_i k hk
    exact Int.max_eq_left (Int.le_trans (head_least hk he) hv)
/-- one joins that lies near below the least one -/
theorem NearB.join (hT : Terms c g t) (h : NearB c g t B) (hm : B.X.mn ≤ 100000000000) {i n : Nat} (hi : n ≤ i) (hn : n ≤ 9) (hi2 : i ≤ 9) (hf : ∀ e, e ∈ B.X.L → e.id < n) {wt : Nat} (hw : 64 ≤ wt ∧ wt ≤ 4095) {v : Int} (hv1 : B.X.mn - c ≤ v) (hv2 : v ≤ B.X.mn) :
    putC B.X ⟨i, wt, v, 0⟩ = 0 ∧ NearB c g t ⟨putQ B.X ⟨i, wt, v, 0⟩, B.own⟩ ∧ (putQ B.X ⟨i, wt, v, 0⟩).mn = B.X.mn ∧ (⟨i, wt, v, 0⟩ : En) ∈ (putQ B.X ⟨i, wt, v, 0⟩).L ∧ (∀ e, e ∈ B.X.L → e ∈ (putQ B.X ⟨i, wt, v, 0⟩).L) ∧ (∀ e, e ∈ (putQ B.X ⟨i, wt, v, 0⟩).L → e.id < (i : Int) + 1) := by
  have hlen : B.X.L.length ≤ n := few_len n _ h.q.ok.ids (fun e he => ⟨(h.q.ok.ents e he).i1, hf e he⟩)
  have hni : (i : Int) ∉ B.X.L.map (·.id) := fun hx => by
    obtain ⟨e, he, hei⟩ := List.mem_map.1 hx
    have := hf e he
    omega
  have h0 := h.q.mn0
  have hge := hT.g0
  have hc0 := hT.c0
  have hc1 := hT.c1
  have hpc : putC B.X ⟨i, wt, v, 0⟩ = 0 := by
    unfold putC
    rw [if_neg (by show ¬ (i : Int) < 0; omega), if_neg (by show ¬ (wt < 2 ∨ 262144 < wt); omega), if_neg (by show ¬ wt ≤ 0; omega), if_neg hni, if_neg (by omega)]
  have hpq : putQ B.X ⟨i, wt, v, 0⟩ = (B.X.add ⟨i, wt, v, 0⟩).raise := if_pos hpc
  have heo : (⟨i, wt, v, 0⟩ : En).ok := ⟨by show (0 : Int) ≤ i; omega, by show (i : Int) ≤ _; omega, by show 2 ≤ wt; omega, by show wt ≤ 262144; omega, by show _ ≤ v; omega, by show v ≤ _; omega, by show 0 < wt; omega⟩
  have hadd := h.q.add hT heo hni (by omega) hv1 (by show v ≤ _; omega) hw
  have hmem : (⟨i, wt, v, 0⟩ : En) ∈ (B.X.add ⟨i, wt, v, 0⟩).L := List.mem_append_right _ (by simp)
  have hmn : (B.X.add ⟨i, wt, v, 0⟩).raise.mn = B.X.mn := raise_same (X := B.X.add ⟨i, wt, v, 0⟩) hmem hv2
  rw [hpq]
  refine ⟨hpc, ⟨(hadd.raise hT).1, QS.raise_led _, fun j hj => (h.own j hj).mono (Int.le_of_eq hmn.symm)⟩, hmn, hmem, fun e he => List.mem_append_left _ he, fun e he => ?_⟩
  rcases List.mem_append.1 he with he | he
  · have := hf e he; omega
  · rw [List.mem_singleton.1 he]; show (i : Int) < _; omega
theorem NearB.pick (h : NearB c g t B) (gran : Int) : NearB c g t ⟨pickQ B.X gran, B.own⟩ := ⟨h.q.pick gran, h.led, h.own⟩

/-- one stands with what it was served -/
def Serv (X : QS) (i : Int) (wt : Nat) (v0 : Int) (s : Nat) : Prop := ∃ e, e ∈ X.L ∧ e.id = i ∧ e.wt = wt ∧ e.v * wt + e.rem = v0 * wt + 1024 * s
theorem Serv.work (hT : Terms c g t) (h : NearB c g t B) (hm : B.X.mn ≤ 100000000000) (x : WK) (weighs : Bool) {i : Int} (h8 : 8 ≤ i) {wt : Nat} {v0 : Int} {s : Nat} (hs : Serv B.X i wt v0 s) :
    Serv (workB c g t B x weighs).X i wt v0 (if servedB g t B x weighs = i then s + x.ns % (t + 1) else s) := by
  obtain ⟨e, he, rfl, rfl, heq⟩ := hs
  have hns : x.ns % (t + 1) ≤ t := Nat.le_of_lt_succ (Nat.mod_lt _ (by omega))
  rcases work_stays hT h hm x weighs he h8 with ⟨h1, h2⟩ | ⟨h1, h2⟩
  · rw [if_pos h1]
    obtain ⟨f1, f2, f3, f4, f5, f6, f7⟩ := charged_facts hT h.q hm he hns
    refine ⟨_, h2, f4, f5, ?_⟩
    rw [f1]
    have f8 : (((charged e (x.ns % (t + 1))).rem : Nat) : Int) + ((rise e (x.ns % (t + 1)) : Nat) : Int) * (e.wt : Int) = (e.rem : Int) + ((x.ns % (t + 1) : Nat) : Int) * 1024 := by
      have := congrArg (Nat.cast (R := Int)) f7
      simp only [Int.natCast_add, Int.natCast_mul] at this
      exact this
    rw [Int.add_mul]
    generalize ((rise e (x.ns % (t + 1)) : Nat) : Int) * (e.wt : Int) = a at *
    rw [Int.natCast_add]
    omega
  · rw [if_neg h1]
    exact ⟨e, h2, rfl, rfl, heq⟩
theorem Serv.least (h : NearQ c g t B.X) {i : Int} {wt : Nat} {v0 : Int} {s : Nat} (hs : Serv B.X i wt v0 s) : ∃ v : Int, v0 ≤ v ∧ B.X.mn - c ≤ v ∧ v ≤ B.X.mn + g + 16 * t ∧ ((s * 1024 / wt : Nat) : Int) = v - v0 := by
  obtain ⟨e, he, rfl, rfl, heq⟩ := hs
  have hw := h.wt e he
  have hr := (h.ok.ents e he).r
  have hk : (e.v - v0) * (e.wt : Int) + e.rem = ((s * 1024 : Nat) : Int) := by rw [Int.sub_mul]; omega
  have hnn : v0 ≤ e.v := by
    refine Decidable.byContradiction fun hlt => ?_
    have h1 : (e.v - v0) * (e.wt : Int) ≤ (-1) * (e.wt : Int) := Int.mul_le_mul_of_nonneg_right (by omega) (by omega)
    omega
  refine ⟨e.v, hnn, h.low e he, h.high e he, ?_⟩
  obtain ⟨d, hd⟩ := Int.eq_ofNat_of_zero_le (a := e.v - v0) (by omega)
  rw [hd] at hk ⊢
  have hk2 : d * e.wt + e.rem = s * 1024 := by
    have : ((d * e.wt + e.rem : Nat) : Int) = ((s * 1024 : Nat) : Int) := by rw [← hk]; simp
    exact Int.ofNat.inj this
  rw [← hk2]
  congr 1
  rw [Nat.add_comm, Nat.add_mul_div_right _ _ (by omega), Nat.div_eq_of_lt hr, Nat.zero_add]
theorem serv_gap (h : NearQ c g t B.X) {i j : Int} {wi wj : Nat} {v0 : Int} {si sj : Nat} (h1 : Serv B.X i wi v0 si) (h2 : Serv B.X j wj v0 sj) :
    (max (si * 1024 / wi) (sj * 1024 / wj) - min (si * 1024 / wi) (sj * 1024 / wj) : Nat) ≤ c + g + 16 * t := by
  obtain ⟨v, a1, a2, a3, a4⟩ := h1.least h
  obtain ⟨u, b1, b2, b3, b4⟩ := h2.least h
  omega
end

end Go.Proofs.Ytkemhcokkaanfaa

namespace Go.Proofs.Ytkemhcokkaanfaa
open Go.RowKit Go.Maps

theorem work_any {w0 : Base} {w : World} {p q : Nat} {X : QS} {K : Int} {own : Nat → En} {c g : Int} {t : Nat} (hB : BQ w0 w p q X K own c g t) (hT : Terms c g t) (hN : NearB c g t ⟨X, own⟩) (hm : X.mn ≤ 100000000000) (hK : K + 2000 ≤ 1000000000000000) (x : WK) (hx : x.num) (weighs : Bool) :
    Calls Try.prog 72 #[.pointer (some ⟨p, 0, none⟩), workV x, .bool weighs] w fun r w' => r = .returned (.tuple #[.int .i64 (servedB g t ⟨X, own⟩ x weighs), .int .u64 (nsB t x (servedB g t ⟨X, own⟩ x weighs))]) ∧ Hid (BQ w0 w' p q (workB c g t ⟨X, own⟩ x weighs).X (K + 2000) (workB c g t ⟨X, own⟩ x weighs).own c g t) := by
  by_cases hk : x.kind = 0
  · cases hg : X.get ((x.who % 8 : Nat) : Int) with
    | none => exact work_wake hB hT hN hm hK x hx weighs hk hg
    | some e => exact work_drop hB hT hN hm hK x hx weighs hk hg
  · by_cases hw : x.kind = 1 ∧ weighs = true
    · exact work_weigh hB hT hN hm hK x hx weighs hw.1 hw.2
    · exact work_serve hB hT hN hm hK x hx weighs hk hw

end Go.Proofs.Ytkemhcokkaanfaa

namespace Go.Proofs.Ytkemhcokkaanfaa
open Go.ChangeShapes Go.WideShapes Go.ChangeAt Go.RowKit Go.Deep Go.Maps

def WK.nil : WK := ⟨0, 0, 0, 0, false⟩
def WkAt (w : World) (b o : Nat) (x : WK) : Prop :=
  w.cell? ⟨b, o, none⟩ = some (.int .i64 x.kind) ∧ w.cell? ⟨b, o + 1, none⟩ = some (.int .u8 x.who) ∧ w.cell? ⟨b, o + 2, none⟩ = some (.int .u32 x.wt) ∧ w.cell? ⟨b, o + 3, none⟩ = some (.int .u32 x.ns) ∧ w.cell? ⟨b, o + 4, none⟩ = some (.bool x.yields)
def RowW (w : World) (B : Nat) (A : Option Addr) (xs : List WK) : Prop :=
  xs = [] ∨ ∃ b off : Nat, A = some ⟨b, off, none⟩ ∧ b < B ∧ ∀ j, j < xs.length → WkAt w b (off + j * 5) (xs.getD j WK.nil)
theorem WkAt.below {w w' : World} {B b o : Nat} {x : WK} (h : WkAt w b o x) (k : Below B w w') (hb : b < B) : WkAt w' b o x :=
  ⟨(k.cell (p := ⟨b, o, none⟩) hb).trans h.1, (k.cell (p := ⟨b, o + 1, none⟩) hb).trans h.2.1, (k.cell (p := ⟨b, o + 2, none⟩) hb).trans h.2.2.1, (k.cell (p := ⟨b, o + 3, none⟩) hb).trans h.2.2.2.1, (k.cell (p := ⟨b, o + 4, none⟩) hb).trans h.2.2.2.2⟩
theorem RowW.below {w w' : World} {B : Nat} {A : Option Addr} {xs : List WK} (h : RowW w B A xs) (k : Below B w w') : RowW w' B A xs := by
  rcases h with h | ⟨b, off, e, hb, hc⟩
  · exact .inl h
  · exact .inr ⟨b, off, e, hb, fun j hj => (hc j hj).below k hb⟩
theorem RowW.at_ {w : World} {B : Nat} {A : Option Addr} {xs : List WK} (h : RowW w B A xs) (hp : 0 < xs.length) : ∃ b off : Nat, A = some ⟨b, off, none⟩ ∧ b < B ∧ ∀ j, j < xs.length → WkAt w b (off + j * 5) (xs.getD j WK.nil) := by
  rcases h with rfl | h
  · simp at hp
  · exact h
theorem getD_wk (xs : List WK) {j : Nat} (hj : j < xs.length) : xs.getD j WK.nil = xs[j] := by
  rw [List.getD_eq_getElem?_getD, List.getElem?_eq_getElem hj]; rfl
section
variable {H : Type} {enc : TypeId × Value → H} {P : Program} {W : World} {v : Value} {x : DataW H × List MemPlace} {fuel : Nat}
/-- a slice of structs that came in, by its trodden data alone -/
theorem structs_trod {t e : TypeId} {fs : Array Field} (ht : P.underlying t = some (.slice e)) (he : P.underlying e = some (.struct fs)) (hone : oneCellFields P fs = true) (hC : P.cellsOf e = fs.size) (h0 : 0 < fs.size)
    (hf : DataW.trod enc P W 0 (fun _ => true) true fuel t [v] = some x) :
    ∃ (A : Option Addr) (len c : Nat), v = .slice A len c ∧ len ≤ 9223372036854775807 ∧ (len = 0 ∨ ∃ b off : Nat, A = some ⟨b, off, none⟩ ∧ b < W.heap.size ∧
      ∀ i, i < len → ∀ j f, fs[j]? = some f → ∃ (u : Value) (n : Nat) (y : DataW H × List MemPlace), W.cell? ⟨b, off + (i * fs.size + j), none⟩ = some u ∧ DataW.trod enc P W 0 (fun _ => true) true n f.type [u] = some y) := by
  rcases open_slice_fields ht he hone hC hf with ⟨hcs, _⟩ | ⟨x, len, cap, m, D, Pl, hcs, _, hl, hm, hmm, _, hi⟩
  · simp at hcs
    exact ⟨none, 0, 0, hcs, by simp, .inl rfl⟩
  · simp at hcs
    have hmm2 : m = cap := by simpa using hmm
    rw [hmm2] at hi
    unfold maxLen at hm
    refine ⟨some x, len, cap, hcs, by omega, ?_⟩
    rcases Nat.eq_zero_or_pos len with hz | hz
    · exact .inl hz
    · right
      obtain ⟨b, off, spot⟩ := x
      have hf0 : fs[0]? = some (fs[0]'h0) := Array.getElem?_eq_getElem h0
      obtain ⟨ys0, n0, _, _, _, hat0⟩ := hi 0 (by omega)
      obtain ⟨v0, y0, hc0, _, _⟩ := hat0 0 _ hf0
      have hspot : spot = none := by simpa [Addr.add] using World.cell?_spot hc0
      subst hspot
      refine ⟨b, off, rfl, ?_, fun i hi' j f hj => ?_⟩
      · have := World.block_lt_of_cell? W _ hc0
        simpa [Addr.add] using this
      · obtain ⟨ys, n, _, _, _, hat⟩ := hi i (by omega)
        obtain ⟨u, y, hc, _, ht'⟩ := hat j f hj
        refine ⟨u, n, y, ?_, ht'⟩
        have e : (⟨b, off, none⟩ : Addr).add (i * fs.size + j) = ⟨b, off + (i * fs.size + j), none⟩ := by
          rcases Nat.eq_zero_or_pos (i * fs.size + j) with h | h
          · rw [h]; simp [Addr.add]
          · simp [Addr.add]; omega
        rw [e] at hc
        exact hc
/-- an array of numbers or rows: each of its cells -/
theorem open_cells {t e : TypeId} {n b0 : Nat} {d : DataW H} {p : List MemPlace} (ht : P.underlying t = some (.array n e)) (hc : P.cellsOf t = n) (hc1 : P.cellsOf e = 1)
    (hv : Value.okWide P W .any b0 t v) (h : DataW.Trod enc P W 0 (fun _ => true) true t v d p) :
    ∃ cs : Array Value, v = .agg cs ∧ cs.size = n ∧ ∀ i, i < n → ∃ (u : Value) (m : Nat) (x : DataW H × List MemPlace), cs[i]? = some u ∧ DataW.trod enc P W 0 (fun _ => true) true m e [u] = some x := by
  obtain ⟨cs, rfl, hsz⟩ := okWide_array ht hv
  obtain ⟨fuel, hf⟩ := h
  obtain ⟨xs, m, _, _, hlen, hxl, hi⟩ := DataW.trod_array ht hf
  refine ⟨cs, rfl, hsz.trans hc, fun i hin => ?_⟩
  have h1 := hi i hin
  rw [hc1, Nat.mul_one] at h1
  have hsz2 : i < cs.toList.length := by simp; omega
  have e1 : (cs.toList.drop i).take 1 = [cs.toList[i]] := by
    rw [List.drop_eq_getElem_cons hsz2]; rfl
  have e2 : xs[i]? = some (xs[i]'(by omega)) := List.getElem?_eq_getElem (by omega)
  rw [show (Value.agg cs).cells = cs from rfl, e1, e2] at h1
  exact ⟨_, m, _, by simp [Array.getElem?_eq_getElem (show i < cs.size by simpa using hsz2)], h1⟩
end
section
variable {H : Type} {enc : TypeId × Value → H} {W : World} {v : Value} {d : DataW H} {p : List MemPlace} {b0 : Nat}
set_option maxRecDepth 100000 in
theorem works_trod {fuel : Nat} {x : DataW H × List MemPlace} (h : DataW.trod enc Try.prog W 0 (fun _ => true) true fuel 112 [v] = some x) :
    ∃ (A : Option Addr) (xs : List WK) (c : Nat), v = .slice A xs.length c ∧ RowW W W.heap.size A xs ∧ (∀ x ∈ xs, x.num) ∧ xs.length ≤ 9223372036854775807 := by
  obtain ⟨A, n, c, rfl, hn, hi⟩ := structs_trod Try.underlying112 Try.underlying120 (by kernel_rfl) (by kernel_rfl) (by decide) h
  rcases hi with h0 | ⟨b, off, rfl, hb, hi⟩
  · exact ⟨A, [], c, by rw [h0]; rfl, .inl rfl, by simp, by simp⟩
  · have key : ∀ j, j < n → ∃ x : WK, x.num ∧ WkAt W b (off + j * 5) x := fun j hj => by
      obtain ⟨v0, n0, y0, c0, t0⟩ := hi j hj 0 _ rfl
      obtain ⟨v1, n1, y1, c1, t1⟩ := hi j hj 1 _ rfl
      obtain ⟨v2, n2, y2, c2, t2⟩ := hi j hj 2 _ rfl
      obtain ⟨v3, n3, y3, c3, t3⟩ := hi j hj 3 _ rfl
      obtain ⟨v4, n4, y4, c4, t4⟩ := hi j hj 4 _ rfl
      obtain ⟨k, rfl, bk⟩ := trod_i64 Try.underlying3 t0
      obtain ⟨who, rfl, bw⟩ := trod_u8 Try.underlying5 t1
      obtain ⟨wt, rfl, bt⟩ := trod_u32 Try.underlying27 t2
      obtain ⟨ns, rfl, bn⟩ := trod_u32 Try.underlying27 t3
      obtain ⟨yy, rfl⟩ := trod_b Try.underlying4 t4
      refine ⟨⟨k, who, wt, ns, yy⟩, ⟨bk.1, bk.2, bw, bt, bn⟩, c0, ?_, ?_, ?_, ?_⟩
      · rw [Nat.add_assoc]; exact c1
      · rw [Nat.add_assoc]; exact c2
      · rw [Nat.add_assoc]; exact c3
      · rw [Nat.add_assoc]; exact c4
    obtain ⟨f, hf1, _⟩ := pick_fn WK.nil key
    have hlen : ((List.range n).map f).length = n := by simp
    refine ⟨_, (List.range n).map f, c, by rw [hlen], .inr ⟨b, off, rfl, hb, fun j hj => ?_⟩, fun d hd => ?_, by rw [hlen]; exact hn⟩
    · rw [hlen] at hj
      have e : ((List.range n).map f).getD j WK.nil = f j := by rw [List.getD_eq_getElem?_getD]; simp [hj]
      rw [e]
      exact (hf1 j hj).2
    · obtain ⟨j, hj, rfl⟩ := List.mem_map.1 hd
      exact (hf1 j (List.mem_range.1 hj)).1
set_option maxRecDepth 100000 in
theorem open_works (_hv : Value.okWide Try.prog W .any b0 112 v) (h : DataW.Trod enc Try.prog W 0 (fun _ => true) true 112 v d p) :
    ∃ (A : Option Addr) (xs : List WK) (c : Nat), v = .slice A xs.length c ∧ RowW W W.heap.size A xs ∧ (∀ x ∈ xs, x.num) ∧ xs.length ≤ 9223372036854775807 := by
  obtain ⟨a0, len, cap, rfl⟩ := okWide_slice Try.underlying112 _hv
  obtain ⟨fuel, hf⟩ := h
  exact works_trod hf
set_option maxRecDepth 100000 in
theorem open_terms (hv : Value.okWide Try.prog W .any b0 111 v) (h : DataW.Trod enc Try.prog W 0 (fun _ => true) true 111 v d p) :
    ∃ a b c : Nat, v = .agg #[.int .u16 a, .int .u16 b, .int .u16 c] ∧ a < 65536 ∧ b < 65536 ∧ c < 65536 := by
  obtain ⟨cs, rfl, hsz, hi⟩ := open_cells Try.underlying111 (by kernel_rfl) (by kernel_rfl) hv h
  obtain ⟨v0, m0, x0, c0, t0⟩ := hi 0 (by omega)
  obtain ⟨v1, m1, x1, c1, t1⟩ := hi 1 (by omega)
  obtain ⟨v2, m2, x2, c2, t2⟩ := hi 2 (by omega)
  obtain ⟨a, rfl, ba⟩ := trod_u16 Try.underlying30 t0
  obtain ⟨b, rfl, bb⟩ := trod_u16 Try.underlying30 t1
  obtain ⟨c, rfl, bc⟩ := trod_u16 Try.underlying30 t2
  refine ⟨a, b, c, ?_, ba, bb, bc⟩
  obtain ⟨l⟩ := cs
  match l, hsz with
  | [x, y, z], _ =>
    simp at c0 c1 c2
    rw [c0, c1, c2]
set_option maxRecDepth 100000 in
theorem open_two (hv : Value.okWide Try.prog W .any b0 114 v) (h : DataW.Trod enc Try.prog W 0 (fun _ => true) true 114 v d p) :
    ∃ a b : Nat, v = .agg #[.int .u32 a, .int .u32 b] ∧ a < 4294967296 ∧ b < 4294967296 := by
  obtain ⟨cs, rfl, hsz, hi⟩ := open_cells Try.underlying114 (by kernel_rfl) (by kernel_rfl) hv h
  obtain ⟨v0, m0, x0, c0, t0⟩ := hi 0 (by omega)
  obtain ⟨v1, m1, x1, c1, t1⟩ := hi 1 (by omega)
  obtain ⟨a, rfl, ba⟩ := trod_u32 Try.underlying27 t0
  obtain ⟨b, rfl, bb⟩ := trod_u32 Try.underlying27 t1
  refine ⟨a, b, ?_, ba, bb⟩
  obtain ⟨l⟩ := cs
  match l, hsz with
  | [x, y], _ =>
    simp at c0 c1
    rw [c0, c1]
set_option maxRecDepth 100000 in
theorem open_both (hv : Value.okWide Try.prog W .any b0 113 v) (h : DataW.Trod enc Try.prog W 0 (fun _ => true) true 113 v d p) :
    ∃ (A A' : Option Addr) (xs ys : List WK) (c c' : Nat), v = .agg #[.slice A xs.length c, .slice A' ys.length c'] ∧ RowW W W.heap.size A xs ∧ RowW W W.heap.size A' ys ∧ (∀ x ∈ xs, x.num) ∧ (∀ x ∈ ys, x.num) ∧ xs.length ≤ 9223372036854775807 ∧ ys.length ≤ 9223372036854775807 := by
  obtain ⟨cs, rfl, hsz, hi⟩ := open_cells Try.underlying113 (by kernel_rfl) (by kernel_rfl) hv h
  obtain ⟨v0, m0, x0, c0, t0⟩ := hi 0 (by omega)
  obtain ⟨v1, m1, x1, c1, t1⟩ := hi 1 (by omega)
  obtain ⟨A, xs, c, rfl, r1, r2, r3⟩ := works_trod t0
  obtain ⟨A', ys, c', rfl, r4, r5, r6⟩ := works_trod t1
  refine ⟨A, A', xs, ys, c, c', ?_, r1, r4, r2, r5, r3, r6⟩
  obtain ⟨l⟩ := cs
  match l, hsz with
  | [x, y], _ =>
    simp at c0 c1
    rw [c0, c1]
end

end Go.Proofs.Ytkemhcokkaanfaa

namespace Go.Proofs.Ytkemhcokkaanfaa
open Go.RowKit Go.Maps

theorem boxes2 (w : World) (c1 c2 : Array Value) (t1 t2 : TypeId) : ∃ W, W = (w.alloc (.cells c1 t1)).alloc (.cells c2 t2) ∧ Below w.heap.size w W ∧ W.heap.size = w.heap.size + 2 ∧ Blk W w.heap.size c1 t1 ∧ Blk W (w.heap.size + 1) c2 t2 := by
  have b1 : Below w.heap.size w (w.alloc (.cells c1 t1)) := (Below.refl _ _).alloc (Nat.le_refl _) _
  have b2 : Below (w.alloc (.cells c1 t1)).heap.size (w.alloc (.cells c1 t1)) ((w.alloc (.cells c1 t1)).alloc (.cells c2 t2)) := (Below.refl _ _).alloc (Nat.le_refl _) _
  have n1 := Blk.new w c1 t1
  have n2 := Blk.new (w.alloc (.cells c1 t1)) c2 t2
  refine ⟨_, rfl, b1.trans (b2.mono b1.size), by simp, n1.below b2 n1.lt, ?_⟩
  rw [World.size_alloc] at n2
  exact n2
theorem boxes3 (w : World) (c1 c2 c3 : Array Value) (t1 t2 t3 : TypeId) : ∃ W, W = ((w.alloc (.cells c1 t1)).alloc (.cells c2 t2)).alloc (.cells c3 t3) ∧ Below w.heap.size w W ∧ W.heap.size = w.heap.size + 3 ∧ Blk W w.heap.size c1 t1 ∧ Blk W (w.heap.size + 1) c2 t2 ∧ Blk W (w.heap.size + 2) c3 t3 := by
  obtain ⟨W, hW, h1, h2, h3, h4⟩ := boxes2 w c1 c2 t1 t2
  have b3 : Below W.heap.size W (W.alloc (.cells c3 t3)) := (Below.refl _ _).alloc (Nat.le_refl _) _
  have n3 := Blk.new W c3 t3
  refine ⟨W.alloc (.cells c3 t3), by rw [hW], h1.trans (b3.mono h1.size), by simp [h2], h3.below b3 h3.lt, h4.below b3 h4.lt, ?_⟩
  rw [h2] at n3
  exact n3
/-- a bench behind k pieces of work -/
structure Bst (w0 : Base) (w : World) (p q : Nat) (c g : Int) (t : Nat) (k : Nat) (B : BS) : Prop where
  at_ : BQ w0 w p q B.X (1 + 2000 * (k : Int)) B.own c g t
  near : NearB c g t B
  mn : B.X.mn ≤ (k : Int) * 1114111
section
variable {w0 : Base} {w w' : World} {p q : Nat} {c g : Int} {t k : Nat} {B : BS}
theorem Bst.below (h : Bst w0 w p q c g t k B) (hb : Below w.heap.size w w') : Bst w0 w' p q c g t k B := ⟨h.at_.below hb, h.near, h.mn⟩
theorem start_near (hT : Terms c g t) : NearB c g t ⟨aw0, fun i => if i < 8 then ⟨i, 1024, 0, 0⟩ else ⟨0, 0, 0, 0⟩⟩ := by
  obtain ⟨t1, t2, t3, t4, t5, t6⟩ := hT
  refine ⟨⟨⟨?_, ?_, ?_, .inl rfl, ?_, ?_⟩, rfl, ?_, ?_, ?_, Int.le_refl _⟩, ?_, fun i hi => ?_⟩
  · intro e he; simp [aw0] at he
  · simp [aw0]
  · simp [aw0]
  · simp [aw0]
  · simp [aw0]
  · intro e he; simp [aw0] at he
  · intro e he; simp [aw0] at he
  · intro e he; simp [aw0] at he
  · intro k hk; simp [aw0, ksOf] at hk
  · show OwnOk c g t 0 i (if i < 8 then ⟨i, 1024, 0, 0⟩ else ⟨0, 0, 0, 0⟩)
    rw [if_pos hi]
    exact ⟨rfl, ⟨by show 64 ≤ 1024; decide, by show 1024 ≤ 4095; decide⟩, by show 0 < 1024; decide, by show (-65535 : Int) ≤ 0; decide, by show (0 : Int) ≤ 0 + g + 16 * t; omega⟩
theorem bst_start (H : BQ w0 w p q aw0 1 (own0 8) c g t) (hT : Terms c g t) : Bst w0 w p q c g t 0 ⟨aw0, own0 8⟩ := ⟨H, start_near hT, Int.le_refl _⟩
theorem bst_work (h : Bst w0 w p q c g t k B) (hT : Terms c g t) (hk : k ≤ 400) (x : WK) (hx : x.num) (weighs : Bool) :
    Calls Try.prog 72 #[.pointer (some ⟨p, 0, none⟩), workV x, .bool weighs] w fun r w' => r = .returned (.tuple #[.int .i64 (servedB g t B x weighs), .int .u64 (nsB t x (servedB g t B x weighs))]) ∧ Hid (Bst w0 w' p q c g t (k + 1) (workB c g t B x weighs)) := by
  have hm := h.mn
  have hm2 : B.X.mn ≤ 100000000000 := by omega
  refine (work_any h.at_ hT h.near hm2 (by omega) x hx weighs).mono fun r w' hp => ⟨hp.1, ?_⟩
  obtain ⟨n1, n2, n3⟩ := h.near.work hT hm2 x weighs
  refine ⟨?_, n1, ?_⟩
  · have := hp.2.out
    rw [show 1 + 2000 * (k : Int) + 2000 = 1 + 2000 * ((k + 1 : Nat) : Int) by omega] at this
    exact this
  · have h1 := hT.g1
    have h2 := hT.t1
    omega
theorem bst_ents (h : Bst w0 w p q c g t k B) :
    Calls Try.prog 33 #[.pointer (some ⟨q, 0, none⟩)] w fun r w' => ∃ A cc, r = .returned (.slice A B.X.ents.length cc) ∧ Hid (RowE w' w'.heap.size A B.X.ents ∧ B.X.ents.length ≤ 9223372036854775807 ∧ Below w.heap.size w w') := by
  refine (qn_ents h.at_.new).mono fun r w' hp => ?_
  obtain ⟨v, hr, hO⟩ := hp
  obtain ⟨A, cc, rfl, hrow, hlen⟩ := own_ents hO.out.1
  exact ⟨A, cc, hr, hrow, hlen, hO.out.2.1⟩
theorem Bst.mnb (h : Bst w0 w p q c g t k B) (hk : k ≤ 400) : B.X.mn ≤ 100000000000 := by
  have := h.mn
  omega
/-- one joins -/
theorem bst_join (h : Bst w0 w p q c g t k B) (hT : Terms c g t) (hk : k ≤ 400) {i n : Nat} {z : Int} (hz : z = (i : Nat)) (hi : n ≤ i) (hn : n ≤ 9) (hi2 : i ≤ 9) (hf : ∀ e, e ∈ B.X.L → e.id < n) {wt : Nat} (hw : 64 ≤ wt ∧ wt ≤ 4095) {v : Int} (hv1 : B.X.mn - c ≤ v) (hv2 : v ≤ B.X.mn) (hv0 : -65536 ≤ v) :
    ∀ W, Below w.heap.size w W → Calls Try.prog 32 #[.pointer (some ⟨q, 0, none⟩), .agg #[.int .i64 z, .int .u64 wt, .int .i64 v, .int .u64 0]] W fun r w' => r = .returned (.int .i64 0) ∧ Hid (Bst w0 w' p q c g t (k + 1) ⟨putQ B.X ⟨z, wt, v, 0⟩, B.own⟩) := fun W hW => by
  subst hz
  have hm := h.mnb hk
  obtain ⟨n1, n2, n3, n4, n5, n6⟩ := h.near.join hT hm hi hn hi2 hf hw hv1 hv2
  have hb := bq_put (h.below hW).at_ (by omega) ⟨i, wt, v, 0⟩ ⟨by show _ ≤ (i : Int); omega, by show (i : Int) ≤ _; omega, by show _ ≤ v; omega, by show v ≤ _; omega, by show wt < _; omega, by show 0 < _; omega⟩
  rw [n1] at hb
  refine hb.mono fun r w' hp => ⟨hp.1, ?_, n2, ?_⟩
  · exact hp.2.out.mono (by omega) (by omega)
  · show (putQ B.X _).mn ≤ _
    rw [n3]
    have := h.mn
    omega
theorem bst_pick (h : Bst w0 w p q c g t k B) (hT : Terms c g t) :
    ∀ W, Below w.heap.size w W → Calls Try.prog 44 #[.pointer (some ⟨q, 0, none⟩), .int .i64 g] W fun r w' => r = .returned (.int .i64 (B.X.pickI g)) ∧ Hid (Bst w0 w' p q c g t k ⟨pickQ B.X g, B.own⟩) := fun W hW =>
  (pick_at h.at_ hT W hW).mono fun _ _ hp => ⟨hp.1, hp.2.out, h.near.pick g, h.mn⟩
/-- a new block beside it -/
theorem Bst.alloc {w1 : World} (h : Bst ⟨w1, []⟩ w p q c g t k B) (o : Obj) : Bst ⟨w1, [(w.heap.size, (w.alloc o).heap[w.heap.size]?)]⟩ (w.alloc o) p q c g t k B := by
  have hb : Below w.heap.size w (w.alloc o) := (Below.refl _ _).alloc (Nat.le_refl _) o
  obtain ⟨F, h1, h2, h3, _⟩ := h.at_.ex
  refine ⟨⟨⟨F, h1.below hb, h2.trans (hb.mono h2.size), h3, fun z hz => ?_⟩, h.at_.pb, h.at_.bench.below hb⟩, h.near, h.mn⟩
  rw [List.mem_singleton] at hz
  subst hz
  exact ⟨fun hm => Nat.lt_irrefl _ (h1.lt _ hm), fun he => Nat.lt_irrefl w.heap.size (by have := h.at_.bench.lt; omega), by simp, rfl⟩
theorem Bst.beside {w1 : World} {b : Nat} {o : Option Obj} (h : Bst ⟨w1, [(b, o)]⟩ w p q c g t k B) : p ≠ b := by
  obtain ⟨F, _, _, _, h4⟩ := h.at_.ex
  exact fun he => (h4 (b, o) (by simp)).2.1 he.symm
/-- the block beside it turns -/
theorem Bst.kept {w1 : World} {b : Nat} {o o' : Option Obj} (h : Bst ⟨w1, [(b, o)]⟩ w p q c g t k B) (hb : w1.heap.size ≤ b) (hT : Turns [b] w w') (ho : w'.heap[b]? = o') : Bst ⟨w1, [(b, o')]⟩ w' p q c g t k B := by
  obtain ⟨F, h1, h2, h3, h4⟩ := h.at_.ex
  obtain ⟨a1, a2, a3, a4⟩ := h4 (b, o) (by simp)
  refine ⟨⟨⟨F, h1.of (fun x hx => hT.block x (h1.lt x hx) (fun hm => a1 (by rw [← List.mem_singleton.1 hm]; exact hx))), Below.turns h2 hT (fun x hx => by rw [List.mem_singleton.1 hx]; exact hb) h2.size, h3, fun z hz => ?_⟩, h.at_.pb, h.at_.bench.of (hT.block p h.at_.bench.lt (fun hm => a2 (List.mem_singleton.1 hm).symm))⟩, h.near, h.mn⟩
  rw [List.mem_singleton] at hz
  subst hz
  exact ⟨a1, a2, Nat.lt_of_lt_of_le a3 hT.size, ho⟩
theorem bst_ids (h : Bst w0 w p q c g t k B) (hT : Terms c g t) (hk : k ≤ 400) (x : WK) (weighs : Bool) {n : Int} (h8 : 8 ≤ n) (hf : ∀ e, e ∈ B.X.L → e.id < n) : ∀ e, e ∈ (workB c g t B x weighs).X.L → e.id < n := work_ids hT h.near (h.mnb hk) x weighs h8 hf
theorem ents_mem {X : QS} (h : X.ok) {j : Nat} (hj : j < X.ents.length) : X.ents.getD j En.nil ∈ X.L := by
  obtain ⟨x, hx, _, hxe⟩ := h.ents_at (j := j) (by rw [← ents_len]; exact hj)
  rw [List.getD_eq_getElem?_getD, hxe]
  exact hx
end

end Go.Proofs.Ytkemhcokkaanfaa

