/-
  LedgerPlays: the ledger's book and the document's rows beside each other; the steps.
-/
import Derived.Test.YtkemhcokkaanfaaLRef5
import Derived.Test.YtkemhcokkaanfaaLaw18d
namespace Go.Proofs.Ytkemhcokkaanfaa
open Go.ChangeShapes Go.WideShapes Go.ChangeAt Go.RowKit Go.Deep Go.Maps

theorem taskR_snoc (R : List Deed18) (d : Deed18) (hg : d.gone = false) : taskR (R ++ [d]) = upd (taskR R) d.task (taskR R d.task + d.ns) := by
  funext x
  unfold taskR
  rw [sumIf_append]
  by_cases h : x = d.task
  · subst h
    rw [upd_same]
    simp [sumIf, isTask, hg]
  · rw [upd_other _ _ h]
    have : (d.task == x) = false := by simp; exact fun e => h e.symm
    simp [sumIf, isTask, this]
theorem groupR_snoc (R : List Deed18) (d : Deed18) : groupR (R ++ [d]) = gAdd (groupR R) d.zs d.ns := by
  funext x
  unfold groupR gAdd
  rw [sumIf_append]
  by_cases h : x ∈ d.zs
  · rw [if_pos h]; simp [sumIf, isGroup, h]
  · rw [if_neg h]; simp [sumIf, isGroup, h]
theorem totR_snoc (R : List Deed18) (d : Deed18) : totR (R ++ [d]) = totR R + d.ns := by
  unfold totR
  rw [sumIf_append]
  simp [sumIf]
theorem taskR_forget (k : Int) : ∀ R : List Deed18, taskR (R.map (forgetD k)) = upd (taskR R) k 0
  | [] => by funext x; simp [taskR, sumIf, upd]
  | d :: R => by
    have ih := taskR_forget k R
    funext x
    have ihx := congrFun ih x
    unfold taskR at *
    rw [List.map_cons]
    simp only [sumIf]
    rw [ihx]
    by_cases h : x = k
    · subst h
      rw [upd_same, upd_same]
      by_cases e : d.task = x
      · simp [isTask, forgetD, e]
      · have : (d.task == x) = false := by simpa using e
        simp [isTask, forgetD, this]
    · rw [upd_other _ _ h, upd_other _ _ h]
      by_cases e : d.task = x
      · have : (d.task == k) = false := by rw [e]; simpa using h
        simp [isTask, forgetD, this]
      · have : (d.task == x) = false := by simpa using e
        simp [isTask, forgetD, this]
theorem groupR_forget (k : Int) : ∀ R : List Deed18, groupR (R.map (forgetD k)) = groupR R
  | [] => rfl
  | d :: R => by
    have ih := groupR_forget k R
    funext x
    have ihx := congrFun ih x
    unfold groupR at *
    rw [List.map_cons]
    simp only [sumIf]
    rw [ihx]
    rfl
theorem totR_forget (k : Int) : ∀ R : List Deed18, totR (R.map (forgetD k)) = totR R
  | [] => rfl
  | d :: R => by
    have ih := totR_forget k R
    unfold totR at *
    rw [List.map_cons]
    simp only [sumIf]
    rw [ih]
    rfl

/-- the rows behind a credit, and its answer -/
def creditR (R : List Deed18) (d : Deed18) : List Deed18 := if credArg d.zs d.task d.ns = true then R else if 9223372036854775807 - totR R < d.ns then R else R ++ [{ d with gone := false }]
def creditN (R : List Deed18) (d : Deed18) : Int := if credArg d.zs d.task d.ns = true then 1 else if 9223372036854775807 - totR R < d.ns then 3 else 0

/-- the book says what rows Q say; the document holds the rows R -/
structure PS (B p bt bg xb k : Nat) (w0 wr : World) (A : Option Addr) (c : Nat) (Q R : List Deed18) : Prop where
  book : ∃ nt ng, nt ≤ k ∧ ng ≤ 20 * k ∧ BookAt wr p bt bg nt ng (taskR Q) (groupR Q) (totR Q)
  rows : RowsIn wr wr.heap.size A R.length c (R.flatMap dcells)
  len : R.length ≤ k
  ok : ∀ d ∈ R, d.ok wr B
  pos : ∀ d ∈ R, 0 ≤ d.ns
  top : totR R ≤ 9223372036854775807
  box : Blk wr xb #[.slice A R.length c] 81
  base : Below B w0 wr
  b0 : B ≤ w0.heap.size
  b1 : B ≤ p
  b2 : B ≤ bt
  b3 : B ≤ bg
  b4 : B ≤ xb

theorem PS.below {B p bt bg xb k : Nat} {w0 wr W : World} {A : Option Addr} {c : Nat} {Q R : List Deed18} (h : PS B p bt bg xb k w0 wr A c Q R) (hb : Below wr.heap.size wr W) : PS B p bt bg xb k w0 W A c Q R := by
  obtain ⟨nt, ng, h1, h2, hB⟩ := h.book
  have hz := h.base.size
  have h0 := h.b0
  have hbB : Below B wr W := hb.mono (by omega)
  exact ⟨⟨nt, ng, h1, h2, hB.below hb (Nat.le_refl _)⟩, (h.rows.below hb).mono hb.size, h.len, fun d hd => (h.ok d hd).below hbB, h.pos, h.top, h.box.below hb h.box.lt, h.base.trans hbB, h.b0, h.b1, h.b2, h.b3, h.b4⟩

theorem Blk.ne {w : World} {a b : Nat} {cs ds : Array Value} {t u : TypeId} (h : Blk w a cs t) (k : Blk w b ds u) (hn : cs ≠ ds) : a ≠ b := by
  rintro rfl
  have := h.symm.trans k
  simp at this
  exact hn this.1
/-- rows lie apart of a book -/
theorem RowsIn.turns {w w' : World} {p bt bg nt ng : Nat} {t g : Int → Int} {tot : Int} {A : Option Addr} {c : Nat} {R : List Deed18} (h : RowsIn w w.heap.size A R.length c (R.flatMap dcells)) (B : BookAt w p bt bg nt ng t g tot) (T : Turns [p, bt, bg] w w') :
    RowsIn w' w'.heap.size A R.length c (R.flatMap dcells) := by
  rcases h with h | ⟨q, e, hq, hc⟩
  · exact .inl h
  · refine .inr ⟨q, e, Nat.lt_of_lt_of_le hq T.size, fun i hi => ?_⟩
    have h0 := hc 0 (by omega)
    have hs : ∃ u v x, (R.flatMap dcells)[0]? = some (.slice u v x) := by
      cases R with
      | nil => simp at hi
      | cons d R => exact ⟨_, _, _, rfl⟩
    obtain ⟨u, v, x, hs⟩ := hs
    rw [hs] at h0
    have n1 : q ≠ p := by
      rintro rfl
      rw [Blk.cell B.blk 0] at h0
      simp at h0
    have n2 : q ≠ bt := by
      rintro rfl
      rw [map_no_cell B.ht _ rfl] at h0
      simp at h0
    have n3 : q ≠ bg := by
      rintro rfl
      rw [map_no_cell B.hg _ rfl] at h0
      simp at h0
    exact (T.cell (a := ⟨q, i, none⟩) hq (by simp [n1, n2, n3])).trans (hc i hi)

section
variable {B p bt bg xb k : Nat} {w0 wr : World} {A : Option Addr} {c : Nat} {Q R : List Deed18}

/-- the book turns; the document stays -/
theorem PS.turns {w' : World} {Q' : List Deed18} (h : PS B p bt bg xb k w0 wr A c Q R) (T : Turns [p, bt, bg] wr w') (hB : ∃ nt ng, nt ≤ k + 1 ∧ ng ≤ 20 * (k + 1) ∧ BookAt w' p bt bg nt ng (taskR Q') (groupR Q') (totR Q')) : PS B p bt bg xb (k + 1) w0 w' A c Q' R := by
  obtain ⟨nt, ng, h1, h2, hBk⟩ := h.book
  have hz := h.base.size
  have h0 := h.b0
  have hbB : Below B wr w' := ⟨T.os, T.tape, T.output, T.size, fun i hi => T.block i (by omega) (by
    have := h.b1; have := h.b2; have := h.b3
    simp only [List.mem_cons, List.mem_nil_iff, or_false]
    omega)⟩
  have hbase := h.base.trans hbB
  have n1 : xb ≠ p := (Blk.ne hBk.blk h.box (by simp)).symm
  have n2 : bt ≠ xb := map_not_blk h.box hBk.ht
  have n3 : bg ≠ xb := map_not_blk h.box hBk.hg
  have h5 := h.len
  exact ⟨hB, h.rows.turns hBk T, by omega, fun d hd => (h.ok d hd).below hbB, h.pos, h.top, h.box.turns T (by simp only [List.mem_cons, List.mem_nil_iff, or_false]; omega), hbase, h.b0, h.b1, h.b2, h.b3, h.b4⟩

/-- the document's rows are set anew -/
theorem PS.set {W : World} {A2 : Option Addr} {c2 : Nat} {R2 : List Deed18} (h : PS B p bt bg xb k w0 wr A c Q R) (hW : Below wr.heap.size wr W) (hR : RowsIn W W.heap.size A2 R2.length c2 (R2.flatMap dcells)) (hl : R2.length ≤ k)
    (hok : ∀ d ∈ R2, d.ok wr B) (hpos : ∀ d ∈ R2, 0 ≤ d.ns) (htop : totR R2 ≤ 9223372036854775807) : PS B p bt bg xb k w0 (W.setCell ⟨xb, 0, none⟩ (.slice A2 R2.length c2)) A2 c2 Q R2 := by
  have h2 := h.below hW
  obtain ⟨nt, ng, e1, e2, hBk⟩ := h2.book
  have n1 : p ≠ xb := Blk.ne hBk.blk h2.box (by simp)
  have n2 : bt ≠ xb := map_not_blk h2.box hBk.ht
  have n3 : bg ≠ xb := map_not_blk h2.box hBk.hg
  have hz := h2.base.size
  have hbB : Below B wr (W.setCell ⟨xb, 0, none⟩ (.slice A2 R2.length c2)) := (hW.mono (by have := h.base.size; have := h.b0; omega)).setCell h.b4 _
  have hbw : Below B w0 (W.setCell ⟨xb, 0, none⟩ (.slice A2 R2.length c2)) := h.base.trans hbB
  have hsz : (W.setCell ⟨xb, 0, none⟩ (.slice A2 R2.length c2)).heap.size = W.heap.size := by simp [World.setCell]
  refine ⟨⟨nt, ng, e1, e2, hBk.of fun b hb => Below.heap_setCell W _ _ b (by rcases hb with rfl | rfl | rfl <;> assumption)⟩, ?_, hl, fun d hd => (hok d hd).below hbB, hpos, htop, ?_, hbw, h.b0, h.b1, h.b2, h.b3, h.b4⟩
  · rcases hR with e | ⟨q, e, hq, hc⟩
    · exact .inl e
    · refine .inr ⟨q, e, by rw [hsz]; exact hq, fun i hi => ?_⟩
      have nq : q ≠ xb := by
        rintro rfl
        have h1 := hc 1 (by
          rw [flat_len] at hi ⊢
          omega)
        rw [Blk.cell h2.box 1] at h1
        rw [List.getElem?_eq_getElem (by rw [flat_len] at hi ⊢; omega)] at h1
        simp at h1
      rw [← hc i hi]
      unfold World.cell?
      rw [Below.heap_setCell W _ _ q nq]
  · have := h2.box.set 0 (.slice A2 R2.length c2)
    simpa using this

variable {d : Deed18}
theorem creditR_len (R : List Deed18) (d : Deed18) : (creditR R d).length ≤ R.length + 1 := by
  unfold creditR
  split
  · omega
  · split
    · omega
    · simp
theorem creditR_ok {w : World} (h : ∀ x ∈ R, x.ok w B) (hd : d.ok w B) : ∀ x ∈ creditR R d, x.ok w B := by
  unfold creditR
  intro x hx
  split at hx
  · exact h x hx
  · split at hx
    · exact h x hx
    · rw [List.mem_append, List.mem_singleton] at hx
      rcases hx with hx | rfl
      · exact h x hx
      · exact ⟨hd.t1, hd.t2, hd.n1, hd.n2, hd.path, hd.wf, hd.len, hd.cap⟩
theorem creditR_pos (h : ∀ x ∈ R, 0 ≤ x.ns) : ∀ x ∈ creditR R d, 0 ≤ x.ns := by
  unfold creditR
  intro x hx
  split at hx
  · exact h x hx
  · split at hx
    · exact h x hx
    · rename_i hc _
      rw [List.mem_append, List.mem_singleton] at hx
      rcases hx with hx | rfl
      · exact h x hx
      · unfold credArg at hc
        simp only [Bool.or_eq_true, decide_eq_true_eq, not_or] at hc
        show 0 ≤ d.ns
        omega
theorem creditR_top (h : totR R ≤ 9223372036854775807) : totR (creditR R d) ≤ 9223372036854775807 := by
  unfold creditR
  split
  · exact h
  · split
    · exact h
    · rw [totR_snoc]
      show totR R + d.ns ≤ _
      omega

/-- the book's credit -/
theorem PS.credit (h : PS B p bt bg xb k w0 wr A c R R) (hk : k < 60) (hd : d.ok wr B) (hl : d.zs.length ≤ 20) :
    Calls Try.prog 40 #[.pointer (some ⟨p, 0, none⟩), .slice d.A d.zs.length d.c, .int .i64 d.task, .int .i64 d.ns] wr fun e w' => e = .returned (.int .i64 (creditN R d)) ∧ PS B p bt bg xb (k + 1) w0 w' A c (creditR R d) R ∧ Turns [p, bt, bg] wr w' := by
  obtain ⟨nt, ng, h1, h2, hBk⟩ := h.book
  have hz := h.base.size
  have h0 := h.b0
  refine (credit_any d.A d.zs d.c d.task d.ns wr hBk (hd.at_ (Below.refl _ _) h.b1 (by omega)) (by omega) hd.t2 hd.wf (by omega) (by omega)).mono ?_
  rintro e w' ⟨r, nt', ng', t', g', tot', rfl, B', T, hnt', hng', hs⟩
  unfold creditN creditR
  rcases hs with ⟨rfl, hok, hle, rfl, rfl, rfl⟩ | ⟨⟨hbad, rfl⟩ | ⟨hok, hlt, rfl⟩, rfl, rfl, rfl⟩
  · rw [if_neg (by rw [hok]; simp), if_neg (by omega), if_neg (by rw [hok]; simp), if_neg (by omega)]
    refine ⟨rfl, h.turns T ⟨nt', ng', by omega, by omega, ?_⟩, T⟩
    rw [taskR_snoc _ _ rfl, groupR_snoc, totR_snoc]
    exact B'
  · rw [if_pos hbad, if_pos hbad]
    exact ⟨rfl, h.turns T ⟨nt', ng', by omega, by omega, B'⟩, T⟩
  · rw [if_neg (by rw [hok]; simp), if_pos hlt, if_neg (by rw [hok]; simp), if_pos hlt]
    exact ⟨rfl, h.turns T ⟨nt', ng', by omega, by omega, B'⟩, T⟩
/-- the document's -/
theorem PS.rcredit (h : PS B p bt bg xb k w0 wr A c Q R) (hk : k ≤ 60) (hd : d.ok wr B) (hl : d.zs.length ≤ 20) :
    Calls Try.prog 55 #[bookV A R.length c, .slice d.A d.zs.length d.c, .int .i64 d.task, .int .i64 d.ns] wr fun e w' => ∃ A2 c2, e = .returned (.tuple #[bookV A2 (creditR R d).length c2, .int .i64 (creditN R d)]) ∧
      RowsIn w' w'.heap.size A2 (creditR R d).length c2 ((creditR R d).flatMap dcells) ∧ Below wr.heap.size wr w' := by
  have hz := h.base.size
  have h0 := h.b0
  have hlen := h.len
  refine (rcredit_any A R c d.A d.zs d.c d.task d.ns wr h.rows (by omega) h.pos h.top (hd.path.mono (by omega)) (by omega) hd.cap).mono ?_
  rintro e w' ⟨hb, hs⟩
  unfold creditN creditR
  rcases hs with ⟨hbad, rfl⟩ | ⟨hok, hlt, rfl⟩ | ⟨hok, hle, g, cap, rfl, hr⟩
  · rw [if_pos hbad, if_pos hbad]
    exact ⟨A, c, rfl, (h.rows.below hb).mono hb.size, hb⟩
  · rw [if_neg (by rw [hok]; simp), if_pos hlt, if_neg (by rw [hok]; simp), if_pos hlt]
    exact ⟨A, c, rfl, (h.rows.below hb).mono hb.size, hb⟩
  · rw [if_neg (by rw [hok]; simp), if_neg (by omega), if_neg (by rw [hok]; simp), if_neg (by omega)]
    refine ⟨_, cap, by rw [List.length_append]; rfl, ?_, hb⟩
    rw [List.length_append]
    exact hr
theorem PS.forget (h : PS B p bt bg xb k w0 wr A c R R) (x : Int) (hx : (Lit.int .i64 x).wf = true) :
    Calls Try.prog 52 #[.pointer (some ⟨p, 0, none⟩), .int .i64 x] wr fun e w' => e = .returned (.int .i64 (taskR R x)) ∧ PS B p bt bg xb (k + 1) w0 w' A c (R.map (forgetD x)) R ∧ Turns [p, bt, bg] wr w' := by
  obtain ⟨nt, ng, h1, h2, hBk⟩ := h.book
  refine (lforget_any wr hBk x hx).mono ?_
  rintro e w' ⟨rfl, B', T⟩
  refine ⟨rfl, h.turns T ⟨nt, ng, by omega, by omega, ?_⟩, T⟩
  rw [taskR_forget, groupR_forget, totR_forget]
  exact B'
theorem PS.rforget (h : PS B p bt bg xb k w0 wr A c Q R) (hk : k ≤ 61) (x : Int) :
    Calls Try.prog 54 #[bookV A R.length c, .int .i64 x] wr fun e w' => ∃ A2 c2, e = .returned (bookV A2 R.length c2) ∧
      RowsIn w' w'.heap.size A2 R.length c2 ((R.map (forgetD x)).flatMap dcells) ∧ Below wr.heap.size wr w' := by
  have hlen := h.len
  exact rforget_any A R c x wr h.rows (by omega)
theorem PS.setF {W : World} {A2 : Option Addr} {c2 : Nat} (x : Int) (h : PS B p bt bg xb k w0 wr A c Q R) (hW : Below wr.heap.size wr W) (hR : RowsIn W W.heap.size A2 R.length c2 ((R.map (forgetD x)).flatMap dcells)) :
    PS B p bt bg xb k w0 (W.setCell ⟨xb, 0, none⟩ (.slice A2 R.length c2)) A2 c2 Q (R.map (forgetD x)) := by
  have e : R.length = (R.map (forgetD x)).length := (List.length_map _).symm
  have := h.set hW (R2 := R.map (forgetD x)) (A2 := A2) (c2 := c2) (by rw [← e]; exact hR) (by rw [← e]; exact h.len) (by
    intro d hd
    rw [List.mem_map] at hd
    obtain ⟨y, hy, rfl⟩ := hd
    have := h.ok y hy
    exact ⟨this.t1, this.t2, this.n1, this.n2, this.path, this.wf, this.len, this.cap⟩) (by
    intro d hd
    rw [List.mem_map] at hd
    obtain ⟨y, hy, rfl⟩ := hd
    exact h.pos y hy) (by rw [totR_forget]; exact h.top)
  rw [← e] at this
  exact this
theorem PS.lts (h : PS B p bt bg xb k w0 wr A c Q R) : p < wr.heap.size ∧ bt < wr.heap.size ∧ bg < wr.heap.size ∧ xb < wr.heap.size := by
  obtain ⟨nt, ng, h1, h2, hBk⟩ := h.book
  exact ⟨hBk.blk.lt, hBk.ht.lt, hBk.hg.lt, h.box.lt⟩
theorem PS.xbox (h : PS B p bt bg xb k w0 wr A c Q R) : wr.cell? ⟨xb, 0, none⟩ = some (.slice A R.length c) ∧ wr.frozen? ⟨xb, 0, none⟩ = false := ⟨Blk.cell h.box 0, Blk.frozen h.box 0⟩
theorem forget_ok {w : World} (x : Int) (h : ∀ d ∈ R, d.ok w B) : ∀ d ∈ R.map (forgetD x), d.ok w B := by
  intro d hd
  rw [List.mem_map] at hd
  obtain ⟨y, hy, rfl⟩ := hd
  have := h y hy
  exact ⟨this.t1, this.t2, this.n1, this.n2, this.path, this.wf, this.len, this.cap⟩
theorem forget_pos (x : Int) (h : ∀ d ∈ R, 0 ≤ d.ns) : ∀ d ∈ R.map (forgetD x), 0 ≤ d.ns := by
  intro d hd
  rw [List.mem_map] at hd
  obtain ⟨y, hy, rfl⟩ := hd
  exact h y hy
theorem PS.total (h : PS B p bt bg xb k w0 wr A c Q R) : Calls Try.prog 42 #[.pointer (some ⟨p, 0, none⟩)] wr fun e w' => e = .returned (.int .i64 (totR Q)) ∧ Below wr.heap.size wr w' := by
  obtain ⟨nt, ng, h1, h2, hBk⟩ := h.book
  refine (ltotal_any wr hBk).mono ?_
  rintro e w' ⟨rfl, rfl⟩
  exact ⟨rfl, Below.refl _ _⟩
theorem PS.task (h : PS B p bt bg xb k w0 wr A c Q R) (x : Int) (hx : (Lit.int .i64 x).wf = true) : Calls Try.prog 50 #[.pointer (some ⟨p, 0, none⟩), .int .i64 x] wr fun e w' => e = .returned (.int .i64 (taskR Q x)) ∧ Below wr.heap.size wr w' := by
  obtain ⟨nt, ng, h1, h2, hBk⟩ := h.book
  refine (ltask_any wr hBk x hx).mono ?_
  rintro e w' ⟨rfl, rfl⟩
  exact ⟨rfl, Below.refl _ _⟩
theorem PS.group (h : PS B p bt bg xb k w0 wr A c Q R) (x : Int) (hx : (Lit.int .i64 x).wf = true) : Calls Try.prog 41 #[.pointer (some ⟨p, 0, none⟩), .int .i64 x] wr fun e w' => e = .returned (.int .i64 (groupR Q x)) ∧ Below wr.heap.size wr w' := by
  obtain ⟨nt, ng, h1, h2, hBk⟩ := h.book
  refine (lgroup_any wr hBk x hx).mono ?_
  rintro e w' ⟨rfl, rfl⟩
  exact ⟨rfl, Below.refl _ _⟩
theorem PS.rtotal (h : PS B p bt bg xb k w0 wr A c Q R) (hk : k ≤ 61) : Calls Try.prog 56 #[bookV A R.length c] wr fun e w' => e = .returned (.int .i64 (totR R)) ∧ Below wr.heap.size wr w' :=
  rtotal_any A R c wr h.rows.deeds (by have := h.len; omega) h.pos h.top
theorem PS.rtask (h : PS B p bt bg xb k w0 wr A c Q R) (hk : k ≤ 61) (x : Int) : Calls Try.prog 53 #[bookV A R.length c, .int .i64 x] wr fun e w' => e = .returned (.int .i64 (taskR R x)) ∧ Below wr.heap.size wr w' :=
  rtask_any A R c x wr h.rows.deeds (by have := h.len; omega) h.pos h.top
theorem PS.rgroup (h : PS B p bt bg xb k w0 wr A c Q R) (hk : k ≤ 61) (x : Int) : Calls Try.prog 57 #[bookV A R.length c, .int .i64 x] wr fun e w' => e = .returned (.int .i64 (groupR R x)) ∧ Below wr.heap.size wr w' :=
  rgroup_any A R c x wr h.rows.deeds (by have := h.len; omega) h.pos h.top (fun d hd => by
    have := h.ok d hd
    exact ⟨this.t1, this.t2, this.n1, this.n2, this.path.mono (by have := h.base.size; have := h.b0; omega), this.wf, this.len, this.cap⟩)

/-- all that had something, rising -/
def IsL (R : List Deed18) (L : List Int) : Prop := L.Pairwise (· < ·) ∧ ∀ x, x ∈ L ↔ taskR R x ≠ 0
theorem IsL.same {L M : List Int} (h : IsL R L) (k : IsL R M) : L = M := rising_unique h.1 k.1 fun x => (h.2 x).trans (k.2 x).symm
theorem PS.tasks (h : PS B p bt bg xb k w0 wr A c R R) (hk : k ≤ 61) : Calls Try.prog 49 #[.pointer (some ⟨p, 0, none⟩)] wr fun e w' => ∃ A1 c1 L, e = .returned (.slice A1 L.length c1) ∧ IsL R L ∧ L.length ≤ 9223372036854775807 ∧ IntsAt w' w'.heap.size A1 L ∧ Below wr.heap.size wr w' := by
  obtain ⟨nt, ng, h1, h2, hBk⟩ := h.book
  refine (ltasks_any wr hBk (by omega)).mono ?_
  rintro e w' ⟨v, ss, rfl, hT, hrow, hb⟩
  obtain ⟨A1, c1, rfl, hR, hl⟩ := own_row hrow
  exact ⟨A1, c1, ss, rfl, ⟨hT.up, hT.mem⟩, hl, hR.ints, hb⟩
theorem PS.rtasks (h : PS B p bt bg xb k w0 wr A c Q R) (hk : k ≤ 61) : Calls Try.prog 58 #[bookV A R.length c] wr fun e w' => ∃ A1 c1 L, e = .returned (.slice A1 L.length c1) ∧ IsL R L ∧ L.length ≤ 9223372036854775807 ∧ IntsAt w' w'.heap.size A1 L ∧ Below wr.heap.size wr w' := by
  refine (rtasks_any A R c wr h.rows (by have := h.len; omega) h.pos h.top).mono ?_
  rintro e w' ⟨A1, L, c1, rfl, h1, h2, h3, h4, h5⟩
  exact ⟨A1, c1, L, rfl, ⟨h1, h2⟩, by omega, h4, h5⟩
end

end Go.Proofs.Ytkemhcokkaanfaa
