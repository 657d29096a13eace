/-
  ledger.Credit, whatever it answers; sums over tasks.
-/
import Derived.Test.YtkemhcokkaanfaaLed6
namespace Go.Proofs.Ytkemhcokkaanfaa
open Go.RowKit Go.Maps

/-- what a credit answers, and what comes of the accounts -/
def CreditSays (zs : List Int) (k ns : Int) (t g : Int → Int) (tot r : Int) (t' g' : Int → Int) (tot' : Int) : Prop :=
  (r = 0 ∧ credArg zs k ns = false ∧ ns ≤ 9223372036854775807 - tot ∧ t' = upd t k (t k + ns) ∧ g' = gAdd g zs ns ∧ tot' = tot + ns) ∨
  (((credArg zs k ns = true ∧ r = 1) ∨ (credArg zs k ns = false ∧ 9223372036854775807 - tot < ns ∧ r = 3)) ∧ t' = t ∧ g' = g ∧ tot' = tot)
def CreditEnd (w : World) (p bt bg nt ng : Nat) (t g : Int → Int) (tot : Int) (zs : List Int) (k ns : Int) (e : Ending) (w' : World) : Prop :=
  ∃ r nt' ng' t' g' tot', e = .returned (.int .i64 r) ∧ BookAt w' p bt bg nt' ng' t' g' tot' ∧ Turns [p, bt, bg] w w' ∧ nt' ≤ nt + 1 ∧ ng' ≤ ng + zs.length ∧ CreditSays zs k ns t g tot r t' g' tot'

theorem credit_any {p bt bg nt ng : Nat} {t g : Int → Int} {tot : Int} (A : Option Addr) (zs : List Int) (c : Nat) (k ns : Int) (w : World) (h : BookAt w p bt bg nt ng t g tot) (hp : PathAt w p A zs) (hreach : zs.length ≤ 1000)
    (hk1 : k ≤ 9223372036854775807) (hz1 : ∀ z ∈ zs, (Lit.int .i64 z).wf = true) (hnt : nt < 1000000) (hng : ng < 1000000) :
    Calls Try.prog 40 #[.pointer (some ⟨p, 0, none⟩), .slice A zs.length c, .int .i64 k, .int .i64 ns] w (CreditEnd w p bt bg nt ng t g tot zs k ns) := by
  by_cases hbad : credArg zs k ns = true
  · refine (credit_arg A zs c k ns w h hp hreach hbad).mono ?_
    rintro e w' ⟨rfl, hb⟩
    exact ⟨1, nt, ng, t, g, tot, rfl, h.below hb (Nat.le_refl _), Turns.of_below hb, by omega, by omega, .inr ⟨.inl ⟨hbad, rfl⟩, rfl, rfl, rfl⟩⟩
  · have hok : credArg zs k ns = false := by simpa using hbad
    by_cases hf : 9223372036854775807 - tot < ns
    · refine (credit_full A zs c k ns w h hp hreach hok hf).mono ?_
      rintro e w' ⟨rfl, hb⟩
      exact ⟨3, nt, ng, t, g, tot, rfl, h.below hb (Nat.le_refl _), Turns.of_below hb, by omega, by omega, .inr ⟨.inr ⟨hok, hf, rfl⟩, rfl, rfl, rfl⟩⟩
    · refine (credit_ok A zs c k ns w h hp hreach hok (by omega) hk1 (fun z hz => (bounds_i64 (hz1 z hz)).2) hnt hng).mono ?_
      rintro e w' ⟨rfl, B, T⟩
      exact ⟨0, _, _, _, _, _, rfl, B, T, by omega, by omega, .inl ⟨rfl, hok, by omega, rfl, rfl, rfl⟩⟩

/-! Sums. -/
def sumT (t : Int → Int) : List Int → Int
  | [] => 0
  | x :: l => t x + sumT t l
theorem sumT_perm {t : Int → Int} {l m : List Int} (h : l.Perm m) : sumT t l = sumT t m := by
  induction h with
  | nil => rfl
  | cons x _ ih => simp only [sumT]; omega
  | swap x y l => simp only [sumT]; omega
  | trans _ _ h1 h2 => omega
theorem sumT_append (t : Int → Int) : ∀ l m : List Int, sumT t (l ++ m) = sumT t l + sumT t m
  | [], m => by simp [sumT]
  | x :: l, m => by simp only [List.cons_append, sumT, sumT_append t l m]; omega
theorem sumT_not (t : Int → Int) (k v : Int) : ∀ l : List Int, k ∉ l → sumT (upd t k v) l = sumT t l
  | [], _ => rfl
  | x :: l, h => by
    have h1 : x ≠ k := fun e => h (by simp [e])
    have h2 := sumT_not t k v l (fun hm => h (by simp [hm]))
    simp only [sumT, upd_other t v h1, h2]
theorem sumT_upd (t : Int → Int) (k v : Int) : ∀ l : List Int, l.Nodup → k ∈ l → sumT (upd t k v) l = sumT t l - t k + v
  | [], _, h => by simp at h
  | x :: l, hn, h => by
    rw [List.nodup_cons] at hn
    by_cases e : x = k
    · subst e
      simp only [sumT, upd_same, sumT_not t x v l hn.1]; omega
    · have hm : k ∈ l := by rcases List.mem_cons.1 h with h | h; exact absurd h.symm e; exact h
      have := sumT_upd t k v l hn.2 hm
      simp only [sumT, upd_other t v e, this]; omega
theorem sumT_nil (t : Int → Int) : ∀ l : List Int, (∀ x ∈ l, t x = 0) → sumT t l = 0
  | [], _ => rfl
  | x :: l, h => by
    have h1 := h x (by simp)
    have h2 := sumT_nil t l (fun y hy => h y (by simp [hy]))
    simp only [sumT]; omega
theorem sumT_filter (t : Int → Int) : ∀ l : List Int, sumT t (l.filter fun x => decide (t x ≠ 0)) = sumT t l
  | [] => rfl
  | x :: l => by
    have := sumT_filter t l
    by_cases h : t x = 0
    · rw [List.filter_cons_of_neg (by simp [h])]; simp only [sumT]; omega
    · rw [List.filter_cons_of_pos (by simp [h])]; simp only [sumT]; omega
theorem sumT_pos {t : Int → Int} (h : ∀ x, 0 ≤ t x) : ∀ l : List Int, 0 ≤ sumT t l
  | [] => by simp [sumT]
  | x :: l => by have := h x; have := sumT_pos h l; simp only [sumT]; omega

/-- all that tasks had, together, is s -/
def SumOf (t : Int → Int) (s : Int) : Prop := ∃ K : List Int, K.Nodup ∧ (∀ x, t x ≠ 0 → x ∈ K) ∧ sumT t K = s
theorem SumOf.zero : SumOf (fun _ => 0) 0 := ⟨[], by simp, by simp, rfl⟩
theorem SumOf.upd {t : Int → Int} {s : Int} (h : SumOf t s) (k v : Int) : SumOf (upd t k v) (s - t k + v) := by
  obtain ⟨K, hn, hs, rfl⟩ := h
  by_cases hk : k ∈ K
  · refine ⟨K, hn, fun x hx => ?_, sumT_upd t k v K hn hk⟩
    by_cases e : x = k
    · rw [e]; exact hk
    · rw [upd_other t v e] at hx; exact hs x hx
  · have h0 : t k = 0 := by
      by_cases e : t k = 0
      · exact e
      · exact absurd (hs k e) hk
    refine ⟨k :: K, List.nodup_cons.2 ⟨hk, hn⟩, fun x hx => ?_, ?_⟩
    · by_cases e : x = k
      · simp [e]
      · rw [upd_other t v e] at hx; exact List.mem_cons_of_mem _ (hs x hx)
    · simp only [sumT, upd_same, sumT_not t k v K hk]; omega
theorem SumOf.tasks {t : Int → Int} {s : Int} (h : SumOf t s) {ss : List Int} (ht : TasksOf t ss) : sumT t ss = s := by
  obtain ⟨K, hn, hs, rfl⟩ := h
  rw [← sumT_filter t K]
  refine sumT_perm ((List.perm_ext_iff_of_nodup (ht.up.imp (fun h => by omega)) (hn.sublist List.filter_sublist)).2 fun x => ?_)
  rw [ht.mem, List.mem_filter]
  constructor
  · intro h; exact ⟨hs x h, by simpa using h⟩
  · rintro ⟨_, h⟩; simpa using h

end Go.Proofs.Ytkemhcokkaanfaa
