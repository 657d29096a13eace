/-
  Chapter 8: how its inputs lie.
-/
import Derived.Test.YtkemhcokkaanfaaQa
import Derived.Test.YtkemhcokkaanfaaFrame
import Derived.Test.YtkemhcokkaanfaaOpen2
namespace Go.Proofs.Ytkemhcokkaanfaa
open Go.ChangeShapes Go.WideShapes Go.ChangeAt Go.RowKit Go.Deep Go.Maps

/-- the numbers of an entity are numbers -/
structure En.num (e : En) : Prop where
  i1 : -9223372036854775808 ≤ e.id
  i2 : e.id ≤ 9223372036854775807
  v1 : -9223372036854775808 ≤ e.v
  v2 : e.v ≤ 9223372036854775807
  w2 : e.wt < 18446744073709551616
  r2 : e.rem < 18446744073709551616
section
variable {H : Type} {enc : TypeId × Value → H} {W : World} {v : Value} {d : DataW H} {p : List MemPlace} {b0 : Nat}
theorem cells_int : Try.prog.cellsOf 3 = 1 := by kernel_rfl
theorem cells_i64 : Try.prog.cellsOf 2 = 1 := by kernel_rfl
theorem cells_u64 : Try.prog.cellsOf 22 = 1 := by kernel_rfl
theorem cells_ent : Try.prog.cellsOf 52 = 4 := by kernel_rfl
set_option maxRecDepth 100000 in
theorem open_entv (hv : Value.okWide Try.prog W .any b0 52 v) (h : DataW.Trod enc Try.prog W 0 (fun _ => true) true 52 v d p) : ∃ e : En, v = enV e ∧ e.num := by
  obtain ⟨cs, rfl, hsz⟩ := okWide_struct Try.underlying52 hv
  obtain ⟨fuel, hf⟩ := h
  obtain ⟨xs, m, _, _, hlen, hxl, hi⟩ := DataW.trod_struct Try.underlying52 hf
  obtain ⟨x0, x1, x2, x3, rfl⟩ := Joins.array4 (hsz.trans cells_ent)
  have h4 : xs.length = 4 := hxl
  have h0 : DataW.trod enc Try.prog W 0 (fun _ => true) true m 3 (List.take (Try.prog.cellsOf 3) [x0, x1, x2, x3]) = xs[0]? := hi 0 _ rfl
  have h1 : DataW.trod enc Try.prog W 0 (fun _ => true) true m 22 (List.take (Try.prog.cellsOf 22) [x1, x2, x3]) = xs[1]? := hi 1 _ rfl
  have h2 : DataW.trod enc Try.prog W 0 (fun _ => true) true m 2 (List.take (Try.prog.cellsOf 2) [x2, x3]) = xs[2]? := hi 2 _ rfl
  have h3 : DataW.trod enc Try.prog W 0 (fun _ => true) true m 22 (List.take (Try.prog.cellsOf 22) [x3]) = xs[3]? := hi 3 _ rfl
  rw [cells_int, List.getElem?_eq_getElem (by omega)] at h0
  rw [cells_u64, List.getElem?_eq_getElem (by omega)] at h1 h3
  rw [cells_i64, List.getElem?_eq_getElem (by omega)] at h2
  obtain ⟨k, rfl, bk⟩ := trod_i64 Try.underlying3 h0
  obtain ⟨wt, rfl, bw⟩ := trod_u64 Try.underlying22 h1
  obtain ⟨vv, rfl, bv⟩ := trod_i64 Try.underlying2 h2
  obtain ⟨rm, rfl, br⟩ := trod_u64 Try.underlying22 h3
  exact ⟨⟨k, wt, vv, rm⟩, rfl, bk.1, bk.2, bv.1, bv.2, bw, br⟩
end

end Go.Proofs.Ytkemhcokkaanfaa
