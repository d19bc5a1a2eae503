/- Addresses and messages as arguments. -/
import Derived.Test.YtjngdcilnipjcaaDoorRow2i
import Derived.Test.YtjngdcilnipjcaaDoorIc1
namespace Go.Proofs.YtjngdcilnipjcaaDoor
open Go Go.ChangeShapes Go.WideShapes Go.ChangeAt Go.RowKit Go.Eng

set_option maxRecDepth 100000 in
theorem arg_ip {W : World} {base : Nat} {v : Value} {H : Type} {enc : TypeId × Value → H} {d : DataW H} {p : List MemPlace} (hval : Value.okWide Tryd.prog W .any base 31 v)
    (h : DataW.Trod enc Tryd.prog W 0 (fun _ => true) true 31 v d p) (hb : Rows.uptoBulk d ≤ 1048576) : ∃ q : IPV, v = q.val ∧ Bts q.bytes := by
  obtain ⟨cs, rfl, hsz⟩ := okWide_struct Tryd.underlying31 hval
  have c17 : Tryd.prog.cellsOf 31 = 17 := by kernel_rfl
  have hr := Rd.of h hb
  obtain ⟨hl, hf⟩ := hr.struct Tryd.underlying31
  have ci : Tryd.prog.cellsOf 3 = 1 := by kernel_rfl
  have cu : Tryd.prog.cellsOf 5 = 1 := by kernel_rfl
  have ca : Tryd.prog.cellsOf 29 = 16 := by kernel_rfl
  have f0 : Rd Tryd.prog W 1048576 3 ((cs.toList.drop 0).take (Tryd.prog.cellsOf 3)) := hf 0 _ rfl
  have f1 : Rd Tryd.prog W 1048576 29 ((cs.toList.drop 1).take (Tryd.prog.cellsOf 29)) := hf 1 _ rfl
  rw [ci] at f0
  rw [ca] at f1
  obtain ⟨-, fa⟩ := f1.array Tryd.underlying29
  rw [cu] at fa
  rw [c17] at hsz
  have hlen : cs.toList.length = 17 := by simpa using hsz
  have hcs : cs = cs.toList.toArray := by simp
  generalize cs.toList = l at f0 fa hlen hcs
  subst hcs
  match l, hlen with
  | [x, y0, y1, y2, y3, y4, y5, y6, y7, y8, y9, y10, y11, y12, y13, y14, y15], _ =>
    simp only [List.drop_zero, List.take_succ_cons, List.take_zero, List.drop_succ_cons] at f0 fa
    obtain ⟨k, e, -⟩ := f0.int Tryd.underlying3
    have g : ∀ i (hi : i < 16) (u : Value), [y0, y1, y2, y3, y4, y5, y6, y7, y8, y9, y10, y11, y12, y13, y14, y15][i]? = some u → ∃ z, u = .int .u8 z ∧ 0 ≤ z ∧ z < 256 := fun i hi u hu => by
      have h1 := fa i hi
      rw [Nat.mul_one] at h1
      have h2 : (([y0, y1, y2, y3, y4, y5, y6, y7, y8, y9, y10, y11, y12, y13, y14, y15].drop i).take 1) = [u] := by
        rw [List.take_one, List.head?_drop, hu]; rfl
      rw [h2] at h1
      obtain ⟨z, hz, hw⟩ := h1.int Tryd.underlying5
      exact ⟨z, by simpa using hz, wf_u8 hw⟩
    obtain ⟨z0, rfl, w0⟩ := g 0 (by decide) _ rfl
    obtain ⟨z1, rfl, w1⟩ := g 1 (by decide) _ rfl
    obtain ⟨z2, rfl, w2⟩ := g 2 (by decide) _ rfl
    obtain ⟨z3, rfl, w3⟩ := g 3 (by decide) _ rfl
    obtain ⟨z4, rfl, w4⟩ := g 4 (by decide) _ rfl
    obtain ⟨z5, rfl, w5⟩ := g 5 (by decide) _ rfl
    obtain ⟨z6, rfl, w6⟩ := g 6 (by decide) _ rfl
    obtain ⟨z7, rfl, w7⟩ := g 7 (by decide) _ rfl
    obtain ⟨z8, rfl, w8⟩ := g 8 (by decide) _ rfl
    obtain ⟨z9, rfl, w9⟩ := g 9 (by decide) _ rfl
    obtain ⟨z10, rfl, w10⟩ := g 10 (by decide) _ rfl
    obtain ⟨z11, rfl, w11⟩ := g 11 (by decide) _ rfl
    obtain ⟨z12, rfl, w12⟩ := g 12 (by decide) _ rfl
    obtain ⟨z13, rfl, w13⟩ := g 13 (by decide) _ rfl
    obtain ⟨z14, rfl, w14⟩ := g 14 (by decide) _ rfl
    obtain ⟨z15, rfl, w15⟩ := g 15 (by decide) _ rfl
    simp only [List.cons.injEq, and_true] at e
    subst e
    refine ⟨⟨k, z0, z1, z2, z3, z4, z5, z6, z7, z8, z9, z10, z11, z12, z13, z14, z15⟩, rfl, fun z hz => ?_⟩
    simp only [IPV.bytes, List.mem_cons, List.not_mem_nil, or_false] at hz
    rcases hz with rfl | rfl | rfl | rfl | rfl | rfl | rfl | rfl | rfl | rfl | rfl | rfl | rfl | rfl | rfl | rfl <;> assumption
set_option maxRecDepth 100000 in
theorem arg_msg {W : World} {base : Nat} {v : Value} {H : Type} {enc : TypeId × Value → H} {d : DataW H} {p : List MemPlace} (hval : Value.okWide Tryd.prog W .any base 24 v)
    (h : DataW.Trod enc Tryd.prog W 0 (fun _ => true) true 24 v d p) (hb : Rows.uptoBulk d ≤ 1048576) :
    ∃ (m : MsgV) (data : List Int), v = m.val ∧ Cells W m.A (data.map (.int .u8)) ∧ data.length = m.n ∧ Bts data ∧ m.n ≤ m.k ∧ m.n ≤ 1048576 := by
  obtain ⟨cs, rfl, hsz⟩ := okWide_struct Tryd.underlying24 hval
  have c5 : Tryd.prog.cellsOf 24 = 5 := by kernel_rfl
  have hr := Rd.of h hb
  obtain ⟨hl, hf⟩ := hr.struct Tryd.underlying24
  have ci : Tryd.prog.cellsOf 3 = 1 := by kernel_rfl
  have cb : Tryd.prog.cellsOf 22 = 1 := by kernel_rfl
  have f0 : Rd Tryd.prog W 1048576 3 ((cs.toList.drop 0).take (Tryd.prog.cellsOf 3)) := hf 0 _ rfl
  have f1 : Rd Tryd.prog W 1048576 3 ((cs.toList.drop 1).take (Tryd.prog.cellsOf 3)) := hf 1 _ rfl
  have f2 : Rd Tryd.prog W 1048576 3 ((cs.toList.drop 2).take (Tryd.prog.cellsOf 3)) := hf 2 _ rfl
  have f3 : Rd Tryd.prog W 1048576 3 ((cs.toList.drop 3).take (Tryd.prog.cellsOf 3)) := hf 3 _ rfl
  have f4 : Rd Tryd.prog W 1048576 22 ((cs.toList.drop 4).take (Tryd.prog.cellsOf 22)) := hf 4 _ rfl
  rw [ci] at f0 f1 f2 f3
  rw [cb] at f4
  rw [c5] at hsz
  have hlen : cs.toList.length = 5 := by simpa using hsz
  have hcs : cs = cs.toList.toArray := by simp
  generalize cs.toList = l at f0 f1 f2 f3 f4 hlen hcs
  subst hcs
  match l, hlen with
  | [x0, x1, x2, x3, x4], _ =>
    simp only [List.drop_zero, List.take_succ_cons, List.take_zero, List.drop_succ_cons] at f0 f1 f2 f3 f4
    obtain ⟨k0, e0, -⟩ := f0.int Tryd.underlying3
    obtain ⟨k1, e1, -⟩ := f1.int Tryd.underlying3
    obtain ⟨k2, e2, -⟩ := f2.int Tryd.underlying3
    obtain ⟨k3, e3, -⟩ := f3.int Tryd.underlying3
    obtain ⟨A', n', c', zs, e4, hn', hcb', -, hl', hcl, hwf⟩ := f4.ints Tryd.underlying22 Tryd.underlying5 cells_byte
    simp only [List.cons.injEq, and_true] at e0 e1 e2 e3 e4
    subst e0; subst e1; subst e2; subst e3; subst e4
    exact ⟨⟨k0, k1, k2, k3, A', n', c'⟩, zs.take n', rfl, Cells.upto hcl n', by simp; omega, bts_upto hwf n', hn', by show n' ≤ 1048576; omega⟩
end Go.Proofs.YtjngdcilnipjcaaDoor
