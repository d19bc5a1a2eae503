/- Addresses and messages as arguments. -/
import Derived.Test.YtjngdcilnipjcaaGreatDoorBo
import Derived.Test.YtjngdcilnipjcaaGreatDoorBm
import Derived.Test.YtjngdcilnipjcaaGreatDoorXb
namespace Go.Proofs.YtjngdcilnipjcaaGreatDoor
open Go Go.ChangeShapes Go.WideShapes Go.ChangeAt Go.RowKit Go.Eng
set_option maxRecDepth 100000 in
theorem arg_ip {W : World} {base : Nat} {v : Value} {H : Type} {enc : TypeId × Value → H} {d : DataW H} {p : List MemPlace} (hval : Value.okWide Tryz.prog W .any base 24 v)
  (h : DataW.Trod enc Tryz.prog W 0 (fun _ => true) true 24 v d p) (hb : Rows.uptoBulk d ≤ 1048576) : ∃ q : IPV, v = q.val ∧ Bts q.bytes := by
 obtain ⟨cs, rfl, hsz⟩ := okWide_struct Tryz.underlying24 hval
 have c17 : Tryz.prog.cellsOf 24 = 17 := by kernel_rfl
 have hr := Rd.of h hb
 obtain ⟨hl, hf⟩ := hr.struct Tryz.underlying24
 have ci : Tryz.prog.cellsOf 3 = 1 := by kernel_rfl
 have cu : Tryz.prog.cellsOf 5 = 1 := by kernel_rfl
 have ca : Tryz.prog.cellsOf 22 = 16 := by kernel_rfl
 have f0 : Rd Tryz.prog W 1048576 3 ((cs.toList.drop 0).take (Tryz.prog.cellsOf 3)) := hf 0 _ rfl
 have f1 : Rd Tryz.prog W 1048576 22 ((cs.toList.drop 1).take (Tryz.prog.cellsOf 22)) := hf 1 _ rfl
 rw [ci] at f0
 rw [ca] at f1
 obtain ⟨-, fa⟩ := f1.array Tryz.underlying22
 rw [cu] at fa
 rw [c17] at hsz
 have hlen : cs.toList.length = 17 := by simpa using hsz
 have hcs : cs = cs.toList.toArray := by simp
 generalize cs.toList = l at f0 fa hlen hcs
 subst hcs
 match l, hlen with
 | [x, y0, y1, y2, y3, y4, y5, y6, y7, y8, y9, y10, y11, y12, y13, y14, y15], _ =>
  simp only [List.drop_zero, List.take_succ_cons, List.take_zero, List.drop_succ_cons] at f0 fa
  obtain ⟨k, e, -⟩ := f0.int Tryz.underlying3
  have g : ∀ i (hi : i < 16) (u : Value), [y0, y1, y2, y3, y4, y5, y6, y7, y8, y9, y10, y11, y12, y13, y14, y15][i]? = some u → ∃ z, u = .int .u8 z ∧ 0 ≤ z ∧ z < 256 := fun i hi u hu => by
   have h1 := fa i hi
   rw [Nat.mul_one] at h1
   have h2 : (([y0, y1, y2, y3, y4, y5, y6, y7, y8, y9, y10, y11, y12, y13, y14, y15].drop i).take 1) = [u] := by
    rw [List.take_one, List.head?_drop, hu]; rfl
   rw [h2] at h1
   obtain ⟨z, hz, hw⟩ := h1.int Tryz.underlying5
   exact ⟨z, by simpa using hz, wf_u8 hw⟩
  obtain ⟨z0, rfl, w0⟩ := g 0 (by decide) _ rfl
  obtain ⟨z1, rfl, w1⟩ := g 1 (by decide) _ rfl
  obtain ⟨z2, rfl, w2⟩ := g 2 (by decide) _ rfl
  obtain ⟨z3, rfl, w3⟩ := g 3 (by decide) _ rfl
  obtain ⟨z4, rfl, w4⟩ := g 4 (by decide) _ rfl
  obtain ⟨z5, rfl, w5⟩ := g 5 (by decide) _ rfl
  obtain ⟨z6, rfl, w6⟩ := g 6 (by decide) _ rfl
  obtain ⟨z7, rfl, w7⟩ := g 7 (by decide) _ rfl
  obtain ⟨z8, rfl, w8⟩ := g 8 (by decide) _ rfl
  obtain ⟨z9, rfl, w9⟩ := g 9 (by decide) _ rfl
  obtain ⟨z10, rfl, w10⟩ := g 10 (by decide) _ rfl
  obtain ⟨z11, rfl, w11⟩ := g 11 (by decide) _ rfl
  obtain ⟨z12, rfl, w12⟩ := g 12 (by decide) _ rfl
  obtain ⟨z13, rfl, w13⟩ := g 13 (by decide) _ rfl
  obtain ⟨z14, rfl, w14⟩ := g 14 (by decide) _ rfl
  obtain ⟨z15, rfl, w15⟩ := g 15 (by decide) _ rfl
  simp only [List.cons.injEq, and_true] at e
  subst e
  refine ⟨⟨k, z0, z1, z2, z3, z4, z5, z6, z7, z8, z9, z10, z11, z12, z13, z14, z15⟩, rfl, fun z hz => ?_⟩
  simp only [IPV.bytes, List.mem_cons, List.not_mem_nil, or_false] at hz
  rcases hz with rfl | rfl | rfl | rfl | rfl | rfl | rfl | rfl | rfl | rfl | rfl | rfl | rfl | rfl | rfl | rfl <;> assumption
set_option maxRecDepth 100000 in
theorem arg_msg {W : World} {base : Nat} {v : Value} {H : Type} {enc : TypeId × Value → H} {d : DataW H} {p : List MemPlace} (hval : Value.okWide Tryz.prog W .any base 27 v)
  (h : DataW.Trod enc Tryz.prog W 0 (fun _ => true) true 27 v d p) (hb : Rows.uptoBulk d ≤ 1048576) :
  ∃ (m : MsgV) (data : List Int), v = m.val ∧ Cells W m.A (data.map (.int .u8)) ∧ data.length = m.n ∧ Bts data ∧ m.n ≤ m.k ∧ m.n ≤ 1048576 := by
 obtain ⟨cs, rfl, hsz⟩ := okWide_struct Tryz.underlying27 hval
 have c5 : Tryz.prog.cellsOf 27 = 5 := by kernel_rfl
 have hr := Rd.of h hb
 obtain ⟨hl, hf⟩ := hr.struct Tryz.underlying27
 have ci : Tryz.prog.cellsOf 3 = 1 := by kernel_rfl
 have cb : Tryz.prog.cellsOf 25 = 1 := by kernel_rfl
 have f0 : Rd Tryz.prog W 1048576 3 ((cs.toList.drop 0).take (Tryz.prog.cellsOf 3)) := hf 0 _ rfl
 have f1 : Rd Tryz.prog W 1048576 3 ((cs.toList.drop 1).take (Tryz.prog.cellsOf 3)) := hf 1 _ rfl
 have f2 : Rd Tryz.prog W 1048576 3 ((cs.toList.drop 2).take (Tryz.prog.cellsOf 3)) := hf 2 _ rfl
 have f3 : Rd Tryz.prog W 1048576 3 ((cs.toList.drop 3).take (Tryz.prog.cellsOf 3)) := hf 3 _ rfl
 have f4 : Rd Tryz.prog W 1048576 25 ((cs.toList.drop 4).take (Tryz.prog.cellsOf 25)) := hf 4 _ rfl
 rw [ci] at f0 f1 f2 f3
 rw [cb] at f4
 rw [c5] at hsz
 have hlen : cs.toList.length = 5 := by simpa using hsz
 have hcs : cs = cs.toList.toArray := by simp
 generalize cs.toList = l at f0 f1 f2 f3 f4 hlen hcs
 subst hcs
 match l, hlen with
 | [x0, x1, x2, x3, x4], _ =>
  simp only [List.drop_zero, List.take_succ_cons, List.take_zero, List.drop_succ_cons] at f0 f1 f2 f3 f4
  obtain ⟨k0, e0, -⟩ := f0.int Tryz.underlying3
  obtain ⟨k1, e1, -⟩ := f1.int Tryz.underlying3
  obtain ⟨k2, e2, -⟩ := f2.int Tryz.underlying3
  obtain ⟨k3, e3, -⟩ := f3.int Tryz.underlying3
  obtain ⟨A', n', c', zs, e4, hn', hcb', -, hl', hcl, hwf⟩ := f4.ints Tryz.underlying25 Tryz.underlying5 cells_byte
  simp only [List.cons.injEq, and_true] at e0 e1 e2 e3 e4
  subst e0; subst e1; subst e2; subst e3; subst e4
  exact ⟨⟨k0, k1, k2, k3, A', n', c'⟩, zs.take n', rfl, Cells.upto hcl n', by simp; omega, bts_upto hwf n', hn', by show n' ≤ 1048576; omega⟩
end Go.Proofs.YtjngdcilnipjcaaGreatDoor
/- Neighbour discovery's values as an argument. -/
namespace Go.Proofs.YtjngdcilnipjcaaGreatDoor
open Go Go.ChangeShapes Go.WideShapes Go.ChangeAt Go.RowKit Go.Eng
set_option maxRecDepth 100000 in
theorem arg_nd {W : World} {base : Nat} {v : Value} {H : Type} {enc : TypeId × Value → H} {d : DataW H} {p : List MemPlace} (hval : Value.okWide Tryz.prog W .any base 41 v)
  (h : DataW.Trod enc Tryz.prog W 0 (fun _ => true) true 41 v d p) (hb : Rows.uptoBulk d ≤ 1048576) : ∃ n : NDV, v = n.val ∧ Bts n.p.bytes ∧ Bts n.mac ∧ (-9223372036854775808 ≤ n.kind ∧ n.kind ≤ 9223372036854775807) := by
 obtain ⟨cs, rfl, hsz⟩ := okWide_struct Tryz.underlying41 hval
 have c28 : Tryz.prog.cellsOf 41 = 28 := by kernel_rfl
 have ci : Tryz.prog.cellsOf 3 = 1 := by kernel_rfl
 have cb : Tryz.prog.cellsOf 4 = 1 := by kernel_rfl
 have cu : Tryz.prog.cellsOf 5 = 1 := by kernel_rfl
 have ca : Tryz.prog.cellsOf 22 = 16 := by kernel_rfl
 have c17 : Tryz.prog.cellsOf 24 = 17 := by kernel_rfl
 have c6 : Tryz.prog.cellsOf 39 = 6 := by kernel_rfl
 have hr := Rd.of h hb
 obtain ⟨hl, hf⟩ := hr.struct Tryz.underlying41
 have f0 : Rd Tryz.prog W 1048576 3 ((cs.toList.drop 0).take (Tryz.prog.cellsOf 3)) := hf 0 _ rfl
 have f1 : Rd Tryz.prog W 1048576 24 ((cs.toList.drop 1).take (Tryz.prog.cellsOf 24)) := hf 1 _ rfl
 have f2 : Rd Tryz.prog W 1048576 4 ((cs.toList.drop 18).take (Tryz.prog.cellsOf 4)) := hf 2 _ rfl
 have f3 : Rd Tryz.prog W 1048576 4 ((cs.toList.drop 19).take (Tryz.prog.cellsOf 4)) := hf 3 _ rfl
 have f4 : Rd Tryz.prog W 1048576 4 ((cs.toList.drop 20).take (Tryz.prog.cellsOf 4)) := hf 4 _ rfl
 have f5 : Rd Tryz.prog W 1048576 4 ((cs.toList.drop 21).take (Tryz.prog.cellsOf 4)) := hf 5 _ rfl
 have f6 : Rd Tryz.prog W 1048576 39 ((cs.toList.drop 22).take (Tryz.prog.cellsOf 39)) := hf 6 _ rfl
 rw [ci] at f0
 rw [c17] at f1
 rw [cb] at f2 f3 f4 f5
 rw [c6] at f6
 obtain ⟨-, hg⟩ := f1.struct Tryz.underlying24
 have g0 : Rd Tryz.prog W 1048576 3 ((((cs.toList.drop 1).take 17).drop 0).take (Tryz.prog.cellsOf 3)) := hg 0 _ rfl
 have g1 : Rd Tryz.prog W 1048576 22 ((((cs.toList.drop 1).take 17).drop 1).take (Tryz.prog.cellsOf 22)) := hg 1 _ rfl
 rw [ci] at g0
 rw [ca] at g1
 obtain ⟨-, fa⟩ := g1.array Tryz.underlying22
 obtain ⟨-, fm⟩ := f6.array Tryz.underlying39
 rw [cu] at fa fm
 rw [c28] at hsz
 have hlen : cs.toList.length = 28 := by simpa using hsz
 have hcs : cs = cs.toList.toArray := by simp
 generalize cs.toList = l at f0 f2 f3 f4 f5 g0 fa fm hlen hcs
 subst hcs
 match l, hlen with
 | [k, v, y0, y1, y2, y3, y4, y5, y6, y7, y8, y9, y10, y11, y12, y13, y14, y15, b0, b1, b2, b3, z0, z1, z2, z3, z4, z5], _ =>
  simp only [List.drop_zero, List.take_succ_cons, List.take_zero, List.drop_succ_cons] at f0 f2 f3 f4 f5 g0 fa fm
  have byte : ∀ (L : List Value) (q : Nat), (∀ i, i < q → Rd Tryz.prog W 1048576 5 ((L.drop (i * 1)).take 1)) → ∀ i (hi : i < q) (u : Value), L[i]? = some u → ∃ z, u = .int .u8 z ∧ 0 ≤ z ∧ z < 256 := fun L q hL i hi u hu => by
   have h1 := hL i hi
   rw [Nat.mul_one] at h1
   have h2 : ((L.drop i).take 1) = [u] := by
    rw [List.take_one, List.head?_drop, hu]; rfl
   rw [h2] at h1
   obtain ⟨z, hz, hw⟩ := h1.int Tryz.underlying5
   exact ⟨z, by simpa using hz, wf_u8 hw⟩
  obtain ⟨kk, e0, wk⟩ := f0.int Tryz.underlying3
  obtain ⟨vv, e1, -⟩ := g0.int Tryz.underlying3
  obtain ⟨c0, e2⟩ := f2.bool Tryz.underlying4
  obtain ⟨c1, e3⟩ := f3.bool Tryz.underlying4
  obtain ⟨c2, e4⟩ := f4.bool Tryz.underlying4
  obtain ⟨c3, e5⟩ := f5.bool Tryz.underlying4
  obtain ⟨p0, rfl, w0⟩ := byte _ _ fa 0 (by decide) _ rfl
  obtain ⟨p1, rfl, w1⟩ := byte _ _ fa 1 (by decide) _ rfl
  obtain ⟨p2, rfl, w2⟩ := byte _ _ fa 2 (by decide) _ rfl
  obtain ⟨p3, rfl, w3⟩ := byte _ _ fa 3 (by decide) _ rfl
  obtain ⟨p4, rfl, w4⟩ := byte _ _ fa 4 (by decide) _ rfl
  obtain ⟨p5, rfl, w5⟩ := byte _ _ fa 5 (by decide) _ rfl
  obtain ⟨p6, rfl, w6⟩ := byte _ _ fa 6 (by decide) _ rfl
  obtain ⟨p7, rfl, w7⟩ := byte _ _ fa 7 (by decide) _ rfl
  obtain ⟨p8, rfl, w8⟩ := byte _ _ fa 8 (by decide) _ rfl
  obtain ⟨p9, rfl, w9⟩ := byte _ _ fa 9 (by decide) _ rfl
  obtain ⟨p10, rfl, w10⟩ := byte _ _ fa 10 (by decide) _ rfl
  obtain ⟨p11, rfl, w11⟩ := byte _ _ fa 11 (by decide) _ rfl
  obtain ⟨p12, rfl, w12⟩ := byte _ _ fa 12 (by decide) _ rfl
  obtain ⟨p13, rfl, w13⟩ := byte _ _ fa 13 (by decide) _ rfl
  obtain ⟨p14, rfl, w14⟩ := byte _ _ fa 14 (by decide) _ rfl
  obtain ⟨p15, rfl, w15⟩ := byte _ _ fa 15 (by decide) _ rfl
  obtain ⟨q0, rfl, u0⟩ := byte _ _ fm 0 (by decide) _ rfl
  obtain ⟨q1, rfl, u1⟩ := byte _ _ fm 1 (by decide) _ rfl
  obtain ⟨q2, rfl, u2⟩ := byte _ _ fm 2 (by decide) _ rfl
  obtain ⟨q3, rfl, u3⟩ := byte _ _ fm 3 (by decide) _ rfl
  obtain ⟨q4, rfl, u4⟩ := byte _ _ fm 4 (by decide) _ rfl
  obtain ⟨q5, rfl, u5⟩ := byte _ _ fm 5 (by decide) _ rfl
  simp only [List.cons.injEq, and_true] at e0 e1 e2 e3 e4 e5
  subst e0; subst e1; subst e2; subst e3; subst e4; subst e5
  refine ⟨⟨kk, ⟨vv, p0, p1, p2, p3, p4, p5, p6, p7, p8, p9, p10, p11, p12, p13, p14, p15⟩, c0, c1, c2, c3, q0, q1, q2, q3, q4, q5⟩, rfl, fun z hz => ?_, fun z hz => ?_, ?_⟩
  ·simp only [IPV.bytes, List.mem_cons, List.not_mem_nil, or_false] at hz
   rcases hz with rfl | rfl | rfl | rfl | rfl | rfl | rfl | rfl | rfl | rfl | rfl | rfl | rfl | rfl | rfl | rfl <;> assumption
  ·simp only [NDV.mac, List.mem_cons, List.not_mem_nil, or_false] at hz
   rcases hz with rfl | rfl | rfl | rfl | rfl | rfl <;> assumption
  ·simp [Lit.wf, IntKind.min, IntKind.max, IntKind.signed, IntKind.bits] at wk
   exact ⟨by show _ ≤ kk; omega, by show kk ≤ _; omega⟩
end Go.Proofs.YtjngdcilnipjcaaGreatDoor
