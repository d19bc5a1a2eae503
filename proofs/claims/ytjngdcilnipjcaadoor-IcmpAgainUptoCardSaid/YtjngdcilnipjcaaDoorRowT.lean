/- The table of nets as the row lists it; neighbour discovery as an argument. -/
import Derived.Test.YtjngdcilnipjcaaDoorRowI
import Derived.Test.YtjngdcilnipjcaaDoorNd5
import Derived.Test.YtjngdcilnipjcaaDoorRows
import Derived.Lib.LaidTab
namespace Go.Proofs.YtjngdcilnipjcaaDoor
open Go Go.ChangeShapes Go.WideShapes Go.ChangeAt Go.RowKit Go.Eng

def netD {H : Type} (N : NetV) : DataW H := .agg [.lit (.int .i64 N.p.v), Lib.tabData .u8 N.p.bytes, .lit (.int .i64 N.b), .lit (.int .i64 N.c)]
theorem netsD {H : Type} : (Rows.laid_weir_addr_nets : DataW H) = .agg (netsV.map netD) := rfl
section
variable {H : Type} {enc : TypeId × Value → H} {W : World} {base : Nat} {sp : Nat → Bool} {held : Bool}
set_option maxRecDepth 100000 in
theorem net_cells {fuel : Nat} {cs : List Value} {x : DataW H × List MemPlace} {N : NetV} (h : DataW.trod enc Tryd.prog W base sp held fuel 151 cs = some x) (hx : x.1 = netD N) : cs = N.cells := by
  have c19 : Tryd.prog.cellsOf 151 = 19 := by kernel_rfl
  have ci : Tryd.prog.cellsOf 3 = 1 := by kernel_rfl
  have cu : Tryd.prog.cellsOf 5 = 1 := by kernel_rfl
  have ca : Tryd.prog.cellsOf 29 = 16 := by kernel_rfl
  obtain ⟨ys, m, rfl, rfl, hl, hlen, hf⟩ := DataW.trod_struct Tryd.underlying151 h
  have hlen : ys.length = 4 := hlen
  have f0 : DataW.trod enc Tryd.prog W base sp held m 3 ((cs.drop 0).take (Tryd.prog.cellsOf 3)) = ys[0]? := hf 0 _ rfl
  have f1 : DataW.trod enc Tryd.prog W base sp held m 29 ((cs.drop 1).take (Tryd.prog.cellsOf 29)) = ys[1]? := hf 1 _ rfl
  have f2 : DataW.trod enc Tryd.prog W base sp held m 3 ((cs.drop 17).take (Tryd.prog.cellsOf 3)) = ys[2]? := hf 2 _ rfl
  have f3 : DataW.trod enc Tryd.prog W base sp held m 3 ((cs.drop 18).take (Tryd.prog.cellsOf 3)) = ys[3]? := hf 3 _ rfl
  rw [ci] at f0 f2 f3
  rw [ca] at f1
  rw [c19] at hl
  match ys, hlen with
  | [y0, y1, y2, y3], _ =>
    simp only [netD, List.map_cons, List.map_nil, DataW.agg.injEq, List.cons.injEq, and_true] at hx
    obtain ⟨h0, h1, h2, h3⟩ := hx
    obtain ⟨k0, e0, q0, -⟩ := DataW.trod_int Tryd.underlying3 (f0.trans rfl)
    obtain ⟨k2, e2, q2, -⟩ := DataW.trod_int Tryd.underlying3 (f2.trans rfl)
    obtain ⟨k3, e3, q3, -⟩ := DataW.trod_int Tryd.underlying3 (f3.trans rfl)
    have e1 := Lib.cells_of_tab (zs := N.p.bytes) (p := y1.2) Tryd.underlying29 Tryd.underlying5 cu ca (f1.trans (by show some y1 = some _; rw [← h1]))
    have g0 : k0 = N.p.v := by rw [q0] at h0; simpa using h0
    have g2 : k2 = N.b := by rw [q2] at h2; simpa using h2
    have g3 : k3 = N.c := by rw [q3] at h3; simpa using h3
    subst g0; subst g2; subst g3
    match cs, hl with
    | [x0, x1, x2, x3, x4, x5, x6, x7, x8, x9, x10, x11, x12, x13, x14, x15, x16, x17, x18], _ =>
      simp only [List.drop_zero, List.take_succ_cons, List.take_zero, List.drop_succ_cons, IPV.bytes, List.map_cons, List.map_nil, List.cons.injEq, and_true] at e0 e1 e2 e3
      obtain ⟨r0, r1, r2, r3, r4, r5, r6, r7, r8, r9, r10, r11, r12, r13, r14, r15⟩ := e1
      subst e0; subst e2; subst e3
      subst r0
      subst r1
      subst r2
      subst r3
      subst r4
      subst r5
      subst r6
      subst r7
      subst r8
      subst r9
      subst r10
      subst r11
      subst r12
      subst r13
      subst r14
      subst r15
      rfl
end
set_option maxRecDepth 100000 in
/-- What the row lists, the memory holds. -/
theorem nets_tab {W : World} {rest : List (String × DataW Unit)} (h : laidMet Tryd.prog (("weir/addr.nets", Rows.laid_weir_addr_nets) :: rest) W) : Nd.Tab W := by
  obtain ⟨ps, ⟨g', t', cs, fuel, p, q, hg', ht', hvar, hd, _, _⟩, _⟩ := h
  have hg : Tryd.prog.globalNamed "weir/addr.nets" = some 2 := by kernel_rfl
  have hty : (Tryd.prog.globals[2]?).map (·.type) = some 152 := by kernel_rfl
  obtain rfl := Option.some.inj (hg.symm.trans hg')
  obtain rfl := Option.some.inj (hty.symm.trans ht')
  have c19 : Tryd.prog.cellsOf 151 = 19 := by kernel_rfl
  have c228 : Tryd.prog.cellsOf 152 = 228 := by kernel_rfl
  obtain ⟨xs, n, rfl, hx, hl, hlen, hf⟩ := DataW.trod_array Tryd.underlying152 hd
  rw [c228] at hl
  rw [c19] at hf
  have hD : (DataW.agg (netsV.map netD) : DataW Unit) = .agg (xs.map (·.1)) := by rw [← netsD]; exact congrArg Prod.fst hx
  injection hD with hD
  have hat : ∀ i, (hi : i < 12) → (cs.toList.drop (i * 19)).take 19 = (netsV[i]'(by rw [nets_len]; exact hi)).cells := fun i hi => by
    have hix : i < xs.length := by have := congrArg List.length hD; simp at this; rw [nets_len] at this; omega
    have h1 := hf i hi
    rw [List.getElem?_eq_getElem hix] at h1
    refine net_cells h1 ?_
    have h2 := congrArg (·[i]?) hD
    simp only [List.getElem?_map] at h2
    rw [List.getElem?_eq_getElem (by rw [nets_len]; exact hi), List.getElem?_eq_getElem hix] at h2
    simpa using h2.symm
  have hL : cs.toList = netsL := by
    have n228 : netsL.length = 228 := rfl
    refine List.ext_getElem? fun j => ?_
    rcases Nat.lt_or_ge j 228 with hj | hj
    · have h1 := congrArg (·[j % 19]?) ((hat (j / 19) (by omega)).trans (nets_at (j / 19) (by omega)).symm)
      simp only [List.getElem?_take, List.getElem?_drop] at h1
      rw [if_pos (by omega), if_pos (by omega), show j / 19 * 19 + j % 19 = j by omega] at h1
      exact h1
    · rw [List.getElem?_eq_none (by omega), List.getElem?_eq_none (by omega)]
  refine CellsAt.of netsL 0 fun j v hv => ?_
  have := World.var?_cell hg hvar j
  rw [addr_add, Nat.zero_add, Nat.zero_add, this, ← hv, ← hL]
  simp
set_option maxRecDepth 100000 in
theorem arg_nd {W : World} {base : Nat} {v : Value} {H : Type} {enc : TypeId × Value → H} {d : DataW H} {p : List MemPlace} (hval : Value.okWide Tryd.prog W .any base 35 v)
    (h : DataW.Trod enc Tryd.prog W 0 (fun _ => true) true 35 v d p) (hb : Rows.uptoBulk d ≤ 1048576) : ∃ n : NDV, v = n.val ∧ Bts n.p.bytes ∧ Bts n.mac ∧ (-9223372036854775808 ≤ n.kind ∧ n.kind ≤ 9223372036854775807) := by
  obtain ⟨cs, rfl, hsz⟩ := okWide_struct Tryd.underlying35 hval
  have c28 : Tryd.prog.cellsOf 35 = 28 := by kernel_rfl
  have ci : Tryd.prog.cellsOf 3 = 1 := by kernel_rfl
  have cb : Tryd.prog.cellsOf 4 = 1 := by kernel_rfl
  have cu : Tryd.prog.cellsOf 5 = 1 := by kernel_rfl
  have ca : Tryd.prog.cellsOf 29 = 16 := by kernel_rfl
  have c17 : Tryd.prog.cellsOf 31 = 17 := by kernel_rfl
  have c6 : Tryd.prog.cellsOf 33 = 6 := by kernel_rfl
  have hr := Rd.of h hb
  obtain ⟨hl, hf⟩ := hr.struct Tryd.underlying35
  have f0 : Rd Tryd.prog W 1048576 3 ((cs.toList.drop 0).take (Tryd.prog.cellsOf 3)) := hf 0 _ rfl
  have f1 : Rd Tryd.prog W 1048576 31 ((cs.toList.drop 1).take (Tryd.prog.cellsOf 31)) := hf 1 _ rfl
  have f2 : Rd Tryd.prog W 1048576 4 ((cs.toList.drop 18).take (Tryd.prog.cellsOf 4)) := hf 2 _ rfl
  have f3 : Rd Tryd.prog W 1048576 4 ((cs.toList.drop 19).take (Tryd.prog.cellsOf 4)) := hf 3 _ rfl
  have f4 : Rd Tryd.prog W 1048576 4 ((cs.toList.drop 20).take (Tryd.prog.cellsOf 4)) := hf 4 _ rfl
  have f5 : Rd Tryd.prog W 1048576 4 ((cs.toList.drop 21).take (Tryd.prog.cellsOf 4)) := hf 5 _ rfl
  have f6 : Rd Tryd.prog W 1048576 33 ((cs.toList.drop 22).take (Tryd.prog.cellsOf 33)) := hf 6 _ rfl
  rw [ci] at f0
  rw [c17] at f1
  rw [cb] at f2 f3 f4 f5
  rw [c6] at f6
  obtain ⟨-, hg⟩ := f1.struct Tryd.underlying31
  have g0 : Rd Tryd.prog W 1048576 3 ((((cs.toList.drop 1).take 17).drop 0).take (Tryd.prog.cellsOf 3)) := hg 0 _ rfl
  have g1 : Rd Tryd.prog W 1048576 29 ((((cs.toList.drop 1).take 17).drop 1).take (Tryd.prog.cellsOf 29)) := hg 1 _ rfl
  rw [ci] at g0
  rw [ca] at g1
  obtain ⟨-, fa⟩ := g1.array Tryd.underlying29
  obtain ⟨-, fm⟩ := f6.array Tryd.underlying33
  rw [cu] at fa fm
  rw [c28] at hsz
  have hlen : cs.toList.length = 28 := by simpa using hsz
  have hcs : cs = cs.toList.toArray := by simp
  generalize cs.toList = l at f0 f2 f3 f4 f5 g0 fa fm hlen hcs
  subst hcs
  match l, hlen with
  | [k, v, y0, y1, y2, y3, y4, y5, y6, y7, y8, y9, y10, y11, y12, y13, y14, y15, b0, b1, b2, b3, z0, z1, z2, z3, z4, z5], _ =>
    simp only [List.drop_zero, List.take_succ_cons, List.take_zero, List.drop_succ_cons] at f0 f2 f3 f4 f5 g0 fa fm
    have byte : ∀ (L : List Value) (q : Nat), (∀ i, i < q → Rd Tryd.prog W 1048576 5 ((L.drop (i * 1)).take 1)) → ∀ i (hi : i < q) (u : Value), L[i]? = some u → ∃ z, u = .int .u8 z ∧ 0 ≤ z ∧ z < 256 := fun L q hL i hi u hu => by
      have h1 := hL i hi
      rw [Nat.mul_one] at h1
      have h2 : ((L.drop i).take 1) = [u] := by
        rw [List.take_one, List.head?_drop, hu]; rfl
      rw [h2] at h1
      obtain ⟨z, hz, hw⟩ := h1.int Tryd.underlying5
      exact ⟨z, by simpa using hz, wf_u8 hw⟩
    obtain ⟨kk, e0, wk⟩ := f0.int Tryd.underlying3
    obtain ⟨vv, e1, -⟩ := g0.int Tryd.underlying3
    obtain ⟨c0, e2⟩ := f2.bool Tryd.underlying4
    obtain ⟨c1, e3⟩ := f3.bool Tryd.underlying4
    obtain ⟨c2, e4⟩ := f4.bool Tryd.underlying4
    obtain ⟨c3, e5⟩ := f5.bool Tryd.underlying4
    obtain ⟨p0, rfl, w0⟩ := byte _ _ fa 0 (by decide) _ rfl
    obtain ⟨p1, rfl, w1⟩ := byte _ _ fa 1 (by decide) _ rfl
    obtain ⟨p2, rfl, w2⟩ := byte _ _ fa 2 (by decide) _ rfl
    obtain ⟨p3, rfl, w3⟩ := byte _ _ fa 3 (by decide) _ rfl
    obtain ⟨p4, rfl, w4⟩ := byte _ _ fa 4 (by decide) _ rfl
    obtain ⟨p5, rfl, w5⟩ := byte _ _ fa 5 (by decide) _ rfl
    obtain ⟨p6, rfl, w6⟩ := byte _ _ fa 6 (by decide) _ rfl
    obtain ⟨p7, rfl, w7⟩ := byte _ _ fa 7 (by decide) _ rfl
    obtain ⟨p8, rfl, w8⟩ := byte _ _ fa 8 (by decide) _ rfl
    obtain ⟨p9, rfl, w9⟩ := byte _ _ fa 9 (by decide) _ rfl
    obtain ⟨p10, rfl, w10⟩ := byte _ _ fa 10 (by decide) _ rfl
    obtain ⟨p11, rfl, w11⟩ := byte _ _ fa 11 (by decide) _ rfl
    obtain ⟨p12, rfl, w12⟩ := byte _ _ fa 12 (by decide) _ rfl
    obtain ⟨p13, rfl, w13⟩ := byte _ _ fa 13 (by decide) _ rfl
    obtain ⟨p14, rfl, w14⟩ := byte _ _ fa 14 (by decide) _ rfl
    obtain ⟨p15, rfl, w15⟩ := byte _ _ fa 15 (by decide) _ rfl
    obtain ⟨q0, rfl, u0⟩ := byte _ _ fm 0 (by decide) _ rfl
    obtain ⟨q1, rfl, u1⟩ := byte _ _ fm 1 (by decide) _ rfl
    obtain ⟨q2, rfl, u2⟩ := byte _ _ fm 2 (by decide) _ rfl
    obtain ⟨q3, rfl, u3⟩ := byte _ _ fm 3 (by decide) _ rfl
    obtain ⟨q4, rfl, u4⟩ := byte _ _ fm 4 (by decide) _ rfl
    obtain ⟨q5, rfl, u5⟩ := byte _ _ fm 5 (by decide) _ rfl
    simp only [List.cons.injEq, and_true] at e0 e1 e2 e3 e4 e5
    subst e0; subst e1; subst e2; subst e3; subst e4; subst e5
    refine ⟨⟨kk, ⟨vv, p0, p1, p2, p3, p4, p5, p6, p7, p8, p9, p10, p11, p12, p13, p14, p15⟩, c0, c1, c2, c3, q0, q1, q2, q3, q4, q5⟩, rfl, fun z hz => ?_, fun z hz => ?_, ?_⟩
    · simp only [IPV.bytes, List.mem_cons, List.not_mem_nil, or_false] at hz
      rcases hz with rfl | rfl | rfl | rfl | rfl | rfl | rfl | rfl | rfl | rfl | rfl | rfl | rfl | rfl | rfl | rfl <;> assumption
    · simp only [NDV.mac, List.mem_cons, List.not_mem_nil, or_false] at hz
      rcases hz with rfl | rfl | rfl | rfl | rfl | rfl <;> assumption
    · simp [Lit.wf, IntKind.min, IntKind.max, IntKind.signed, IntKind.bits] at wk
      exact ⟨by show _ ≤ kk; omega, by show kk ≤ _; omega⟩
end Go.Proofs.YtjngdcilnipjcaaDoor
