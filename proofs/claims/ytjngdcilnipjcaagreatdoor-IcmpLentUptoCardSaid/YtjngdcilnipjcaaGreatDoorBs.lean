/- The tables of Complains and Quiet, as the row lists them; a trouble as an argument. -/
import Derived.Test.YtjngdcilnipjcaaGreatDoorBo
import Derived.Test.YtjngdcilnipjcaaGreatDoorBp
namespace Go.Proofs.YtjngdcilnipjcaaGreatDoor
set_option maxRecDepth 100000
open Go Go.ChangeShapes Go.WideShapes Go.ChangeAt Go.RowKit Go.Eng
def netD {H : Type} (N : NetV) : DataW H := .agg [.lit (.int .i64 N.p.v), Lib.tabData .u8 N.p.bytes, .lit (.int .i64 N.b), .lit (.int .i64 N.c)]
theorem netsD {H : Type} : (Rows.laid_weir_addr_nets : DataW H) = .agg (netsV.map netD) := rfl
section
variable {H : Type} {enc : TypeId × Value → H} {W : World} {base : Nat} {sp : Nat → Bool} {held : Bool}
set_option maxRecDepth 100000 in
theorem net_cells {fuel : Nat} {cs : List Value} {x : DataW H × List MemPlace} {N : NetV} (h : DataW.trod enc Tryz.prog W base sp held fuel 123 cs = some x) (hx : x.1 = netD N) : cs = N.cells := by
 have c19 : Tryz.prog.cellsOf 123 = 19 := by kernel_rfl
 have ci : Tryz.prog.cellsOf 3 = 1 := by kernel_rfl
 have cu : Tryz.prog.cellsOf 5 = 1 := by kernel_rfl
 have ca : Tryz.prog.cellsOf 22 = 16 := by kernel_rfl
 obtain ⟨ys, m, rfl, rfl, hl, hlen, hf⟩ := DataW.trod_struct Tryz.underlying123 h
 have hlen : ys.length = 4 := hlen
 have f0 : DataW.trod enc Tryz.prog W base sp held m 3 ((cs.drop 0).take (Tryz.prog.cellsOf 3)) = ys[0]? := hf 0 _ rfl
 have f1 : DataW.trod enc Tryz.prog W base sp held m 22 ((cs.drop 1).take (Tryz.prog.cellsOf 22)) = ys[1]? := hf 1 _ rfl
 have f2 : DataW.trod enc Tryz.prog W base sp held m 3 ((cs.drop 17).take (Tryz.prog.cellsOf 3)) = ys[2]? := hf 2 _ rfl
 have f3 : DataW.trod enc Tryz.prog W base sp held m 3 ((cs.drop 18).take (Tryz.prog.cellsOf 3)) = ys[3]? := hf 3 _ rfl
 rw [ci] at f0 f2 f3
 rw [ca] at f1
 rw [c19] at hl
 match ys, hlen with
 | [y0, y1, y2, y3], _ =>
  simp only [netD, List.map_cons, List.map_nil, DataW.agg.injEq, List.cons.injEq, and_true] at hx
  obtain ⟨h0, h1, h2, h3⟩ := hx
  obtain ⟨k0, e0, q0, -⟩ := DataW.trod_int Tryz.underlying3 (f0.trans rfl)
  obtain ⟨k2, e2, q2, -⟩ := DataW.trod_int Tryz.underlying3 (f2.trans rfl)
  obtain ⟨k3, e3, q3, -⟩ := DataW.trod_int Tryz.underlying3 (f3.trans rfl)
  have e1 := Lib.cells_of_tab (zs := N.p.bytes) (p := y1.2) Tryz.underlying22 Tryz.underlying5 cu ca (f1.trans (by show some y1 = some _; rw [← h1]))
  have g0 : k0 = N.p.v := by rw [q0] at h0; simpa using h0
  have g2 : k2 = N.b := by rw [q2] at h2; simpa using h2
  have g3 : k3 = N.c := by rw [q3] at h3; simpa using h3
  subst g0; subst g2; subst g3
  match cs, hl with
  | [x0, x1, x2, x3, x4, x5, x6, x7, x8, x9, x10, x11, x12, x13, x14, x15, x16, x17, x18], _ =>
   simp only [List.drop_zero, List.take_succ_cons, List.take_zero, List.drop_succ_cons, IPV.bytes, List.map_cons, List.map_nil, List.cons.injEq, and_true] at e0 e1 e2 e3
   obtain ⟨r0, r1, r2, r3, r4, r5, r6, r7, r8, r9, r10, r11, r12, r13, r14, r15⟩ := e1
   subst e0; subst e2; subst e3
   subst r0
   subst r1
   subst r2
   subst r3
   subst r4
   subst r5
   subst r6
   subst r7
   subst r8
   subst r9
   subst r10
   subst r11
   subst r12
   subst r13
   subst r14
   subst r15
   rfl
end
set_option maxRecDepth 100000 in
theorem nets_tab {W : World} {rest : List (String × DataW Unit)} (h : laidMet Tryz.prog (("weir/addr.nets", Rows.laid_weir_addr_nets) :: rest) W) : Nd.Tab W := by
 obtain ⟨ps, ⟨g', t', cs, fuel, p, q, hg', ht', hvar, hd, _, _⟩, _⟩ := h
 have hg : Tryz.prog.globalNamed "weir/addr.nets" = some 2 := by kernel_rfl
 have hty : (Tryz.prog.globals[2]?).map (·.type) = some 124 := by kernel_rfl
 obtain rfl := Option.some.inj (hg.symm.trans hg')
 obtain rfl := Option.some.inj (hty.symm.trans ht')
 have c19 : Tryz.prog.cellsOf 123 = 19 := by kernel_rfl
 have c228 : Tryz.prog.cellsOf 124 = 228 := by kernel_rfl
 obtain ⟨xs, n, rfl, hx, hl, hlen, hf⟩ := DataW.trod_array Tryz.underlying124 hd
 rw [c228] at hl
 rw [c19] at hf
 have hD : (DataW.agg (netsV.map netD) : DataW Unit) = .agg (xs.map (·.1)) := by rw [← netsD]; exact congrArg Prod.fst hx
 injection hD with hD
 have hat : ∀ i, (hi : i < 12) → (cs.toList.drop (i * 19)).take 19 = (netsV[i]'(by rw [nets_len]; exact hi)).cells := fun i hi => by
  have hix : i < xs.length := by have := congrArg List.length hD; simp at this; rw [nets_len] at this; omega
  have h1 := hf i hi
  rw [List.getElem?_eq_getElem hix] at h1
  refine net_cells h1 ?_
  have h2 := congrArg (·[i]?) hD
  simp only [List.getElem?_map] at h2
  rw [List.getElem?_eq_getElem (by rw [nets_len]; exact hi), List.getElem?_eq_getElem hix] at h2
  simpa using h2.symm
 have hL : cs.toList = netsL := by
  have n228 : netsL.length = 228 := rfl
  refine List.ext_getElem? fun j => ?_
  rcases Nat.lt_or_ge j 228 with hj | hj
  ·have h1 := congrArg (·[j % 19]?) ((hat (j / 19) (by omega)).trans (nets_at (j / 19) (by omega)).symm)
   simp only [List.getElem?_take, List.getElem?_drop] at h1
   rw [if_pos (by omega), if_pos (by omega), show j / 19 * 19 + j % 19 = j by omega] at h1
   exact h1
  ·rw [List.getElem?_eq_none (by omega), List.getElem?_eq_none (by omega)]
 refine CellsAt.of netsL 0 fun j v hv => ?_
 have := World.var?_cell hg hvar j
 rw [addr_add, Nat.zero_add, Nat.zero_add, this, ← hv, ← hL]
 simp
def lineD {H : Type} (l : List Int) : DataW H := .agg (l.map fun z => .lit (.int .i64 z))
theorem trbD {H : Type} : (Rows.laid_weir_icmp_troubles : DataW H) = .slice (trbT.map lineD) [] := rfl
section
variable {H : Type} {enc : TypeId × Value → H} {W : World} {base : Nat} {sp : Nat → Bool} {held : Bool}
set_option maxRecDepth 100000 in
theorem line_cells {fuel : Nat} {cs : List Value} {x : DataW H × List MemPlace} {a0 a1 a2 a3 a4 a5 a6 : Int} (h : DataW.trod enc Tryz.prog W base sp held fuel 88 cs = some x) (hx : x.1 = lineD [a0, a1, a2, a3, a4, a5, a6]) : cs = [a0, a1, a2, a3, a4, a5, a6].map fun z => Value.int .i64 z := by
 have c7 : Tryz.prog.cellsOf 88 = 7 := by kernel_rfl
 have ci : Tryz.prog.cellsOf 3 = 1 := by kernel_rfl
 obtain ⟨ys, m, rfl, rfl, hl, hlen, hf⟩ := DataW.trod_struct Tryz.underlying88 h
 have hlen : ys.length = 7 := hlen
 have f0 : DataW.trod enc Tryz.prog W base sp held m 3 ((cs.drop 0).take (Tryz.prog.cellsOf 3)) = ys[0]? := hf 0 _ rfl
 have f1 : DataW.trod enc Tryz.prog W base sp held m 3 ((cs.drop 1).take (Tryz.prog.cellsOf 3)) = ys[1]? := hf 1 _ rfl
 have f2 : DataW.trod enc Tryz.prog W base sp held m 3 ((cs.drop 2).take (Tryz.prog.cellsOf 3)) = ys[2]? := hf 2 _ rfl
 have f3 : DataW.trod enc Tryz.prog W base sp held m 3 ((cs.drop 3).take (Tryz.prog.cellsOf 3)) = ys[3]? := hf 3 _ rfl
 have f4 : DataW.trod enc Tryz.prog W base sp held m 3 ((cs.drop 4).take (Tryz.prog.cellsOf 3)) = ys[4]? := hf 4 _ rfl
 have f5 : DataW.trod enc Tryz.prog W base sp held m 3 ((cs.drop 5).take (Tryz.prog.cellsOf 3)) = ys[5]? := hf 5 _ rfl
 have f6 : DataW.trod enc Tryz.prog W base sp held m 3 ((cs.drop 6).take (Tryz.prog.cellsOf 3)) = ys[6]? := hf 6 _ rfl
 rw [ci] at f0 f1 f2 f3 f4 f5 f6
 rw [c7] at hl
 match ys, hlen with
 | [y0, y1, y2, y3, y4, y5, y6], _ =>
  simp only [lineD, List.map_cons, List.map_nil, DataW.agg.injEq, List.cons.injEq, and_true] at hx
  obtain ⟨h0, h1, h2, h3, h4, h5, h6⟩ := hx
  obtain ⟨k0, e0, q0, -⟩ := DataW.trod_int Tryz.underlying3 (f0.trans rfl)
  obtain ⟨k1, e1, q1, -⟩ := DataW.trod_int Tryz.underlying3 (f1.trans rfl)
  obtain ⟨k2, e2, q2, -⟩ := DataW.trod_int Tryz.underlying3 (f2.trans rfl)
  obtain ⟨k3, e3, q3, -⟩ := DataW.trod_int Tryz.underlying3 (f3.trans rfl)
  obtain ⟨k4, e4, q4, -⟩ := DataW.trod_int Tryz.underlying3 (f4.trans rfl)
  obtain ⟨k5, e5, q5, -⟩ := DataW.trod_int Tryz.underlying3 (f5.trans rfl)
  obtain ⟨k6, e6, q6, -⟩ := DataW.trod_int Tryz.underlying3 (f6.trans rfl)
  have g0 : k0 = a0 := by rw [q0] at h0; simpa using h0
  have g1 : k1 = a1 := by rw [q1] at h1; simpa using h1
  have g2 : k2 = a2 := by rw [q2] at h2; simpa using h2
  have g3 : k3 = a3 := by rw [q3] at h3; simpa using h3
  have g4 : k4 = a4 := by rw [q4] at h4; simpa using h4
  have g5 : k5 = a5 := by rw [q5] at h5; simpa using h5
  have g6 : k6 = a6 := by rw [q6] at h6; simpa using h6
  subst g0; subst g1; subst g2; subst g3; subst g4; subst g5; subst g6
  rw [← List.drop_zero (l := cs), cutN e0, cutN e1, cutN e2, cutN e3, cutN e4, cutN e5, cutN e6, List.drop_of_length_le (by omega)]
  rfl
end
theorem trb_seven : ∀ l ∈ trbT, ∃ a0 a1 a2 a3 a4 a5 a6 : Int, l = [a0, a1, a2, a3, a4, a5, a6] := by
 intro l hl
 unfold trbT at hl
 simp only [List.mem_cons, List.not_mem_nil, or_false] at hl
 rcases hl with rfl | rfl | rfl | rfl | rfl | rfl | rfl | rfl <;> exact ⟨_, _, _, _, _, _, _, rfl⟩
set_option maxRecDepth 100000 in
theorem trb_of {W : World} {cs : Array Value} {fuel : Nat} {p : List MemPlace} (hvar : W.var? Tryz.prog "weir/icmp.troubles" = some cs)
  (hd : DataW.trod (fun _ => ()) Tryz.prog W 0 (fun _ => true) false fuel 89 cs.toList = some (Rows.laid_weir_icmp_troubles, p)) : N6.Tb W := by
 have hg : Tryz.prog.globalNamed "weir/icmp.troubles" = some 0 := by kernel_rfl
 have c7 : Tryz.prog.cellsOf 88 = 7 := by kernel_rfl
 rcases Deep.open_slice Tryz.underlying89 hd with ⟨_, hx⟩ | ⟨a, len, cap, m, n, D, Pl, hcs, _, hl, _, hm, hx, hel⟩
 ·rw [trbD] at hx
  have := congrArg Prod.fst hx
  cases this
 ·have hx := congrArg Prod.fst hx
  rw [trbD] at hx
  injection hx with hx _
  have hlen : len = 8 := by
   have := congrArg List.length hx
   simp only [List.length_map, List.length_range] at this
   exact this.symm
  simp only [if_true] at hm
  have hcell := World.var?_cell hg hvar 0
  refine ⟨some a, cap, ?_, ?_⟩
  ·rw [hcell]
   have : cs.toList[0]? = some (.slice (some a) len cap) := by rw [hcs]; rfl
   rw [hlen] at this
   simpa using this
  ·intro i vs hi
   rw [List.getElem?_map] at hi
   obtain ⟨l, hl2, rfl⟩ := Option.map_eq_some_iff.1 hi
   have hlt : i < 8 := (List.getElem?_eq_some_iff.1 hl2).1
   obtain ⟨cs', h1, h2⟩ := hel i (by omega)
   have hD : D i = lineD l := by
    have := congrArg (·[i]?) hx
    simp only [List.getElem?_map, hl2, Option.map_some] at this
    rw [List.getElem?_range (by omega)] at this
    simpa using this.symm
   obtain ⟨a0, a1, a2, a3, a4, a5, a6, rfl⟩ := trb_seven l (List.mem_of_getElem? hl2)
   have hc := line_cells h2 hD
   rw [c7] at h1
   obtain ⟨_, hlen7, hat⟩ := World.cells?_some h1
   subst hc
   refine ⟨a, rfl, CellsAt.of _ 0 fun j v hv => ?_⟩
   have hj : j < 7 := by rw [← hlen7]; exact (List.getElem?_eq_some_iff.1 hv).1
   rw [Nat.zero_add, hat j hj, hv]
theorem all_tabs {W : World} {rest : List (String × DataW Unit)} (h : laidMet Tryz.prog (("weir/addr.nets", Rows.laid_weir_addr_nets) :: ("weir/ip4.widths", Rows.laid_weir_ip4_widths) :: ("weir/ip6.known", Rows.laid_weir_ip6_known) :: ("weir/icmp.troubles", Rows.laid_weir_icmp_troubles) :: rest) W) : Nd.Tab W ∧ N6.Wd W ∧ N6.Kn W ∧ N6.Tb W := by
 refine ⟨nets_tab h, ?_⟩
 obtain ⟨ps, ⟨g1, t1, cs1, fuel1, p1, q1, hg1, ht1, hvar1, hd1, ⟨g2, t2, cs2, fuel2, p2, q2, hg2, ht2, hvar2, hd2, ⟨g3, t3, cs3, fuel3, p3, q3, hg3, ht3, hvar3, hd3, ⟨g4, t4, cs4, fuel4, p4, q4, hg4, ht4, hvar4, hd4, _, _⟩, _⟩, _⟩, _⟩, _⟩ := h
 have hw : Tryz.prog.globalNamed "weir/ip4.widths" = some 1 := by kernel_rfl
 have hwy : (Tryz.prog.globals[1]?).map (·.type) = some 120 := by kernel_rfl
 have hk : Tryz.prog.globalNamed "weir/ip6.known" = some 3 := by kernel_rfl
 have hky : (Tryz.prog.globals[3]?).map (·.type) = some 174 := by kernel_rfl
 have ht : Tryz.prog.globalNamed "weir/icmp.troubles" = some 0 := by kernel_rfl
 have hty : (Tryz.prog.globals[0]?).map (·.type) = some 89 := by kernel_rfl
 obtain rfl := Option.some.inj (hw.symm.trans hg2)
 obtain rfl := Option.some.inj (hwy.symm.trans ht2)
 obtain rfl := Option.some.inj (hk.symm.trans hg3)
 obtain rfl := Option.some.inj (hky.symm.trans ht3)
 obtain rfl := Option.some.inj (ht.symm.trans hg4)
 obtain rfl := Option.some.inj (hty.symm.trans ht4)
 exact ⟨widths_of hvar2 hd2, known_of hvar3 hd3, trb_of hvar4 hd4⟩
set_option maxRecDepth 100000 in
theorem arg_trb {W : World} {base : Nat} {v : Value} {H : Type} {enc : TypeId × Value → H} {d : DataW H} {p : List MemPlace} (hval : Value.okWide Tryz.prog W .any base 29 v)
  (h : DataW.Trod enc Tryz.prog W 0 (fun _ => true) true 29 v d p) (hb : Rows.uptoBulk d ≤ 1048576) : ∃ t : TrbV, v = t.val := by
 obtain ⟨cs, rfl, hsz⟩ := okWide_struct Tryz.underlying29 hval
 have c2 : Tryz.prog.cellsOf 29 = 2 := by kernel_rfl
 have ci : Tryz.prog.cellsOf 3 = 1 := by kernel_rfl
 have hr := Rd.of h hb
 obtain ⟨hl, hf⟩ := hr.struct Tryz.underlying29
 have f0 : Rd Tryz.prog W 1048576 3 ((cs.toList.drop 0).take (Tryz.prog.cellsOf 3)) := hf 0 _ rfl
 have f1 : Rd Tryz.prog W 1048576 3 ((cs.toList.drop 1).take (Tryz.prog.cellsOf 3)) := hf 1 _ rfl
 rw [ci] at f0 f1
 obtain ⟨k0, e0, -⟩ := f0.int Tryz.underlying3
 obtain ⟨k1, e1, -⟩ := f1.int Tryz.underlying3
 refine ⟨⟨k0, k1⟩, ?_⟩
 have hz : cs.toList.drop 2 = [] := List.drop_of_length_le (by rw [c2] at hsz; simp; omega)
 have hcs : cs.toList = [.int .i64 k0, .int .i64 k1] := by
  rw [← List.drop_zero (l := cs.toList), cutN e0, cutN e1, hz]
  rfl
 have : cs = cs.toList.toArray := by simp
 rw [this, hcs]
 rfl
end Go.Proofs.YtjngdcilnipjcaaGreatDoor
