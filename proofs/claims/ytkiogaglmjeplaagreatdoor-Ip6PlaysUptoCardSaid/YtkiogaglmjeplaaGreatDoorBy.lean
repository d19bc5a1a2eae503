/- A script of calls of layer 7 as an argument. -/
import Derived.Test.YtkiogaglmjeplaaGreatDoorBo
import Derived.Test.YtkiogaglmjeplaaGreatDoorBw
namespace Go.Proofs.YtkiogaglmjeplaaGreatDoor
open Go Go.ChangeShapes Go.WideShapes Go.ChangeAt Go.RowKit Go.Eng
section
variable {W : World} {cs : List Value}
set_option maxRecDepth 100000 in
theorem rd_op7 (h : Rd Tryz.prog W 1048576 46 cs) : ∃ r : N6.Op7R, cs = r.v.cells ∧ N6.Op7Ok W r := by
  have c47 : Tryz.prog.cellsOf 46 = 47 := by kernel_rfl
  have ci : Tryz.prog.cellsOf 3 = 1 := by kernel_rfl
  have cb : Tryz.prog.cellsOf 32 = 1 := by kernel_rfl
  have c6 : Tryz.prog.cellsOf 34 = 44 := by kernel_rfl
  obtain ⟨hl, hf⟩ := h.struct Tryz.underlying46
  have f0 : Rd Tryz.prog W 1048576 3 ((cs.drop 0).take (Tryz.prog.cellsOf 3)) := hf 0 _ rfl
  have f1 : Rd Tryz.prog W 1048576 32 ((cs.drop 1).take (Tryz.prog.cellsOf 32)) := hf 1 _ rfl
  have f2 : Rd Tryz.prog W 1048576 34 ((cs.drop 2).take (Tryz.prog.cellsOf 34)) := hf 2 _ rfl
  have f3 : Rd Tryz.prog W 1048576 3 ((cs.drop 46).take (Tryz.prog.cellsOf 3)) := hf 3 _ rfl
  rw [ci] at f0 f3
  rw [cb] at f1
  rw [c6] at f2
  obtain ⟨k0, e0, -⟩ := f0.int Tryz.underlying3
  obtain ⟨sb, lb, e1, h1, s1⟩ := rd_bytes (by omega) f1
  obtain ⟨g6, es, d6, e2, h2, s2⟩ := rd_ip6 (by omega) f2
  obtain ⟨k3, e3, -⟩ := f3.int Tryz.underlying3
  refine ⟨⟨⟨k0, sb, g6, k3⟩, lb, es, d6⟩, ?_, ⟨h1, h2⟩, s1, s2⟩
  have hz : cs.drop 47 = [] := List.drop_of_length_le (by rw [hl, c47]; omega)
  rw [← List.drop_zero (l := cs), cutN e0, cutN e1, cutN e2, cutN e3, hz]
  rfl
theorem rd_ops7 (h : Rd Tryz.prog W 1048576 22 cs) : ∃ (s : Sl) (rs : List N6.Op7R), cs = [s.val] ∧ N6.Ops7At W s rs := by
  have c47 : Tryz.prog.cellsOf 46 = 47 := by kernel_rfl
  obtain ⟨A, n, c, rs, rfl, hn, hcb, -, hl, hr, hel⟩ := h.slice Tryz.underlying22
  rw [c47] at hr
  obtain ⟨xs, hxs, hq⟩ := exists_map (f := fun r : N6.Op7R => r.v.cells) (Q := fun r => N6.Op7Ok W r) (rs.take n) fun y hy => rd_op7 (hel y (List.mem_of_mem_take hy)).2
  refine ⟨⟨A, n, c⟩, xs, rfl, ?_, by show n ≤ 4000000; omega, ?_, hq⟩
  · have := congrArg List.length hxs; simp at this; show xs.length = n; omega
  · rw [← hxs]; exact recs_take hr n
end
set_option maxRecDepth 100000 in
theorem arg_ops7 {W : World} {base : Nat} {v : Value} {H : Type} {enc : TypeId × Value → H} {d : DataW H} {p : List MemPlace} (hval : Value.okWide Tryz.prog W .any base 22 v)
    (h : DataW.Trod enc Tryz.prog W 0 (fun _ => true) true 22 v d p) (hb : Rows.uptoBulk d ≤ 1048576) : ∃ (s : Sl) (rs : List N6.Op7R), v = s.val ∧ N6.Ops7At W s rs := by
  obtain ⟨A, n, c, rfl⟩ := okWide_slice Tryz.underlying22 hval
  obtain ⟨s, rs, hc, hO⟩ := rd_ops7 (Rd.of h hb)
  have hc : [Value.slice A n c] = [s.val] := hc
  injection hc with hc
  exact ⟨s, rs, hc, hO⟩
end Go.Proofs.YtkiogaglmjeplaaGreatDoor
