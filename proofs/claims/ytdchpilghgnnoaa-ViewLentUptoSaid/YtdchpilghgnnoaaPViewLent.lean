/- The row of ViewLent. -/
import Derived.Test.YtdchpilghgnnoaaRow
import Derived.Test.YtdchpilghgnnoaaL14
namespace Go.Proofs.Ytdchpilghgnnoaa.viewLent
open Go Go.ChangeShapes Go.WideShapes Go.ChangeAt Go.RowKit Go.Eng

set_option maxRecDepth 100000 in
theorem contract (H : Type) (enc : TypeId × Value → H) (W : World) (base : Nat) (args : Array Value) (ds gs : List (DataW H)) (before : List MemPlace)
    (hval : ∀ (j : Nat) t v, Try.f14.params[j]? = some t → args[j]? = some v → Value.okWide Try.prog W .any base t v)
    (hW : DataW.Whole enc Try.prog Try.f14.params.toList Rows.viewLentSpec.vars false W args.toList ds gs before) (hk : Rows.uptoSmall H (ds ++ gs) = true) :
    Calls Try.prog 14 args W fun e W' => ∃ v, e = .returned v ∧ Rows.viewLentSpec.post enc Try.prog Try.f14 false true false false W args v W' := by
  have hW' := hW
  obtain ⟨p, q, hA, hV, rfl, hfz, hnd⟩ := hW
  rw [Try.params14] at hA hval
  obtain ⟨v0, vs0, d0, ds0, p0, q0, hargs, rfl, rfl, h0, r0⟩ := trodAll_cons hA
  obtain ⟨v1, vs1, d1, ds1, p1, q1, rfl, rfl, rfl, h1, r1⟩ := trodAll_cons r0
  obtain ⟨v2, vs2, d2, ds2, p2, q2, rfl, rfl, rfl, h2, r2⟩ := trodAll_cons r1
  obtain ⟨v3, vs3, d3, ds3, p3, q3, rfl, rfl, rfl, h3, r3⟩ := trodAll_cons r2
  obtain ⟨v4, vs4, d4, ds4, p4, q4, rfl, rfl, rfl, h4, r4⟩ := trodAll_cons r3
  obtain ⟨v5, vs5, d5, ds5, p5, q5, rfl, rfl, rfl, h5, r5⟩ := trodAll_cons r4
  obtain ⟨rfl, rfl, rfl⟩ := trodAll_nil r5
  obtain rfl : args = #[v0, v1, v2, v3, v4, v5] := by cases args; simp_all
  have hv0 := val_at hval 0 (t := 22) (v := v0) rfl rfl
  have hv1 := val_at hval 1 (t := 22) (v := v1) rfl rfl
  have hv2 := val_at hval 2 (t := 55) (v := v2) rfl rfl
  have hv3 := val_at hval 3 (t := 55) (v := v3) rfl rfl
  have hv4 := val_at hval 4 (t := 55) (v := v4) rfl rfl
  have hv5 := val_at hval 5 (t := 55) (v := v5) rfl rfl
  obtain ⟨A0, n0, c0, z0, rfl, cap0, hz0, hc0, w0, -, k0⟩ := arg_ints Try.underlying22 Try.underlying5 cells_byte hv0 h0
  have s0 := small_part hk (d := d0) (by simp)
  have sm0 : n0 ≤ 1048576 := by omega
  have len0 : (z0.take n0).length = n0 := by simp; omega
  have cells0 := Cells.upto hc0 n0
  have bts0 := bts_upto w0 n0
  obtain ⟨A1, n1, c1, z1, rfl, cap1, hz1, hc1, w1, -, k1⟩ := arg_ints Try.underlying22 Try.underlying5 cells_byte hv1 h1
  have s1 := small_part hk (d := d1) (by simp)
  have sm1 : n1 ≤ 1048576 := by omega
  have len1 : (z1.take n1).length = n1 := by simp; omega
  have cells1 := Cells.upto hc1 n1
  have bts1 := bts_upto w1 n1
  obtain ⟨A2, n2, c2, z2, rfl, cap2, hz2, hc2, w2, -, k2⟩ := arg_ints Try.underlying55 Try.underlying3 cells_int hv2 h2
  have s2 := small_part hk (d := d2) (by simp)
  have sm2 : n2 ≤ 1048576 := by omega
  have len2 : (z2.take n2).length = n2 := by simp; omega
  have cells2 := Cells.upto hc2 n2
  obtain ⟨A3, n3, c3, z3, rfl, cap3, hz3, hc3, w3, -, k3⟩ := arg_ints Try.underlying55 Try.underlying3 cells_int hv3 h3
  have s3 := small_part hk (d := d3) (by simp)
  have sm3 : n3 ≤ 1048576 := by omega
  have len3 : (z3.take n3).length = n3 := by simp; omega
  have cells3 := Cells.upto hc3 n3
  obtain ⟨A4, n4, c4, z4, rfl, cap4, hz4, hc4, w4, -, k4⟩ := arg_ints Try.underlying55 Try.underlying3 cells_int hv4 h4
  have s4 := small_part hk (d := d4) (by simp)
  have sm4 : n4 ≤ 1048576 := by omega
  have len4 : (z4.take n4).length = n4 := by simp; omega
  have cells4 := Cells.upto hc4 n4
  obtain ⟨A5, n5, c5, z5, rfl, cap5, hz5, hc5, w5, -, k5⟩ := arg_ints Try.underlying55 Try.underlying3 cells_int hv5 h5
  have s5 := small_part hk (d := d5) (by simp)
  have sm5 : n5 ≤ 1048576 := by omega
  have len5 : (z5.take n5).length = n5 := by simp; omega
  have cells5 := Cells.upto hc5 n5
  refine (lent_law ⟨cells0, len0, bts0, cap0, sm0, cells2, len2, cells3, len3⟩ ⟨cells1, len1, bts1, cap1, sm1, cells4, len4, cells5, len5⟩).mono fun e W' ⟨he, hx⟩ => ?_
  exact ⟨_, he, post_yes laid_out (by kernel_rfl) (by kernel_rfl) Try.underlying4 rfl (fun ds' hds' => by
    match ds', hds' with
    | [_, _, _, _, _, _], _ => rfl) hW' hx⟩

set_option maxRecDepth 100000 in
theorem lifted (os : Os) (started : os.Started) (H : Type) (enc : TypeId × Value → H) (F : Stop.Interp) :
    ReturnsInHanded {} Try.checked os 14 .any ((Rows.OpenSpec.upto Rows.viewLentSpec).pre6 enc Try.prog Try.f14 Rows.viewLentUptoRow.domain false) (((Rows.OpenSpec.upto Rows.viewLentSpec).at F).post enc Try.prog Try.f14 false true false false) := by
  refine returnsInHanded_of_cond (C := Try.checked) (s := Rows.OpenSpec.upto Rows.viewLentSpec) (k := Rows.uptoSmall) rfl own_knob started (by kernel_rfl) Try.func14
    (OpenSpec.witness (enc := enc) (C := Try.checked) (s := Rows.OpenSpec.upto Rows.viewLentSpec) (k := Rows.uptoSmall) rfl false ⟨#[], #[.slice none 0 0, .slice none 0 0, .slice none 0 0, .slice none 0 0, .slice none 0 0, .slice none 0 0], []⟩ 8 (by kernel_rfl) (by kernel_rfl) (by kernel_rfl)
      (x := ([.nil, .nil, .nil, .nil, .nil, .nil], [], [])) (by kernel_rfl) rfl (by kernel_rfl)) ?_
  intro W base args ds gs before hval hW _ hk _
  exact contract H enc W base args ds gs before hval hW hk

theorem proved : Rows.ViewLentUptoSaid :=
  OpenClaim.holds_of_cond 14 Try.f14 rfl rfl rfl rfl rfl rfl rfl ⟨rfl, rfl, rfl, rfl, rfl⟩ rfl rfl rfl rfl rfl (by kernel_rfl) Try.func14 (by kernel_rfl)
    (of_decide_eq_true (by kernel_rfl)) (by unfold Func.isWrapper; first | (rw [if_pos (by decide +kernel)]; kernel_rfl) | (rw [if_neg (by decide +kernel)]; exact ⟨rfl, rfl⟩))
    (fun os started H enc _ F => lifted os started H enc F)
end Go.Proofs.Ytdchpilghgnnoaa.viewLent
