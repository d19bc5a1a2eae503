/- The row of ViewShares. -/
import Derived.Test.YtdchpilghgnnoaaRow
import Derived.Test.YtdchpilghgnnoaaL7
namespace Go.Proofs.Ytdchpilghgnnoaa.viewShares
open Go Go.ChangeShapes Go.WideShapes Go.ChangeAt Go.RowKit Go.Eng

set_option maxRecDepth 100000 in
theorem contract (H : Type) (enc : TypeId × Value → H) (W : World) (base : Nat) (args : Array Value) (ds gs : List (DataW H)) (before : List MemPlace)
    (hval : ∀ (j : Nat) t v, Try.f8.params[j]? = some t → args[j]? = some v → Value.okWide Try.prog W .any base t v)
    (hW : DataW.Whole enc Try.prog Try.f8.params.toList Rows.viewSharesSpec.vars false W args.toList ds gs before) (hk : Rows.uptoSmall H (ds ++ gs) = true) :
    Calls Try.prog 8 args W fun e W' => ∃ v, e = .returned v ∧ Rows.viewSharesSpec.post enc Try.prog Try.f8 false true false false W args v W' := by
  have hW' := hW
  obtain ⟨p, q, hA, hV, rfl, hfz, hnd⟩ := hW
  rw [Try.params8] at hA hval
  obtain ⟨v0, vs0, d0, ds0, p0, q0, hargs, rfl, rfl, h0, r0⟩ := trodAll_cons hA
  obtain ⟨v1, vs1, d1, ds1, p1, q1, rfl, rfl, rfl, h1, r1⟩ := trodAll_cons r0
  obtain ⟨v2, vs2, d2, ds2, p2, q2, rfl, rfl, rfl, h2, r2⟩ := trodAll_cons r1
  obtain ⟨v3, vs3, d3, ds3, p3, q3, rfl, rfl, rfl, h3, r3⟩ := trodAll_cons r2
  obtain ⟨v4, vs4, d4, ds4, p4, q4, rfl, rfl, rfl, h4, r4⟩ := trodAll_cons r3
  obtain ⟨rfl, rfl, rfl⟩ := trodAll_nil r4
  obtain rfl : args = #[v0, v1, v2, v3, v4] := by cases args; simp_all
  have hv0 := val_at hval 0 (t := 22) (v := v0) rfl rfl
  have hv1 := val_at hval 1 (t := 3) (v := v1) rfl rfl
  have hv2 := val_at hval 2 (t := 3) (v := v2) rfl rfl
  have hv3 := val_at hval 3 (t := 3) (v := v3) rfl rfl
  have hv4 := val_at hval 4 (t := 3) (v := v4) rfl rfl
  obtain ⟨A0, n0, c0, z0, rfl, cap0, hz0, hc0, w0, -, k0⟩ := arg_ints Try.underlying22 Try.underlying5 cells_byte hv0 h0
  have s0 := small_part hk (d := d0) (by simp)
  have sm0 : n0 ≤ 1048576 := by omega
  have len0 : (z0.take n0).length = n0 := by simp; omega
  have cells0 := Cells.upto hc0 n0
  have bts0 := bts_upto w0 n0
  obtain ⟨x1, rfl, -, -, w1⟩ := open_int Try.underlying3 hv1 h1
  obtain ⟨x2, rfl, -, -, w2⟩ := open_int Try.underlying3 hv2 h2
  obtain ⟨x3, rfl, -, -, w3⟩ := open_int Try.underlying3 hv3 h3
  obtain ⟨x4, rfl, -, -, w4⟩ := open_int Try.underlying3 hv4 h4
  refine (shares_law cells0 len0 bts0 sm0).mono fun e W' ⟨he, hx⟩ => ?_
  exact ⟨_, he, post_yes laid_out (by kernel_rfl) (by kernel_rfl) Try.underlying4 rfl (fun ds' hds' => by
    match ds', hds' with
    | [_, _, _, _, _], _ => rfl) hW' hx⟩

set_option maxRecDepth 100000 in
theorem lifted (os : Os) (started : os.Started) (H : Type) (enc : TypeId × Value → H) (F : Stop.Interp) :
    ReturnsInHanded {} Try.checked os 8 .any ((Rows.OpenSpec.upto Rows.viewSharesSpec).pre6 enc Try.prog Try.f8 Rows.viewSharesUptoRow.domain false) (((Rows.OpenSpec.upto Rows.viewSharesSpec).at F).post enc Try.prog Try.f8 false true false false) := by
  refine returnsInHanded_of_cond (C := Try.checked) (s := Rows.OpenSpec.upto Rows.viewSharesSpec) (k := Rows.uptoSmall) rfl own_knob started (by kernel_rfl) Try.func8
    (OpenSpec.witness (enc := enc) (C := Try.checked) (s := Rows.OpenSpec.upto Rows.viewSharesSpec) (k := Rows.uptoSmall) rfl false ⟨#[], #[.slice none 0 0, .int .i64 0, .int .i64 0, .int .i64 0, .int .i64 0], []⟩ 8 (by kernel_rfl) (by kernel_rfl) (by kernel_rfl)
      (x := ([.nil, .lit (.int .i64 0), .lit (.int .i64 0), .lit (.int .i64 0), .lit (.int .i64 0)], [], [])) (by kernel_rfl) rfl (by kernel_rfl)) ?_
  intro W base args ds gs before hval hW _ hk _
  exact contract H enc W base args ds gs before hval hW hk

theorem proved : Rows.ViewSharesUptoSaid :=
  OpenClaim.holds_of_cond 8 Try.f8 rfl rfl rfl rfl rfl rfl rfl ⟨rfl, rfl, rfl, rfl, rfl⟩ rfl rfl rfl rfl rfl (by kernel_rfl) Try.func8 (by kernel_rfl)
    (of_decide_eq_true (by kernel_rfl)) (by unfold Func.isWrapper; first | (rw [if_pos (by decide +kernel)]; kernel_rfl) | (rw [if_neg (by decide +kernel)]; exact ⟨rfl, rfl⟩))
    (fun os started H enc _ F => lifted os started H enc F)
end Go.Proofs.Ytdchpilghgnnoaa.viewShares
