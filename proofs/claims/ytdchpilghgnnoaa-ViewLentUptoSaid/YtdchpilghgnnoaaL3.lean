/- The looks and the document's own answer, side by side: one look, all looks of a script. -/
import Derived.Test.YtdchpilghgnnoaaRef3
namespace Go.Eng
instance widthsOk_dec (ws : List Int) : Decidable (widthsOk ws) := by unfold widthsOk W32; infer_instance
/-- What Fields answers: the values, the place behind, the error. -/
def fieldsS (bs : List Int) (p : Int) (ws : List Int) : List Int × Int × Int :=
  if widthsOk ws then if 0 ≤ p ∧ p + psum ws / 8 ≤ bs.length then (fieldsV (bitAt ((bs.drop p.toNat).take (psum ws / 8).toNat)) 0 ws, p + psum ws / 8, 0) else ([], 0, 10) else ([], 0, 11)
/-- What Window answers. -/
def winS (bs : List Int) (p k : Int) : List Int × Int :=
  if 0 ≤ p ∧ 0 ≤ k ∧ p + k ≤ bs.length then ((bs.drop p.toNat).take k.toNat, 0) else ([], if k < 0 then 1 else 10)
/-- What Pack answers. -/
def PackIs (ws vs ds : List Int) (err : Int) : Prop :=
  (widthsOk ws ∧ vs.length = ws.length ∧ valuesOk ws vs ∧ Packed ws vs ds ∧ err = 0) ∨ (widthsOk ws ∧ vs.length = ws.length ∧ ¬ valuesOk ws vs ∧ ds = [] ∧ err = 12) ∨
    (widthsOk ws ∧ vs.length ≠ ws.length ∧ ds = [] ∧ err = 1) ∨ (¬ widthsOk ws ∧ ds = [] ∧ err = 11)
theorem PackIs.bts {ws vs ds : List Int} {e : Int} (h : PackIs ws vs ds e) : Bts ds := by
  rcases h with ⟨-, -, -, h, -⟩ | ⟨-, -, -, rfl, -⟩ | ⟨-, -, rfl, -⟩ | ⟨-, rfl, -⟩
  · exact h.bts
  all_goals intro x hx; cases hx
theorem PackIs.small {ws vs ds : List Int} {e : Int} (h : PackIs ws vs ds e) : ds.length ≤ 256 := by
  rcases h with ⟨hok, -, -, h, -⟩ | ⟨-, -, -, rfl, -⟩ | ⟨-, -, rfl, -⟩ | ⟨-, rfl, -⟩
  · have := h.len
    have := psum_bound hok.2.1
    have := hok.1
    omega
  all_goals simp
theorem PackIs.unique {ws vs a b : List Int} {e f : Int} (ha : PackIs ws vs a e) (hb : PackIs ws vs b f) : a = b ∧ e = f := by
  rcases ha with ⟨a1, a2, a3, a4, rfl⟩ | ⟨a1, a2, a3, rfl, rfl⟩ | ⟨a1, a2, rfl, rfl⟩ | ⟨a1, rfl, rfl⟩ <;>
    rcases hb with ⟨b1, b2, b3, b4, rfl⟩ | ⟨b1, b2, b3, rfl, rfl⟩ | ⟨b1, b2, rfl, rfl⟩ | ⟨b1, rfl, rfl⟩ <;>
    first
      | exact ⟨rfl, rfl⟩
      | exact ⟨a4.unique a1.2.1 a1.2.2 b4, rfl⟩
      | exact absurd a1 b1
      | exact absurd b1 a1
      | exact absurd a2 b2
      | exact absurd b2 a2
      | exact absurd a3 b3
      | exact absurd b3 a3
theorem fieldsS_length (bs : List Int) (p : Int) (ws : List Int) : (fieldsS bs p ws).1.length ≤ 64 := by
  unfold fieldsS
  split
  · rename_i h
    split
    · rw [fieldsV_length]; exact h.1
    · simp
  · simp
theorem winS_length (bs : List Int) (p k : Int) : (winS bs p k).1.length ≤ bs.length := by
  unfold winS
  split
  · simp; omega
  · simp
theorem winS_bts {bs : List Int} (hB : Bts bs) (p k : Int) : Bts (winS bs p k).1 := by
  unfold winS
  split
  · exact (hB.drop _).take _
  · intro x hx; cases hx
end Go.Eng
namespace Go.Proofs.Ytdchpilghgnnoaa
open Go.Eng Go.RowKit

section
variable {A W V : Option Addr} {n c m d l f : Nat} {p k : Int} {bs ws vs : List Int} {w : World}
theorem fields_fn (hb : Cells w A (bs.map (.int .u8))) (hl : bs.length = n) (hB : Bts bs) (hc : n ≤ c) (hn : n ≤ 140737488355328) (hws : Cells w W (ws.map (.int .i64))) (hm : ws.length = m) :
    Calls Try.prog 28 #[.slice A n c, .int .i64 p, .slice W m d] w fun e w' => Ext w w' ∧ ∃ A' c', e = .returned (.tuple #[.slice A' (fieldsS bs p ws).1.length c', .int .i64 (fieldsS bs p ws).2.1, .int .i64 (fieldsS bs p ws).2.2]) ∧
      w'.ownsRow w.heap.size 3 1 (.slice A' (fieldsS bs p ws).1.length c') (fieldsS bs p ws).1.length ((fieldsS bs p ws).1.map (.int .i64)) := by
  refine (fields_spec hb hl hB hc hn hws hm).mono ?_
  subst hl; subst hm
  rintro e w' ⟨hE, ⟨hok, h1, h2, A', c', rfl, hown⟩ | ⟨hok, rfl⟩ | ⟨hok, hr, rfl⟩⟩
  · unfold fieldsS
    rw [if_pos hok, if_pos ⟨h1, h2⟩]
    simp only [fieldsV_length]
    exact ⟨hE, A', c', rfl, hown⟩
  · unfold fieldsS
    rw [if_neg hok]
    exact ⟨hE, none, 0, rfl, World.ownsRow_nil _ _ _ _⟩
  · unfold fieldsS
    rw [if_pos hok, if_neg hr]
    exact ⟨hE, none, 0, rfl, World.ownsRow_nil _ _ _ _⟩
theorem refFields_fn (hb : Cells w A (bs.map (.int .u8))) (hl : bs.length = n) (hB : Bts bs) (hn : n ≤ 140737488355328) (hws : Cells w W (ws.map (.int .i64))) (hm : ws.length = m) :
    Calls Try.prog 68 #[.slice A n c, .int .i64 p, .slice W m d] w fun e w' => Ext w w' ∧ ∃ A' c', e = .returned (.tuple #[.slice A' (fieldsS bs p ws).1.length c', .int .i64 (fieldsS bs p ws).2.1, .int .i64 (fieldsS bs p ws).2.2]) ∧
      w'.ownsRow w.heap.size 3 1 (.slice A' (fieldsS bs p ws).1.length c') (fieldsS bs p ws).1.length ((fieldsS bs p ws).1.map (.int .i64)) := by
  refine (refFields_spec hb hl hB hn hws hm).mono ?_
  subst hl; subst hm
  rintro e w' ⟨hE, ⟨hok, h1, h2, A', c', rfl, hown⟩ | ⟨hok, rfl⟩ | ⟨hok, hr, rfl⟩⟩
  · unfold fieldsS
    rw [if_pos hok, if_pos ⟨h1, h2⟩]
    simp only [fieldsV_length]
    exact ⟨hE, A', c', rfl, hown⟩
  · unfold fieldsS
    rw [if_neg hok]
    exact ⟨hE, none, 0, rfl, World.ownsRow_nil _ _ _ _⟩
  · unfold fieldsS
    rw [if_pos hok, if_neg hr]
    exact ⟨hE, none, 0, rfl, World.ownsRow_nil _ _ _ _⟩
theorem pack_fn (hws : Cells w W (ws.map (.int .i64))) (hm : ws.length = m) (hvs : Cells w V (vs.map (.int .i64))) (hl : vs.length = l) :
    Calls Try.prog 33 #[.slice W m d, .slice V l f] w fun e w' => Ext w w' ∧ ∃ A' ds err, PackIs ws vs ds err ∧ e = .returned (.tuple #[.slice A' ds.length ds.length, .int .i64 err]) ∧
      w'.ownsRow w.heap.size 5 1 (.slice A' ds.length ds.length) ds.length (ds.map (.int .u8)) := by
  refine (pack_spec hws hm hvs hl).mono ?_
  subst hl; subst hm
  rintro e w' ⟨hE, ⟨h1, h2, h3, A', ds, h4, rfl, hown⟩ | ⟨h1, h2, h3, rfl⟩ | ⟨h1, h2, rfl⟩ | ⟨h1, rfl⟩⟩
  · exact ⟨hE, A', ds, 0, .inl ⟨h1, h2, h3, h4, rfl⟩, rfl, hown⟩
  · exact ⟨hE, none, [], 12, .inr (.inl ⟨h1, h2, h3, rfl, rfl⟩), rfl, World.ownsRow_nil _ _ _ _⟩
  · exact ⟨hE, none, [], 1, .inr (.inr (.inl ⟨h1, h2, rfl, rfl⟩)), rfl, World.ownsRow_nil _ _ _ _⟩
  · exact ⟨hE, none, [], 11, .inr (.inr (.inr ⟨h1, rfl, rfl⟩)), rfl, World.ownsRow_nil _ _ _ _⟩
theorem refPack_fn (hws : Cells w W (ws.map (.int .i64))) (hm : ws.length = m) (hvs : Cells w V (vs.map (.int .i64))) (hl : vs.length = l) :
    Calls Try.prog 69 #[.slice W m d, .slice V l f] w fun e w' => Ext w w' ∧ ∃ A' c' ds err, PackIs ws vs ds err ∧ e = .returned (.tuple #[.slice A' ds.length c', .int .i64 err]) ∧
      w'.ownsRow w.heap.size 5 1 (.slice A' ds.length c') ds.length (ds.map (.int .u8)) := by
  refine (refPack_spec hws hm hvs hl).mono ?_
  subst hl; subst hm
  rintro e w' ⟨hE, ⟨h1, h2, h3, A', c', ds, h4, rfl, hown⟩ | ⟨h1, h2, h3, rfl⟩ | ⟨h1, h2, rfl⟩ | ⟨h1, rfl⟩⟩
  · exact ⟨hE, A', c', ds, 0, .inl ⟨h1, h2, h3, h4, rfl⟩, rfl, hown⟩
  · exact ⟨hE, none, 0, [], 12, .inr (.inl ⟨h1, h2, h3, rfl, rfl⟩), rfl, World.ownsRow_nil _ _ _ _⟩
  · exact ⟨hE, none, 0, [], 1, .inr (.inr (.inl ⟨h1, h2, rfl, rfl⟩)), rfl, World.ownsRow_nil _ _ _ _⟩
  · exact ⟨hE, none, 0, [], 11, .inr (.inr (.inr ⟨h1, rfl, rfl⟩)), rfl, World.ownsRow_nil _ _ _ _⟩
theorem window_fn (hb : Cells w A (bs.map (.int .u8))) (hl : bs.length = n) (hc : n ≤ c) (hn : n ≤ 140737488355328) :
    Calls Try.prog 29 #[.slice A n c, .int .i64 p, .int .i64 k] w fun e w' => Ext w w' ∧ ∃ A', e = .returned (.tuple #[.slice A' (winS bs p k).1.length (winS bs p k).1.length, .int .i64 (winS bs p k).2]) ∧
      Cells w A' ((winS bs p k).1.map (.int .u8)) ∧ (0 < (winS bs p k).1.length → A' = A.map (·.add p.toNat)) := by
  refine (window_spec hb (by simpa using hl) hc hn).mono ?_
  subst hl
  rintro e w' ⟨hE, ⟨h1, h2, h3, A', rfl, hw, hA⟩ | ⟨hr, rfl⟩⟩
  · have e1 : winS bs p k = ((bs.drop p.toNat).take k.toNat, 0) := by unfold winS; rw [if_pos ⟨h1, h2, h3⟩]
    have e2 : ((bs.drop p.toNat).take k.toNat).length = k.toNat := by rw [List.length_take, List.length_drop]; omega
    rw [e1]
    simp only [e2]
    refine ⟨hE, A', rfl, ?_, fun h0 => ?_⟩
    · rw [List.map_take, List.map_drop]; exact hw
    · rw [hA, if_neg (by omega)]
  · have e1 : winS bs p k = ([], if k < 0 then 1 else 10) := by unfold winS; rw [if_neg hr]
    rw [e1]
    exact ⟨hE, none, rfl, Cells.nil _ _, fun h => by simp at h⟩
theorem refWindow_fn (hb : Cells w A (bs.map (.int .u8))) (hl : bs.length = n) (hn : n ≤ 140737488355328) :
    Calls Try.prog 70 #[.slice A n c, .int .i64 p, .int .i64 k] w fun e w' => Ext w w' ∧ ∃ A' c', e = .returned (.tuple #[.slice A' (winS bs p k).1.length c', .int .i64 (winS bs p k).2]) ∧
      w'.ownsRow w.heap.size 5 1 (.slice A' (winS bs p k).1.length c') (winS bs p k).1.length ((winS bs p k).1.map (.int .u8)) := by
  refine (refWindow_spec hb hl hn).mono ?_
  subst hl
  rintro e w' ⟨hE, ⟨h1, h2, h3, A', c', rfl, hown⟩ | ⟨hr, rfl⟩⟩
  · have e1 : winS bs p k = ((bs.drop p.toNat).take k.toNat, 0) := by unfold winS; rw [if_pos ⟨h1, h2, h3⟩]
    have e2 : ((bs.drop p.toNat).take k.toNat).length = k.toNat := by rw [List.length_take, List.length_drop]; omega
    rw [e1]
    simp only [e2]
    exact ⟨hE, A', c', rfl, hown⟩
  · have e1 : winS bs p k = ([], if k < 0 then 1 else 10) := by unfold winS; rw [if_neg hr]
    rw [e1]
    exact ⟨hE, none, 0, rfl, World.ownsRow_nil _ _ _ _⟩
end

/-! ### One look, and its twin -/
structure OpV where
  kind : Int
  BA : Option Addr
  Bn : Nat
  Bc : Nat
  at_ : Int
  n : Int
  WA : Option Addr
  Wn : Nat
  Wc : Nat
  VA : Option Addr
  Vn : Nat
  Vc : Nat
def OpV.vals (o : OpV) : Array Value := #[.int .i64 o.kind, .slice o.BA o.Bn o.Bc, .int .i64 o.at_, .int .i64 o.n, .slice o.WA o.Wn o.Wc, .slice o.VA o.Vn o.Vc]
/-- The lists that a look's parts read as. -/
structure OpIs (w : World) (o : OpV) (bs ws vs : List Int) : Prop where
  cb : Cells w o.BA (bs.map (.int .u8))
  bl : bs.length = o.Bn
  bb : Bts bs
  bc : o.Bn ≤ o.Bc
  bn : o.Bn ≤ 1048700
  cw : Cells w o.WA (ws.map (.int .i64))
  wl : ws.length = o.Wn
  wn : o.Wn ≤ 1048700
  cv : Cells w o.VA (vs.map (.int .i64))
  vl : vs.length = o.Vn
  vn : o.Vn ≤ 1048700
theorem OpIs.ext {w w' : World} {o : OpV} {bs ws vs : List Int} (h : OpIs w o bs ws vs) (hE : Ext w w') : OpIs w' o bs ws vs :=
  ⟨h.cb.ext hE, h.bl, h.bb, h.bc, h.bn, h.cw.ext hE, h.wl, h.wn, h.cv.ext hE, h.vl, h.vn⟩

theorem answered_spec {w : World} {o : OpV} {bs ws vs : List Int} (h : OpIs w o bs ws vs) :
    Calls Try.prog 39 #[.agg o.vals] w fun e w' => Ext w w' ∧ e = .returned (.bool true) := by
  refine weirlaw1_answered_of o.kind o.BA o.Bn o.Bc o.at_ o.n o.WA o.Wn o.Wc o.VA o.Vn o.Vc w _ ?_
  unfold weirlaw1_answered_VC
  have hbl := h.bl
  have hbn := h.bn
  refine NewVC.blk fun g1 w1 hg1 hz1 hE1 hb1 => ?_
  have h := h.ext hE1
  refine ⟨_, hb1.cell 0, Br.dec (fun _ => ?_) (fun _ => Br.dec (fun _ => ?_) (fun _ => Br.dec (fun _ => ?_) (fun _ => Br.dec (fun _ => ?_) (fun _ => ⟨hE1, rfl⟩))))⟩
  · refine ⟨_, _, _, hb1.cell 1, _, hb1.cell 2, _, hb1.cell 3, ?_⟩
    refine (uint_spec h.cb h.bl h.bb (by omega)).mono ?_
    rintro _ w2 ⟨hE2, rfl⟩
    have hb1 := hb1.ext hE2
    refine ⟨_, _, rfl, _, _, _, hb1.cell 1, _, hb1.cell 2, _, hb1.cell 3, ?_⟩
    refine (refUint_spec (h.cb.ext hE2) h.bl h.bb (by omega)).mono ?_
    rintro _ w3 ⟨rfl, rfl⟩
    refine ⟨_, _, rfl, Br.yes rfl ?_⟩
    refine (num_spec _ w2).mono ?_
    rintro _ w4 ⟨rfl, rfl⟩
    exact ⟨_, rfl, hE1.ext hE2, by rw [decide_eq_true rfl]⟩
  · refine ⟨_, _, _, hb1.cell 1, _, hb1.cell 2, _, _, _, hb1.cell 4, ?_⟩
    refine (fields_fn h.cb h.bl h.bb h.bc (by omega) h.cw h.wl).mono ?_
    rintro _ w2 ⟨hE2, A1, c1, rfl, hown1⟩
    have hb1 := hb1.ext hE2
    refine ⟨_, _, _, _, _, rfl, _, _, _, hb1.cell 1, _, hb1.cell 2, _, _, _, hb1.cell 4, ?_⟩
    refine (refFields_fn (h.cb.ext hE2) h.bl h.bb (by omega) (h.cw.ext hE2) h.wl).mono ?_
    rintro _ w3 ⟨hE3, A2, c2, rfl, hown2⟩
    refine ⟨_, _, _, _, _, rfl, ?_⟩
    have hfl := fieldsS_length bs o.at_ ws
    refine (sameInts_spec (own_cells (own_ext hown1 hE3)) (own_cells hown2) rfl rfl (by omega)).mono ?_
    rintro _ w4 ⟨hE4, rfl⟩
    refine ⟨_, rfl, Br.yes rfl (Br.yes rfl ?_)⟩
    refine (num_spec _ w4).mono ?_
    rintro _ w5 ⟨rfl, rfl⟩
    exact ⟨_, rfl, ((hE1.ext hE2).ext hE3).ext hE4, by rw [decide_eq_true rfl]⟩
  · refine ⟨_, _, _, hb1.cell 4, _, _, _, hb1.cell 5, ?_⟩
    refine (pack_fn h.cw h.wl h.cv h.vl).mono ?_
    rintro _ w2 ⟨hE2, A1, ds, err, hp, rfl, hown1⟩
    have hb1 := hb1.ext hE2
    refine ⟨_, _, _, _, rfl, _, _, _, hb1.cell 4, _, _, _, hb1.cell 5, ?_⟩
    refine (refPack_fn (h.cw.ext hE2) h.wl (h.cv.ext hE2) h.vl).mono ?_
    rintro _ w3 ⟨hE3, A2, c2, es, err2, hp2, rfl, hown2⟩
    obtain ⟨rfl, rfl⟩ := hp.unique hp2
    refine ⟨_, _, _, _, rfl, ?_⟩
    refine (same_spec (own_cells (own_ext hown1 hE3)) (own_cells hown2) rfl rfl hp.bts hp.bts).mono ?_
    rintro _ w4 ⟨rfl, rfl⟩
    refine ⟨_, rfl, Br.yes rfl ?_⟩
    refine (num_spec _ w3).mono ?_
    rintro _ w5 ⟨rfl, rfl⟩
    exact ⟨_, rfl, (hE1.ext hE2).ext hE3, by rw [decide_eq_true rfl]⟩
  · refine ⟨_, _, _, hb1.cell 1, _, hb1.cell 2, _, hb1.cell 3, ?_⟩
    refine (window_fn h.cb h.bl h.bc (by omega)).mono ?_
    rintro _ w2 ⟨hE2, A1, rfl, hw1, -⟩
    have hb1 := hb1.ext hE2
    refine ⟨_, _, _, _, rfl, _, _, _, hb1.cell 1, _, hb1.cell 2, _, hb1.cell 3, ?_⟩
    refine (refWindow_fn (h.cb.ext hE2) h.bl (by omega)).mono ?_
    rintro _ w3 ⟨hE3, A2, c2, rfl, hown2⟩
    refine ⟨_, _, _, _, rfl, ?_⟩
    refine (same_spec (hw1.ext (hE2.ext hE3)) (own_cells hown2) rfl rfl (winS_bts h.bb _ _) (winS_bts h.bb _ _)).mono ?_
    rintro _ w4 ⟨rfl, rfl⟩
    refine ⟨_, rfl, Br.yes rfl ?_⟩
    refine (num_spec _ w3).mono ?_
    rintro _ w5 ⟨rfl, rfl⟩
    exact ⟨_, rfl, (hE1.ext hE2).ext hE3, by rw [decide_eq_true rfl]⟩

/-! ### Wide rooms -/
def wideTail (i : Nat) : List Int := (List.range i).map fun (j : Nat) => 201 + ((j % 5 : Nat) : Int)
def wideTailI (i : Nat) : List Int := (List.range i).map fun (j : Nat) => -201 - (j : Int)
theorem wideTail_bts (i : Nat) : Bts (wideTail i) := by
  intro x hx
  obtain ⟨j, _, rfl⟩ := List.mem_map.1 hx
  omega
theorem roomy_spec {A : Option Addr} {n c : Nat} {bs : List Int} {w : World} (hb : Cells w A (bs.map (.int .u8))) (hl : bs.length = n) (hn : n ≤ 70368744177664) :
    Calls Try.prog 16 #[.slice A n c] w fun e w' => Ext w w' ∧ ∃ A' c', e = .returned (.slice A' (n + 75) c') ∧ n + 75 ≤ c' ∧ w'.ownsRow w.heap.size 5 1 (.slice A' (n + 75) c') (n + 75) ((bs ++ wideTail 75).map (.int .u8)) := by
  refine weirlaw1_roomy_of A n c w _ ?_
  unfold weirlaw1_roomy_VC
  obtain ⟨ti, hti, htz, hts, hty⟩ := tyByte
  refine AppVC.own Try.underlying22 hti htz hts hty rfl (by decide) (World.ownsRow_nil _ _ _ _) hb (by simpa using hl) (ints_one _ _) (by omega) (by decide) (Nat.le_refl _) fun A1 c1 w1 hown1 hm1 hc1 => ?_
  have hE1 : Ext w w1 := hm1.mono fun k hk e => by simp [Value.ownBlock] at e
  refine LoopVC.of (fun s w' => ∃ (i : Nat) (A2 : Option Addr) (c2 : Nat), i ≤ 75 ∧ s = ((A2, n + i, c2), (i : Int)) ∧ Ext w w' ∧ n + i ≤ c2 ∧ w'.ownsRow w.heap.size 5 1 (.slice A2 (n + i) c2) (n + i) ((bs ++ wideTail i).map (.int .u8))) (fun s _ => (75 - s.2).toNat) ?_ ?_
  · refine ⟨0, A1, c1, by omega, by simp, hE1, by omega, ?_⟩
    simpa [wideTail] using hown1
  rintro _ w2 ⟨i, A2, c2, hi, rfl, hE2, hc2, hown2⟩
  show weirlaw1_roomy_L122 _ A2 (n + i) c2 (i : Int) w2 _
  unfold weirlaw1_roomy_L122
  refine Br.dec (fun hlt => ?_) (fun hge => ?_)
  · have em : Int.tmod (i : Int) 5 = ((i % 5 : Nat) : Int) := by rw [Int.tmod_eq_emod_of_nonneg (by omega)]; omega
    rw [em, w64 (n := 201 + ((i % 5 : Nat) : Int)) (by omega) (by omega), wu8 (by omega) (by omega)]
    refine AppVC.one Try.underlying22 tyByte rfl hown2 rfl (by omega) (by decide) hE2.size fun A3 c3 w3 hown3 hm3 hc3 => ?_
    refine ⟨⟨i + 1, A3, c3, by omega, ?_, Ext.own hE2 hown2 hm3, by omega, ?_⟩, ?_⟩
    · rw [w64 (by omega) (by omega)]; rfl
    · have : bs ++ wideTail (i + 1) = bs ++ wideTail i ++ [201 + ((i % 5 : Nat) : Int)] := by
        unfold wideTail
        rw [List.range_succ, List.map_append, List.append_assoc]; rfl
      rw [this, List.map_append]
      exact hown3
    · simp only
      rw [w64 (by omega) (by omega)]; omega
  · have : i = 75 := by omega
    subst this
    exact ⟨hE2, A2, c2, rfl, hc2, hown2⟩
theorem roomyInts_spec {A : Option Addr} {n c : Nat} {bs : List Int} {w : World} (hb : Cells w A (bs.map (.int .i64))) (hl : bs.length = n) (hn : n ≤ 8796093022208) :
    Calls Try.prog 75 #[.slice A n c] w fun e w' => Ext w w' ∧ ∃ A' c', e = .returned (.slice A' (n + 70) c') ∧ n + 70 ≤ c' ∧ w'.ownsRow w.heap.size 3 1 (.slice A' (n + 70) c') (n + 70) ((bs ++ wideTailI 70).map (.int .i64)) := by
  refine weirlaw1_roomyInts_of A n c w _ ?_
  unfold weirlaw1_roomyInts_VC
  obtain ⟨ti, hti, htz, hts, hty⟩ := tyInt
  refine AppVC.own Try.underlying55 hti htz hts hty rfl (by decide) (World.ownsRow_nil _ _ _ _) hb (by simpa using hl) (ints_one _ _) (by omega) (by decide) (Nat.le_refl _) fun A1 c1 w1 hown1 hm1 hc1 => ?_
  have hE1 : Ext w w1 := hm1.mono fun k hk e => by simp [Value.ownBlock] at e
  refine LoopVC.of (fun s w' => ∃ (i : Nat) (A2 : Option Addr) (c2 : Nat), i ≤ 70 ∧ s = ((A2, n + i, c2), (i : Int)) ∧ Ext w w' ∧ n + i ≤ c2 ∧ w'.ownsRow w.heap.size 3 1 (.slice A2 (n + i) c2) (n + i) ((bs ++ wideTailI i).map (.int .i64))) (fun s _ => (70 - s.2).toNat) ?_ ?_
  · refine ⟨0, A1, c1, by omega, by simp, hE1, by omega, ?_⟩
    simpa [wideTailI] using hown1
  rintro _ w2 ⟨i, A2, c2, hi, rfl, hE2, hc2, hown2⟩
  show weirlaw1_roomyInts_L122 _ A2 (n + i) c2 (i : Int) w2 _
  unfold weirlaw1_roomyInts_L122
  refine Br.dec (fun hlt => ?_) (fun hge => ?_)
  · rw [w64 (n := -201 - (i : Int)) (by omega) (by omega)]
    refine AppVC.one Try.underlying55 tyInt rfl hown2 rfl (by omega) (by decide) hE2.size fun A3 c3 w3 hown3 hm3 hc3 => ?_
    refine ⟨⟨i + 1, A3, c3, by omega, ?_, Ext.own hE2 hown2 hm3, by omega, ?_⟩, ?_⟩
    · rw [w64 (by omega) (by omega)]; rfl
    · have : bs ++ wideTailI (i + 1) = bs ++ wideTailI i ++ [-201 - (i : Int)] := by
        unfold wideTailI
        rw [List.range_succ, List.map_append, List.append_assoc]; rfl
      rw [this, List.map_append]
      exact hown3
    · simp only
      rw [w64 (by omega) (by omega)]; omega
  · have : i = 70 := by omega
    subst this
    exact ⟨hE2, A2, c2, rfl, hc2, hown2⟩
end Go.Proofs.Ytdchpilghgnnoaa
