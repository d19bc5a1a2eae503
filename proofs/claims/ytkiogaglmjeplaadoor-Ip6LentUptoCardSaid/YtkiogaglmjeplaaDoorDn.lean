/- Ip6Lent: the lists that were handed out, and what follows. -/
import Derived.Test.YtkiogaglmjeplaaDoorDm
namespace Go.Eng
open Go Go.RowKit
structure LY where
  g1 : Nat
  g2 : Nat
  g3 : Nat
  g4 : Nat
  g8 : Nat
  g10 : Nat
  hv : Bool → Ip6V
  ov : Bool → List ExtR
  dv : Bool → List Int
  iv : Bool → Ip6R
  sv : Bool → Sl
  tv : Bool → Sl
  lv : Bool → List Int
  pv : Bool → Ip6R
def LY.r1 (L : LY) (c : Bool) : List Int := (ser6S (L.iv c).d).1
end Go.Eng
namespace Go.Proofs.YtkiogaglmjeplaaDoor
namespace N6
open Go.Eng Go.RowKit
structure LYAt (L : LY) (w : World) : Prop where
  b1 : Blk w L.g1 30 (L.hv false).cells
  b2 : Blk w L.g2 30 (L.hv true).cells
  b3 : Blk w L.g3 30 (L.iv false).v.cells
  b4 : Blk w L.g4 30 (L.iv true).v.cells
  b8 : Blk w L.g8 30 (L.pv false).v.cells
  b10 : Blk w L.g10 30 (L.pv true).v.cells
  a : ∀ c, Ip6At w (L.hv c) (L.ov c) (L.dv c)
  i : ∀ c, Ip6At w (L.iv c).v (L.iv c).exts (L.iv c).data
  ie : ∀ c, (L.iv c).d = (L.hv c).d (L.ov c) (L.dv c)
  s : ∀ c, BytesAt w (L.sv c) (L.lv c)
  t : ∀ c, BytesAt w (L.tv c) (L.lv c)
  p : ∀ c, Ip6At w (L.pv c).v (L.pv c).exts (L.pv c).data
  pe : ∀ c, (L.pv c).d = (parsed (L.lv c)).1
  k : Kn w
theorem LYAt.ext {L : LY} {w w' : World} (h : LYAt L w) (hE : Ext w w') : LYAt L w' := ⟨h.b1.ext hE, h.b2.ext hE, h.b3.ext hE, h.b4.ext hE, h.b8.ext hE, h.b10.ext hE, fun c => (h.a c).ext hE, fun c => (h.i c).ext hE, h.ie, fun c => (h.s c).ext hE, fun c => (h.t c).ext hE, fun c => (h.p c).ext hE, h.pe, h.k.ext hE⟩
/-- What was handed out of the first n questions. -/
structure Fam7 (L : LY) (b : Nat) (rows : List GR) (P : List Ip6R) (n : Nat) : Prop where
  l1 : rows.length = 2 * n
  l2 : P.length = n
  r0 : ∀ j, j < n → ∃ s1 : Sl, rows[2 * j]? = some (grB s1 (L.r1 (wy j))) ∧ s1.n = (L.r1 (wy j)).length
  rs : ∀ r ∈ rows, r.n ≤ 4000000
  p : ∀ (j : Nat) (r : Ip6R), P[j]? = some r → r.d = (parsed (L.lv (wy j))).1 ∧ r.v.exts.n = r.exts.length ∧ r.exts.length ≤ 8 ∧ ∀ w'', BytesAt w'' (L.tv (wy j)) (L.lv (wy j)) → (∀ f ∈ readX b r.v.exts r.exts, f.φ w'') → Ip6At w'' r.v r.exts r.data
/-- What is read of the lists. -/
structure LentY (L : LY) (BS : List Fct) (g13 g14 : Nat) (lA pA : Option Addr) (rows : List GR) (P : List Ip6R) : Prop where
  l : ∀ w', (∀ f ∈ BS, f.φ w') → Cells w' lA (rows.map GR.val)
  p : ∀ w', (∀ f ∈ BS, f.φ w') → Recs w' pA 44 (P.map fun r => r.v.cells)
  wants : ∀ w', (∀ f ∈ BS, f.φ w') → Blk w' g13 68 ((L.pv false).v.cells ++ (L.pv true).v.cells)
  way : ∀ w', (∀ f ∈ BS, f.φ w') → Blk w' g14 70 (wayV.map (.int .i64))
section
variable {w w8 : World} {L : LY} {BS : List Fct} {b g13 g14 lc : Nat} {lA pA : Option Addr} {rows : List GR} {P : List Ip6R}
theorem allE_len (hF : Fam7 L b rows P 6) (i : Nat) : (allE (P.take i)).length ≤ 48 := by
  have h : ∀ Q : List Ip6R, (∀ r ∈ Q, r.exts.length ≤ 8) → (allE Q).length ≤ Q.length * 8 := by
    intro Q
    induction Q with
    | nil => intro _; simp [allE]
    | cons r Q ih =>
      intro h
      have h1 := ih fun x hx => h x (by simp [hx])
      have h2 := h r (by simp)
      have e : allE (r :: Q) = r.exts ++ allE Q := rfl
      rw [e, List.length_append, List.length_cons]
      omega
  have h1 := h (P.take i) fun r hr => by
    obtain ⟨j, hj⟩ := List.getElem?_of_mem (List.mem_of_mem_take hr)
    exact (hF.p j r hj).2.2.1
  have h2 : (P.take i).length ≤ 6 := by have := hF.l2; rw [List.length_take]; omega
  omega
set_option maxHeartbeats 8000000 in
theorem lent7_loop3 {g17 : Nat} (hG : LentY L BS g13 g14 lA pA rows P) (hF : Fam7 L b rows P 6) (hL : LYAt L w8) (hb : b ≤ w8.heap.size)
    (H : Sep (Fct.blk g17 79 [.slice none 0 0, .slice none 0 0] :: Fct.rest w8 None :: (BS ++ (rows.map (rawR b 5 1) ++ famX b P))) w) {R : Ending → World → Prop} (hR : ∀ w', Ext w8 w' → R (.returned (.bool true)) w') :
    LoopVC (S := Int) (fun s_ w44 K => weirlaw7_Ip6Lent_L4194298 R (L.sv false).A (L.sv false).n (L.sv false).k (L.sv true).A (L.sv true).n (L.sv true).k L.g1 L.g2 L.g3 L.g4 (L.tv false).A (L.tv false).n (L.tv false).k (L.tv true).A (L.tv true).n (L.tv true).k L.g8 L.g10 lA 12 lc pA 6 g17 s_ w44 K) 0 w := by
  obtain ⟨X, hX⟩ : ∃ X, X = BS ++ (rows.map (rawR b 5 1) ++ famX b P) := ⟨_, rfl⟩
  rw [← hX] at H
  have U8 : ∀ {w' : World}, (∀ f ∈ Fct.rest w8 None :: X, f.φ w') → Ext w8 w' ∧ (∀ f ∈ BS, f.φ w') ∧ ∀ (j : Nat) (r : Ip6R), P[j]? = some r → Ip6At w' r.v r.exts r.data := fun {w'} h => by
    have h0 : Ext w8 w' := h _ List.mem_cons_self
    refine ⟨h0, fun f hf => h f (List.mem_cons_of_mem _ (by rw [hX]; exact List.mem_append_left _ hf)), fun j r hj => (hF.p j r hj).2.2.2 w' ((hL.t (wy j)).ext h0) fun f hf => h f (List.mem_cons_of_mem _ (by
      rw [hX]
      exact List.mem_append_right _ (List.mem_append_right _ (List.mem_flatMap.2 ⟨r, List.mem_of_getElem? hj, hf⟩))))⟩
  refine LoopVC.of (fun st w' => ∃ (i : Nat) (EA OA : Option Addr) (ec oc : Nat), st = (i : Int) ∧ i ≤ 6 ∧ Sep (Fct.blk g17 79 [.slice EA i ec, .slice OA (allE (P.take i)).length oc] :: Fct.own b 26 1 (.slice EA i ec) i (((P.take i).map grX7).map GR.val) :: Fct.own b 52 1 (.slice OA (allE (P.take i)).length oc) (allE (P.take i)).length (((allE (P.take i)).map grO7).map GR.val) :: Fct.rest w8 None :: X) w') (fun st _ => ((6 : Int) - st).toNat)
    ⟨0, none, none, 0, 0, rfl, by decide, ?_⟩ ?_
  · have H := (H.nil b 26 1).nil b 52 1
    exact H.perm (perm_cnt fun c o h1 h2 h3 => by simp only [allE, List.take_zero, List.flatMap_nil, List.map_nil, List.length_nil, h1, h2, h3]; omega)
  clear H
  rintro _ w1 ⟨i, EA, OA, ec, oc, rfl, hi, H⟩
  show weirlaw7_Ip6Lent_L4194298 R (L.sv false).A (L.sv false).n (L.sv false).k (L.sv true).A (L.sv true).n (L.sv true).k L.g1 L.g2 L.g3 L.g4 (L.tv false).A (L.tv false).n (L.tv false).k (L.tv true).A (L.tv true).n (L.tv true).k L.g8 L.g10 lA 12 lc pA 6 g17 (i : Int) w1 _
  unfold weirlaw7_Ip6Lent_L4194298
  have hal := allE_len hF i
  have dn : ∀ {f1 f2 f3 : Fct} {w' : World}, Sep (f1 :: f2 :: f3 :: Fct.rest w8 None :: X) w' → ∀ f ∈ Fct.rest w8 None :: X, f.φ w' := fun H f hf => H.mem (List.mem_cons_of_mem _ (List.mem_cons_of_mem _ (List.mem_cons_of_mem _ hf)))
  refine Br.dec (fun hlt => ?_) fun hge => ?_
  · obtain ⟨r, hr⟩ : ∃ r, P[i]? = some r := ⟨_, List.getElem?_eq_getElem (by have := hF.l2; omega)⟩
    have e1 : IntKind.i64.wrap ((i : Int) + 1) = ((i + 1 : Nat) : Int) := by rw [w64 (by omega) (by omega)]; omega
    obtain ⟨_, fb, _⟩ := U8 (dn H)
    refine IdxVC.recD (w := w1) (fun w3 => w3 = w1) rfl (fun w3 e => by rw [e]; exact hG.p w1 fb) (by rw [List.length_map]; exact hF.l2) (cs := r.v.cells) (by rw [List.getElem?_map, hr]; rfl) fun a ha => ⟨_, _, _, cells_get (ha w1 rfl) 37 rfl, ?_⟩
    refine (take_spec (s := r.v.exts) (xs := r.exts) (R0 := (P.take i).map grX7) (R1 := (allE (P.take i)).map grO7) H hb (by omega) (by omega) (hF.p i r hr).2.2.1 (fun w' h => ((U8 h).2.2 i r hr).exts)).mono ?_
    rintro _ w2 ⟨rfl, EA', OA', ec', oc', H⟩
    have e2 : ((P.take (i + 1)).map grX7).map GR.val = ((P.take i).map grX7).map GR.val ++ [r.v.exts.val] := by rw [take_snocA hr, List.map_append, List.map_append]; rfl
    have e3 : (allE (P.take (i + 1))).length = (allE (P.take i)).length + r.exts.length := by rw [take_snocA hr, allE_snoc, List.length_append]
    have e4 : (allE (P.take (i + 1))).map grO7 = (allE (P.take i)).map grO7 ++ r.exts.map grO7 := by rw [take_snocA hr, allE_snoc, List.map_append]
    refine ⟨rfl, ⟨i + 1, EA', OA', ec', oc', e1, by omega, ?_⟩, by rw [e1]; omega⟩
    rw [e2, e3, e4]
    exact H
  have hi6 : i = 6 := by omega
  subst hi6
  have hp6 : P.take 6 = P := List.take_of_length_le (by have := hF.l2; omega)
  rw [hp6] at H hal
  obtain ⟨_, fb0, at0⟩ := U8 (dn H)
  have mO : ∀ r ∈ (allE P).map grO7, r.n ≤ 4000001 := fun r hr => by
    obtain ⟨x, hx, rfl⟩ := List.mem_map.1 hr
    obtain ⟨q, hq, hx⟩ := List.mem_flatMap.1 hx
    obtain ⟨j, hj⟩ := List.getElem?_of_mem hq
    have := ((at0 j q hj).exts.opts x hx).small
    show x.v.opts.n ≤ 4000001
    omega
  have mX : ∀ r ∈ P.map grX7, r.n ≤ 4000001 := fun r hr => by
    obtain ⟨q, hq, rfl⟩ := List.mem_map.1 hr
    obtain ⟨j, hj⟩ := List.getElem?_of_mem hq
    have h1 := (hF.p j q hj).2.1
    have h2 := (hF.p j q hj).2.2.1
    show q.v.exts.n ≤ 4000001
    omega
  obtain ⟨n1, hn1⟩ : ∃ n, n = (allE P).length := ⟨_, rfl⟩
  rw [← hn1] at H hal
  obtain ⟨BX, hBX⟩ : ∃ B, B = Fct.blk g17 79 [.slice EA 6 ec, .slice OA n1 oc] := ⟨_, rfl⟩
  obtain ⟨OE, hOE⟩ : ∃ B, B = Fct.own b 26 1 (.slice EA 6 ec) 6 ((P.map grX7).map GR.val) := ⟨_, rfl⟩
  obtain ⟨OO, hOO⟩ : ∃ B, B = Fct.own b 52 1 (.slice OA n1 oc) n1 (((allE P).map grO7).map GR.val) := ⟨_, rfl⟩
  rw [← hBX, ← hOE, ← hOO] at H
  obtain ⟨FX, hFX⟩ : ∃ FX, FX = Fct.rest w8 None :: BX :: OE :: OO :: BS := ⟨_, rfl⟩
  have rest0 : ∀ {Y : List Fct} {w' : World}, Sep (FX ++ Y) w' → Ext w8 w' := fun H => H.restOf 0 (by rw [hFX]; rfl)
  have h00 : ∀ Y : List Fct, (FX ++ Y)[0]? = some (Fct.rest w8 None) := fun Y => by rw [hFX]; rfl
  have sub : ∀ {Y : List Fct} {w' : World}, (∀ f ∈ FX ++ Y, f.φ w') → (∀ f ∈ BS, f.φ w') ∧ BX.φ w' ∧ OE.φ w' ∧ OO.φ w' := fun {Y w'} h => by
    have h' : ∀ f ∈ FX, f.φ w' := fun f hf => h f (List.mem_append_left _ hf)
    rw [hFX] at h'
    exact ⟨fun f hf => h' f (List.mem_cons_of_mem _ (List.mem_cons_of_mem _ (List.mem_cons_of_mem _ (List.mem_cons_of_mem _ hf)))), h' BX (by simp), h' OE (by simp), h' OO (by simp)⟩
  have H : Sep ((FX ++ famX b P) ++ rows.map (rawR b 5 1)) w1 := by
    rw [hX] at H
    rw [hFX]
    exact H.perm (perm_cnt fun c o h1 h2 h3 => by simp only [h1, h2]; omega)
  refine (filled_spec H (by rw [hFX]; rfl) hb (fun w' hf => hG.l w' (sub hf).1) hF.l1 (by decide) hF.rs).mono ?_
  rintro _ w2 ⟨MA, mc, gs, D, rfl, hgl, hst, H⟩
  obtain ⟨M, hM⟩ : ∃ M, M = Fct.own b 22 1 (.slice MA (3 * (2 * 6)) mc) (3 * (2 * 6)) (gs.map GR.val) := ⟨_, rfl⟩
  rw [← hM] at H
  have H : Sep ((FX ++ (M :: D)) ++ famX b P) w2 := H.perm (perm_cnt fun c o h1 h2 h3 => by simp only [h1, h2]; omega)
  have H := famX_split P H
  have x0 : ∀ {Y : List Fct} (w' : World), (∀ f ∈ FX ++ Y, f.φ w') → w'.cell? ⟨g17, 0, none⟩ = some (.slice EA 6 ec) ∧ Cells w' EA ((P.map grX7).map GR.val) := fun {Y} w' h => by
    obtain ⟨_, q1, q2, q3⟩ := sub h
    rw [hBX] at q1
    rw [hOE] at q2
    exact ⟨cells_get (CellsAt.blk q1) 0 rfl, own_cells q2⟩
  have x1 : ∀ {Y : List Fct} (w' : World), (∀ f ∈ FX ++ Y, f.φ w') → w'.cell? ((⟨g17, 0, none⟩ : Addr).add 1) = some (.slice OA n1 oc) ∧ Cells w' OA (((allE P).map grO7).map GR.val) := fun {Y} w' h => by
    obtain ⟨_, q1, q2, q3⟩ := sub h
    rw [hBX] at q1
    rw [hOO] at q3
    exact ⟨cells_get (CellsAt.blk q1) 1 rfl, own_cells q3⟩
  refine ⟨_, _, _, rfl, ?_⟩
  have k0 : (P.map grX7).length = 6 := by rw [List.length_map]; exact hF.l2
  have k1 : ((allE P).map grO7).length = n1 := by rw [List.length_map]; exact hn1.symm
  refine (Outer_grown_spec H (h00 _) hb x0 x1 k0 k1 (by decide) (by omega) mX mO).mono ?_
  rintro _ w3 ⟨gy, B0, B1, d0, d1, gs0, gs1, D0, D1, rfl, l0, l1, st0, st1, H⟩
  refine ⟨_, rfl, ?_⟩
  obtain ⟨Y0, hY0⟩ : ∃ Y, Y = Fct.own b 26 1 (.slice B0 6 d0) 6 (gs0.map GR.val) := ⟨_, rfl⟩
  obtain ⟨Y1, hY1⟩ : ∃ Y, Y = Fct.own b 52 1 (.slice B1 n1 d1) n1 (gs1.map GR.val) := ⟨_, rfl⟩
  obtain ⟨YB, hYB⟩ : ∃ Y, Y = Fct.blk gy 79 [.slice B0 6 d0, .slice B1 n1 d1] := ⟨_, rfl⟩
  rw [← hY0, ← hY1, ← hYB] at H
  obtain ⟨FW, hFW⟩ : ∃ FW, FW = (M :: D) ++ ((Y0 :: Y1 :: [YB]) ++ (D0 ++ D1)) := ⟨_, rfl⟩
  have H : Sep (FX ++ FW) w3 := by rw [hFW, ← List.append_assoc]; exact H
  have rS : ∀ {w'}, Sep (FX ++ FW) w' → Cells w' lA (rows.map GR.val) ∧ Cells w' MA (gs.map GR.val) ∧ ReadsB w' rows gs := fun {w'} H => by
    refine ⟨hG.l w' (sub (Y := FW) fun f hf => H.mem hf).1, ?_, ?_⟩
    · have := H.mem (f := M) (by rw [hFW]; simp)
      rw [hM] at this
      exact own_cells this
    · intro j r hj
      exact hst w' (fun f hm => H.mem (by rw [hFW]; simp only [List.mem_append, List.mem_cons]; exact .inr (.inl (.inr hm)))) j r (by have := (List.getElem?_eq_some_iff.1 hj).1; have := hF.l1; omega) hj
  have holdX : ∀ {w'}, Sep (FX ++ FW) w' → Calls Tryd.prog 36 #[.pointer (some ⟨g17, 0, none⟩)] w' fun e w'' => w'' = w' ∧ e = .returned (.bool true) := fun {w'} H => by
    have q0 := x0 (Y := FW) w' fun f hf => H.mem hf
    have q1 := x1 (Y := FW) w' fun f hf => H.mem hf
    rw [hFW] at H
    refine holds_spec q0.1 q1.1 q0.2 q1.2 k0 k1 (by decide) (by omega) (fun r hr => Nat.le_trans (mX r hr) (by decide)) (fun r hr => Nat.le_trans (mO r hr) (by decide)) (fun j r hj => ?_) fun j r hj => ?_
    · exact (st0 w' (fun f hf => H.mem (by simp only [List.mem_append]; exact .inr (.inr (.inr (.inl hf))))) j r (by have := (List.getElem?_eq_some_iff.1 hj).1; omega) hj).1
    · exact (st1 w' (fun f hf => H.mem (by simp only [List.mem_append]; exact .inr (.inr (.inr (.inr hf))))) j r (by have := (List.getElem?_eq_some_iff.1 hj).1; omega) hj).1
  have holdY : ∀ {w'}, Sep (FX ++ FW) w' → Calls Tryd.prog 36 #[.pointer (some ⟨gy, 0, none⟩)] w' fun e w'' => w'' = w' ∧ e = .returned (.bool true) := fun {w'} H => by
    rw [hFW] at H
    have yb : Blk w' gy 79 [.slice B0 6 d0, .slice B1 n1 d1] := by
      have := H.mem (f := YB) (by simp)
      rw [hYB] at this; exact this
    have y0 : Cells w' B0 (gs0.map GR.val) := by
      have := H.mem (f := Y0) (by simp)
      rw [hY0] at this; exact own_cells this
    have y1 : Cells w' B1 (gs1.map GR.val) := by
      have := H.mem (f := Y1) (by simp)
      rw [hY1] at this; exact own_cells this
    obtain ⟨t0, u0⟩ := stood_y st0 (fun f hf => H.mem (by simp only [List.mem_append]; exact .inr (.inr (.inr (.inl hf))))) k0 l0 mX
    obtain ⟨t1, u1⟩ := stood_y st1 (fun f hf => H.mem (by simp only [List.mem_append]; exact .inr (.inr (.inr (.inr hf))))) k1 l1 mO
    exact holds_spec (cells_get (CellsAt.blk yb) 0 rfl) (cells_get (CellsAt.blk yb) 1 rfl) y0 y1 l0 l1 (by decide) (by omega) t0 t1 u0 u1
  obtain ⟨cl, cm, cs⟩ := rS H
  refine (stand_spec cl cm hF.l1 hgl (by decide) hF.rs cs).mono ?_
  rintro _ w4 ⟨hw, rfl⟩
  subst w4
  refine ⟨_, rfl, Br.f rfl ?_⟩
  refine (holdX H).mono ?_
  rintro _ w4 ⟨hw, rfl⟩
  subst w4
  refine ⟨_, rfl, Br.f rfl ?_⟩
  refine (holdY H).mono ?_
  rintro _ w4 ⟨hw, rfl⟩
  subst w4
  have U := hL.ext (rest0 H)
  refine ⟨_, rfl, Br.f rfl (Ip6V.of (L.iv false).v ⟨CellsAt.blk U.b3, ?_⟩)⟩
  /- asked again -/
  have again : ∀ {w' : World} (c : Bool) {Q : Ending → World → Prop}, Sep (FX ++ FW) w' → (∀ A n k w'', Sep (FX ++ FW) w'' → Q (.returned (.tuple #[.slice A n k, .bool true])) w'') → Calls Tryd.prog 32 #[(L.iv c).v.val, .slice none 0 0] w' Q := fun {w'} c {Q} H hQ => by
    have H := H.nil b 22 1
    obtain ⟨Z, hZ⟩ : ∃ Z, Z = BX :: OE :: OO :: (BS ++ FW) := ⟨_, rfl⟩
    have H : Sep (Fct.rest w8 None :: Fct.own b 22 1 (.slice none 0 0) 0 (([] : List GR).map GR.val) :: Z) w' := H.perm (by
      rw [hZ, hFX]
      exact perm_cnt fun c o h1 h2 h3 => by simp only [List.map_nil, h1, h2, h3]; omega)
    refine (wrote_spec H hb (by decide) (hL.i c) hL.k).mono ?_
    rintro _ w'' ⟨A, k, s1, s2, rfl, _, _, H⟩
    refine hQ _ _ _ _ ?_
    rw [hFX]
    have H := H.sub (Γ' := Fct.rest w8 None :: Z) (.cons_cons _ (.cons _ (List.sublist_append_left _ _)))
    rw [hZ] at H
    exact H
  refine again false H fun A5 n5 k5 w5 H => ⟨_, _, _, _, rfl, ?_⟩
  have U := hL.ext (rest0 H)
  refine Ip6V.of (L.iv true).v ⟨CellsAt.blk U.b4, again true H fun A6 n6 k6 w6 H => ⟨_, _, _, _, rfl, ?_⟩⟩
  have U := hL.ext (rest0 H)
  refine (parse_at (U.t false) U.k).mono ?_
  rintro _ w7 ⟨h7, x7, d7, rfl, hd7, at7, hE⟩
  have H := H.ext hE
  have U := U.ext hE
  refine onRet_is (Ip6V.of h7 ⟨_, rfl, NewVC.sep (Sep.start0 w7) fun g18 w8' H7 => Stores.sep H7 1 rfl (Ip6V.one _) (Nat.le_refl _) (splice_all rfl) fun w9 H7 => ?_⟩)
  have hE := H7.restOf 0 rfl
  have b18 := H7.blk 1 rfl
  have H := H.ext hE
  have U := U.ext hE
  have at7 := at7.ext hE
  refine (parse_at (U.t true) U.k).mono ?_
  rintro _ w10 ⟨h10, x10, d10, rfl, hd10, at10, hE⟩
  have H := H.ext hE
  have U := U.ext hE
  have at7 := at7.ext hE
  have b18 := b18.ext hE
  refine onRet_is (Ip6V.of h10 ⟨_, rfl, NewVC.sep (Sep.start0 w10) fun g19 w11 H7 => Stores.sep H7 1 rfl (Ip6V.one _) (Nat.le_refl _) (splice_all rfl) fun w12 H7 => ?_⟩)
  have hE := H7.restOf 0 rfl
  have b19 := H7.blk 1 rfl
  have H := H.ext hE
  have U := U.ext hE
  have at7 := at7.ext hE
  have b18 := b18.ext hE
  have at10 := at10.ext hE
  refine Br.f rfl (Br.f rfl (Ip6V.of h7 ⟨CellsAt.blk b18, Ip6V.of (L.pv false).v ⟨CellsAt.blk U.b8, ?_⟩⟩))
  refine (same6_spec at7 (U.p false)).mono ?_
  rintro _ w13 ⟨x, rfl, hx, hE⟩
  have hxt := hx.2 (hd7.trans (U.pe false).symm)
  subst hxt
  have H := H.ext hE
  have U := U.ext hE
  have b19 := b19.ext hE
  have at10 := at10.ext hE
  refine ⟨_, rfl, Br.f rfl (Ip6V.of h10 ⟨CellsAt.blk b19, Ip6V.of (L.pv true).v ⟨CellsAt.blk U.b10, ?_⟩⟩)⟩
  refine (same6_spec at10 (U.p true)).mono ?_
  rintro _ w14 ⟨x, rfl, hx, hE⟩
  have hxt := hx.2 (hd10.trans (U.pe true).symm)
  subst hxt
  have H := H.ext hE
  have U := U.ext hE
  refine ⟨_, rfl, Br.f rfl (Ip6V.of (L.iv false).v ⟨CellsAt.blk U.b3, Ip6V.of (L.hv false) ⟨CellsAt.blk U.b1, ?_⟩⟩)⟩
  refine (same6_spec (U.i false) (U.a false)).mono ?_
  rintro _ w15 ⟨x, rfl, hx, hE⟩
  have hxt := hx.2 (U.ie false)
  subst hxt
  have H := H.ext hE
  have U := U.ext hE
  refine ⟨_, rfl, Br.f rfl (Ip6V.of (L.iv true).v ⟨CellsAt.blk U.b4, Ip6V.of (L.hv true) ⟨CellsAt.blk U.b2, ?_⟩⟩)⟩
  refine (same6_spec (U.i true) (U.a true)).mono ?_
  rintro _ w16 ⟨x, rfl, hx, hE⟩
  have hxt := hx.2 (U.ie true)
  subst hxt
  have H := H.ext hE
  have U := U.ext hE
  refine ⟨_, rfl, Br.f rfl ?_⟩
  refine (started7_spec U.k).mono ?_
  rintro _ w17 ⟨hE, rfl⟩
  have H := H.ext hE
  have U := U.ext hE
  refine ⟨_, rfl, Br.t rfl ?_⟩
  obtain ⟨cl, cm, cs⟩ := rS H
  refine (stand_spec cl cm hF.l1 hgl (by decide) hF.rs cs).mono ?_
  rintro _ w18 ⟨hw, rfl⟩
  subst w18
  refine ⟨_, rfl, Br.t rfl ?_⟩
  refine (holdX H).mono ?_
  rintro _ w18 ⟨hw, rfl⟩
  subst w18
  refine ⟨_, rfl, Br.t rfl ?_⟩
  refine (holdY H).mono ?_
  rintro _ w18 ⟨hw, rfl⟩
  subst w18
  refine ⟨_, rfl, Br.t rfl ?_⟩
  refine (alike7_spec (U.t false) (U.s false)).mono ?_
  rintro _ w18 ⟨hw, rfl⟩
  subst w18
  refine ⟨_, rfl, Br.t (by simp) ?_⟩
  refine (alike7_spec (U.t true) (U.s true)).mono ?_
  rintro _ w18 ⟨hw, rfl⟩
  subst w18
  refine ⟨_, rfl, ?_⟩
  have e : (decide (L.lv true = L.lv true)) = true := decide_eq_true rfl
  rw [e]
  exact hR _ (rest0 H)
end
end N6
end Go.Proofs.YtkiogaglmjeplaaDoor
/- Ip6Lent: the loops ahead; the law. -/
namespace Go.Proofs.YtkiogaglmjeplaaDoor
namespace N6
open Go.Eng Go.RowKit
section
variable {w w8 : World} {L : LY} {BS : List Fct} {b g13 g14 lc : Nat} {lA pA : Option Addr} {rows : List GR} {P : List Ip6R}
theorem way_draw {S : World → Prop} {A : Option Addr} (hw : S w) (h : ∀ w', S w' → Cells w' A (wayV.map (.int .i64))) {i : Nat} (hi : i < 6) {F : Addr → Prop} (hF : ∀ a, (∀ w', S w' → w'.cell? a = some (.int .i64 ((wyN i : Nat) : Int))) → F a) : IdxVC A 6 1 (i : Int) F := by
  refine IdxVC.draw (k := .i64) (xs := wayV) (w := w) (S := S) hw h (by omega) (by omega) rfl fun a ha => hF a fun w' h' => ?_
  rw [ha w' h', Int.toNat_natCast, List.getD_eq_getElem?_getD, wy_at ⟨i, hi⟩]; rfl
theorem two_draw {S : World → Prop} {g t size : Nat} {x y : List Value} (hw : S w) (h0 : 0 < size) (hx : x.length = size) (hy : y.length = size) (h : ∀ w', S w' → Blk w' g t (x ++ y)) {c : Bool} {i : Nat} (hi : wyN i = if c then 1 else 0) {F : Addr → Prop} (hF : ∀ a, (∀ w', S w' → CellsAt w' a 0 (if c then y else x)) → F a) : IdxVC (some ⟨g, 0, none⟩) 2 size ((wyN i : Nat) : Int) F := by
  have hr : ∀ w', S w' → Recs w' (some ⟨g, 0, none⟩) size [x, y] := fun w' h' => by
    refine Recs.of_cells h0 (fun r hr => ?_) (by simpa using Cells.blk0 (h w' h'))
    rcases List.mem_cons.1 hr with hr | hr
    · rw [hr]; exact hx
    · rw [List.mem_singleton.1 hr]; exact hy
  exact IdxVC.recD (w := w) (rs := [x, y]) (cs := if c then y else x) S hw hr rfl (by rw [hi]; cases c <;> rfl) hF
set_option maxHeartbeats 8000000 in
theorem lent7_loop2 {ss : Sl} (hG : LentY L BS g13 g14 lA pA rows P) (hF : Fam7 L b rows P 6) (hL : LYAt L w8) (hb : b ≤ w8.heap.size) (hS : BytesAt w ss (L.r1 false))
    (H : Sep (Fct.rest w8 None :: (BS ++ (rows.map (rawR b 5 1) ++ famX b P))) w) {R : Ending → World → Prop} (hR : ∀ w', Ext w8 w' → R (.returned (.bool true)) w') :
    LoopVC (S := Int) (fun s_ w39 K => weirlaw7_Ip6Lent_L1048570 R (L.sv false).A (L.sv false).n (L.sv false).k (L.sv true).A (L.sv true).n (L.sv true).k L.g1 L.g2 L.g3 L.g4 (L.tv false).A (L.tv false).n (L.tv false).k (L.tv true).A (L.tv true).n (L.tv true).k L.g8 L.g10 g13 g14 lA 12 lc pA 6 ss.A ss.n ss.k s_ w39 K) 0 w := by
  obtain ⟨Γ, hΓ⟩ : ∃ Γ, Γ = Fct.rest w8 None :: (BS ++ (rows.map (rawR b 5 1) ++ famX b P)) := ⟨_, rfl⟩
  rw [← hΓ] at H
  have fx : ∀ {w' : World}, Sep Γ w' → Ext w8 w' ∧ (∀ f ∈ BS, f.φ w') ∧ (∀ r ∈ rows, (rawR b 5 1 r).φ w') ∧ ∀ (j : Nat) (r : Ip6R), P[j]? = some r → Ip6At w' r.v r.exts r.data := fun {w'} H => by
    rw [hΓ] at H
    have h0 : Ext w8 w' := H.restOf 0 rfl
    refine ⟨h0, fun f hf => H.mem (List.mem_cons_of_mem _ (List.mem_append_left _ hf)), fun r hr => H.mem (List.mem_cons_of_mem _ (List.mem_append_right _ (List.mem_append_left _ (List.mem_map_of_mem hr)))), fun j r hj => (hF.p j r hj).2.2.2 w' ((hL.t (wy j)).ext h0) fun f hf => H.mem (List.mem_cons_of_mem _ (List.mem_append_right _ (List.mem_append_right _ (List.mem_flatMap.2 ⟨r, List.mem_of_getElem? hj, hf⟩))))⟩
  refine LoopVC.of (fun st w' => ∃ i : Nat, st = (i : Int) ∧ i ≤ 6 ∧ Sep Γ w' ∧ BytesAt w' ss (L.r1 false)) (fun st _ => ((6 : Int) - st).toNat) ⟨0, rfl, by decide, H, hS⟩ ?_
  clear H hS
  rintro _ w1 ⟨i, rfl, hi, H, hS⟩
  show weirlaw7_Ip6Lent_L1048570 R (L.sv false).A (L.sv false).n (L.sv false).k (L.sv true).A (L.sv true).n (L.sv true).k L.g1 L.g2 L.g3 L.g4 (L.tv false).A (L.tv false).n (L.tv false).k (L.tv true).A (L.tv true).n (L.tv true).k L.g8 L.g10 g13 g14 lA 12 lc pA 6 ss.A ss.n ss.k (i : Int) w1 _
  unfold weirlaw7_Ip6Lent_L1048570
  refine Br.dec (fun hlt => ?_) fun hge => ?_
  rotate_left
  · refine NewVC.sep (cs := [.slice none 0 0, .slice none 0 0]) H fun g17 w43 H => ?_
    have H := H.front
    rw [hΓ] at H
    exact lent7_loop3 hG hF hL hb H hR
  have hi6 : i < 6 := by omega
  have hwN : wyN i = if wy i then 1 else 0 := rfl
  have e1 : IntKind.i64.wrap ((i : Int) + 1) = ((i + 1 : Nat) : Int) := by rw [w64 (by omega) (by omega)]; omega
  obtain ⟨r, hr⟩ : ∃ r, P[i]? = some r := ⟨_, List.getElem?_eq_getElem (by have := hF.l2; omega)⟩
  have done : ∀ {w' : World}, Sep Γ w' → BytesAt w' ss (L.r1 false) → (∃ i' : Nat, IntKind.i64.wrap ((i : Int) + 1) = (i' : Int) ∧ i' ≤ 6 ∧ Sep Γ w' ∧ BytesAt w' ss (L.r1 false)) ∧ ((6 : Int) - IntKind.i64.wrap ((i : Int) + 1)).toNat < ((6 : Int) - (i : Int)).toNat := fun {w'} H hS => ⟨⟨i + 1, e1, by omega, H, hS⟩, by rw [e1]; omega⟩
  obtain ⟨S, hSd⟩ : ∃ S : World → Prop, S = fun w' => Sep Γ w' ∧ BytesAt w' ss (L.r1 false) := ⟨_, rfl⟩
  have sS : ∀ {w' : World}, S w' → Sep Γ w' ∧ BytesAt w' ss (L.r1 false) := fun h => by rw [hSd] at h; exact h
  have Ss : ∀ {w' : World}, Sep Γ w' → BytesAt w' ss (L.r1 false) → S w' := fun h1 h2 => by rw [hSd]; exact ⟨h1, h2⟩
  refine DrawVC.of S fun w2 hE _ => ⟨Ss (H.ext hE) (hS.ext hE), ?_⟩
  have h2 := Ss (H.ext hE) (hS.ext hE)
  refine IdxVC.recD (w := w2) S h2 (fun w' h => hG.p w' (fx (sS h).1).2.1) (by rw [List.length_map]; exact hF.l2) (cs := r.v.cells) (by rw [List.getElem?_map, hr]; rfl) fun a ha => Ip6V.of r.v ⟨ha, ?_⟩
  refine way_draw h2 (fun w' h => Cells.blk0 (hG.way w' (fx (sS h).1).2.1)) hi6 fun a ha => ⟨_, ha, ?_⟩
  refine two_draw (size := 44) (x := (L.pv false).v.cells) (y := (L.pv true).v.cells) h2 (by decide) rfl rfl (fun w' h => hG.wants w' (fx (sS h).1).2.1) hwN fun a ha => Ip6V.of (L.pv (wy i)).v ⟨fun w' h => by have := ha w' h; cases hc : wy i <;> (rw [hc] at this; exact this), ?_⟩
  obtain ⟨x0, _, _, x3⟩ := fx (sS h2).1
  have U := hL.ext x0
  refine (same6_spec (x3 i r hr) (U.p (wy i))).mono ?_
  rintro _ w3 ⟨x, rfl, hx, hE3⟩
  have hxt := hx.2 ((hF.p i r hr).1.trans (U.pe (wy i)).symm)
  subst hxt
  have H3 := (sS h2).1.ext hE3
  have hS3 := (sS h2).2.ext hE3
  have h3 := Ss H3 hS3
  refine ⟨_, rfl, h3, Br.f rfl (way_draw h3 (fun w' h => Cells.blk0 (hG.way w' (fx (sS h).1).2.1)) hi6 fun a ha => ⟨_, ha, ?_⟩)⟩
  cases hwy : wy i with
  | true =>
    have hN : wyN i = 1 := by unfold wyN; rw [hwy]; rfl
    rw [hN]
    exact Br.no (by decide) (done H3 hS3)
  | false =>
    have hN : wyN i = 0 := by unfold wyN; rw [hwy]; rfl
    rw [hN]
    refine Br.yes rfl ?_
    obtain ⟨s1, hs1, hn1⟩ := hF.r0 i hi6
    rw [hwy] at hs1 hn1
    have e2 : IntKind.i64.wrap (2 * (i : Int)) = ((2 * i : Nat) : Int) := by rw [w64 (by omega) (by omega)]; omega
    rw [e2]
    refine idx_rowsD (S := S) h3 (fun w' h => hG.l w' (fx (sS h).1).2.1) hs1 hF.l1 fun a ha => ⟨_, _, _, ha, ?_⟩
    have hm := List.mem_of_getElem? hs1
    have hB1 : BytesAt w3 s1 (L.r1 false) := bytesAt_raw (b := b) ((fx H3).2.2.1 _ hm) hn1.symm (hF.rs _ hm) (ser6S_bts (Ip6At.ok (hL.i false)))
    refine (alike7_spec hB1 hS3).mono ?_
    rintro _ w4 ⟨hw, rfl⟩
    subst w4
    exact ⟨_, rfl, h3, Br.f (by simp) (done H3 hS3)⟩
def lentF (L : LY) (b g11 g12 g13 g14 : Nat) (lA : Option Addr) (lc : Nat) (pA : Option Addr) (pc n : Nat) (rows : List GR) (P : List Ip6R) : List Fct :=
  Fct.own b 22 1 (.slice lA (2 * n) lc) (2 * n) (rows.map GR.val) :: Fct.own b 30 44 (.slice pA n pc) n ((P.map fun r => r.v.cells).flatten) :: Fct.blk g11 68 ((L.iv false).v.cells ++ (L.iv true).v.cells) :: Fct.blk g12 69 ([(L.tv false).val] ++ [(L.tv true).val]) ::
    Fct.blk g13 68 ((L.pv false).v.cells ++ (L.pv true).v.cells) :: [Fct.blk g14 70 (wayV.map (.int .i64))]
set_option maxHeartbeats 8000000 in
theorem lent7_loop1 {g11 g12 : Nat} (hL : LYAt L w8) (hb : b ≤ w8.heap.size) (H : Sep (Fct.rest w8 None :: lentF L b g11 g12 g13 g14 none 0 none 0 0 [] []) w) {R : Ending → World → Prop} (hR : ∀ w', Ext w8 w' → R (.returned (.bool true)) w') :
    LoopVC (S := (Option Addr × Nat × Nat) × (Option Addr × Nat × Nat) × Int) (fun s_ w31 K => weirlaw7_Ip6Lent_L262138 R (L.sv false).A (L.sv false).n (L.sv false).k (L.sv true).A (L.sv true).n (L.sv true).k L.g1 L.g2 L.g3 L.g4 (L.tv false).A (L.tv false).n (L.tv false).k (L.tv true).A (L.tv true).n (L.tv true).k L.g8 L.g10 g11 g12 g13 g14 s_.1.1 s_.1.2.1 s_.1.2.2 s_.2.1.1 s_.2.1.2.1 s_.2.1.2.2 s_.2.2 w31 K) ((none, 0, 0), (none, 0, 0), 0) w := by
  refine LoopVC.of (fun st w' => ∃ (i : Nat) (rows : List GR) (P : List Ip6R), st.2.2 = (i : Int) ∧ i ≤ 6 ∧ st.1.2.1 = 2 * i ∧ st.2.1.2.1 = i ∧ Fam7 L b rows P i ∧ Sep (Fct.rest w8 None :: (lentF L b g11 g12 g13 g14 st.1.1 st.1.2.2 st.2.1.1 st.2.1.2.2 i rows P ++ (rows.map (rawR b 5 1) ++ famX b P))) w') (fun st _ => ((6 : Int) - st.2.2).toNat)
    ⟨0, [], [], rfl, by decide, rfl, rfl, ⟨rfl, rfl, fun j hj => absurd hj (by omega), (fun r hr => by cases hr), fun j r h => by simp at h⟩, H⟩ ?_
  clear H
  rintro ⟨⟨A1, n1, c1⟩, ⟨A2, n2, c2⟩, _⟩ w1 ⟨i, rows, P, rfl, hi, hn1, hn2, hF, H⟩
  simp only at hn1 hn2
  subst hn1
  have hn2' := hn2.symm
  subst hn2'
  have H : Sep (Fct.rest w8 None :: (lentF L b g11 g12 g13 g14 A1 c1 A2 c2 i rows P ++ (rows.map (rawR b 5 1) ++ famX b P))) w1 := H
  show weirlaw7_Ip6Lent_L262138 R (L.sv false).A (L.sv false).n (L.sv false).k (L.sv true).A (L.sv true).n (L.sv true).k L.g1 L.g2 L.g3 L.g4 (L.tv false).A (L.tv false).n (L.tv false).k (L.tv true).A (L.tv true).n (L.tv true).k L.g8 L.g10 g11 g12 g13 g14 A1 (2 * i) c1 A2 i c2 (i : Int) w1 _
  unfold weirlaw7_Ip6Lent_L262138
  have U := hL.ext (H.restOf 0 rfl)
  refine Br.dec (fun hlt => ?_) fun hge => ?_
  rotate_left
  · have hi6 : i = 6 := by omega
    subst hi6
    refine Ip6V.of (L.hv false) ⟨CellsAt.blk U.b1, ?_⟩
    refine (refSer_at (U.a false)).mono ?_
    rintro _ w2 ⟨s', rfl, hB, hE⟩
    have H := H.ext hE
    have er : (ser6S ((L.hv false).d (L.ov false) (L.dv false))).1 = L.r1 false := by unfold LY.r1; rw [U.ie]
    rw [er] at hB
    refine ⟨_, _, _, _, rfl, ?_⟩
    exact lent7_loop2 (BS := lentF L b g11 g12 g13 g14 A1 c1 A2 c2 6 rows P) ⟨fun w' h => own_cells (h (Fct.own b 22 1 (.slice A1 (2 * 6) c1) (2 * 6) (rows.map GR.val)) (by simp [lentF])),
      fun w' h => Recs.of_cells (by decide) (fun r hr => by obtain ⟨y, _, rfl⟩ := List.mem_map.1 hr; rfl) (own_cells (h (Fct.own b 30 44 (.slice A2 6 c2) 6 ((P.map fun r : Ip6R => r.v.cells).flatten)) (by simp [lentF]))),
      fun w' h => h (Fct.blk g13 68 ((L.pv false).v.cells ++ (L.pv true).v.cells)) (by simp [lentF]), fun w' h => h (Fct.blk g14 70 (wayV.map (.int .i64))) (by simp [lentF])⟩ hF hL hb hB H hR
  have hi6 : i < 6 := by omega
  have hwN : wyN i = if wy i then 1 else 0 := rfl
  have e1 : IntKind.i64.wrap ((i : Int) + 1) = ((i + 1 : Nat) : Int) := by rw [w64 (by omega) (by omega)]; omega
  refine way_idx (Cells.blk0 (H.blk 6 rfl)) hi6 fun a ha => ⟨_, ha, ?_⟩
  refine two_rec (size := 44) (x := (L.iv false).v.cells) (y := (L.iv true).v.cells) (by decide) rfl rfl (H.blk 3 rfl) hwN fun a ha => Ip6V.of (L.iv (wy i)).v ⟨by cases hc : wy i <;> (rw [hc] at ha; exact ha), ?_⟩
  obtain ⟨RX, hRX⟩ : ∃ X, X = rows.map (rawR b 5 1) ++ famX b P := ⟨_, rfl⟩
  rw [← hRX] at H
  refine (wrote_spec H hb (by omega) (hL.i (wy i)) hL.k).mono ?_
  rintro _ w2 ⟨A3, c3, s1, s2, rfl, hs1, hs2, H⟩
  obtain ⟨r1, hr1⟩ : ∃ r, r = L.r1 (wy i) := ⟨_, rfl⟩
  obtain ⟨r2, hr2⟩ : ∃ r, r = (putChainS ((L.iv (wy i)).exts.map ExtR.d) (L.iv (wy i)).v.next).1 := ⟨_, rfl⟩
  have er1 : (ser6S ((L.iv (wy i)).v.d (L.iv (wy i)).exts (L.iv (wy i)).data)).1 = r1 := hr1.symm
  rw [er1] at hs1 H
  rw [← hr2] at hs2 H
  have l1 : r1.length ≤ 4000000 := by rw [← er1]; have := ser6S_len ((L.iv (wy i)).v.d (L.iv (wy i)).exts (L.iv (wy i)).data); omega
  have l2 : r2.length ≤ 4000000 := by rw [hr2]; have := putChainS_len ((L.iv (wy i)).exts.map ExtR.d) (L.iv (wy i)).v.next; omega
  obtain ⟨rows', hrows⟩ : ∃ rs, rs = rows ++ [grB s1 r1, grB s2 r2] := ⟨_, rfl⟩
  rw [← hrows] at H
  have H : Sep (Fct.rest w8 None :: (Fct.own b 22 1 (.slice A3 (2 * i + 2) c3) (2 * i + 2) (rows'.map GR.val) :: Fct.own b 30 44 (.slice A2 i c2) i ((P.map fun r => r.v.cells).flatten) :: Fct.blk g11 68 ((L.iv false).v.cells ++ (L.iv true).v.cells) :: Fct.blk g12 69 ([(L.tv false).val] ++ [(L.tv true).val]) ::
    Fct.blk g13 68 ((L.pv false).v.cells ++ (L.pv true).v.cells) :: Fct.blk g14 70 (wayV.map (.int .i64)) :: (RX ++ [rawR b 5 1 (grB s1 r1), rawR b 5 1 (grB s2 r2)]))) w2 := H
  have U := hL.ext (H.restOf 0 rfl)
  have e2 : IntKind.i64.wrap (IntKind.i64.wrap (2 * (i : Int)) + 2) = ((2 * i + 2 : Nat) : Int) := by rw [w64 (n := 2 * (i : Int)) (by omega) (by omega), w64 (by omega) (by omega)]; omega
  refine ⟨_, _, _, _, rfl, Br.f rfl (Br.no (fun x => x e2.symm) ?_)⟩
  refine way_idx (Cells.blk0 (H.blk 6 rfl)) hi6 fun a ha => ⟨_, ha, ?_⟩
  refine two_rec (size := 1) (x := [(L.tv false).val]) (y := [(L.tv true).val]) (by decide) rfl rfl (H.blk 4 rfl) hwN fun a ha => ⟨(L.tv (wy i)).A, (L.tv (wy i)).n, (L.tv (wy i)).k, by cases hc : wy i <;> (rw [hc] at ha; exact c0 ha), ?_⟩
  refine (parse_spec (U.t (wy i)) U.k).mono ?_
  intro e w3 hc
  obtain ⟨hh, xs, ds, rfl, hd, H, hxn, hx8, atP⟩ := hc.parts (U.t (wy i)) (Nat.le_trans hb (H.restOf 0 rfl).size) H
  refine onRet_is (Ip6V.of hh ⟨_, rfl, NewVC.sep H fun g15 w4 H => Stores.sep H.front 0 rfl (Ip6V.one _) (Nat.le_refl _) (splice_all rfl) fun w5 H => Ip6V.of hh ⟨H.at 0 rfl, NewVC.sep H fun g16 w6 H => ?_⟩⟩)
  refine AppVC.sep (m := 1) H 3 Tryd.underlying67 tI6 rfl (by decide) rfl (Cells.blk0 (H.mem (f := Fct.blk g16 30 hh.cells) (List.mem_append_right _ List.mem_cons_self))) rfl (Ip6V.one _) (by omega) (by decide) (Nat.le_trans hb (H.restOf 1 rfl).size) fun A4 c4 w7 H _ => ?_
  refine ⟨⟨i + 1, rows', P ++ [(⟨hh, xs, ds⟩ : Ip6R)], e1, by omega, by show 2 * i + 2 = _; omega, rfl, ⟨?_, ?_, fun j hj => ?_, fun r hr => ?_, fun j r hj => ?_⟩, ?_⟩, by simp only [e1]; omega⟩
  · rw [hrows, List.length_append, hF.l1]; simp; omega
  · rw [List.length_append, hF.l2]; rfl
  · rcases Nat.lt_or_ge j i with hji | hji
    · obtain ⟨s, hs, hn⟩ := hF.r0 j hji
      exact ⟨s, by rw [hrows, List.getElem?_append_left (by have := hF.l1; omega)]; exact hs, hn⟩
    · have hji : j = i := by omega
      subst hji
      refine ⟨s1, ?_, by rw [← hr1]; exact hs1⟩
      rw [hrows, List.getElem?_append_right (by rw [hF.l1]; exact Nat.le_refl _), hF.l1, Nat.sub_self, ← hr1]; rfl
  · rw [hrows] at hr
    rcases List.mem_append.1 hr with hr | hr
    · exact hF.rs r hr
    · simp only [List.mem_cons, List.not_mem_nil, or_false] at hr
      rcases hr with rfl | rfl
      · show s1.n ≤ _; omega
      · show s2.n ≤ _; omega
  · rcases Nat.lt_or_ge j P.length with hjl | hjl
    · rw [List.getElem?_append_left hjl] at hj; exact hF.p j r hj
    · have hji : j = i := by
        have := (List.getElem?_eq_some_iff.1 hj).1
        have := hF.l2
        simp at *; omega
      subst hji
      rw [List.getElem?_append_right hjl, hF.l2, Nat.sub_self] at hj
      injection hj with hj
      subst hj
      exact ⟨hd, hxn, hx8, atP⟩
  · have a2 : ((P ++ [(⟨hh, xs, ds⟩ : Ip6R)]).map fun r : Ip6R => r.v.cells).flatten = (P.map fun r : Ip6R => r.v.cells).flatten ++ hh.cells := by rw [List.map_append, List.flatten_append]; simp
    have a3 : rows'.map (rawR b 5 1) = rows.map (rawR b 5 1) ++ [rawR b 5 1 (grB s1 r1), rawR b 5 1 (grB s2 r2)] := by rw [hrows, List.map_append]; rfl
    obtain ⟨RR, hRR⟩ : ∃ X, X = rows.map (rawR b 5 1) := ⟨_, rfl⟩
    obtain ⟨FM, hFM⟩ : ∃ X, X = famX b P := ⟨_, rfl⟩
    obtain ⟨N, hN⟩ : ∃ N, N = lentF L b g11 g12 g13 g14 A3 c3 A4 c4 (i + 1) rows' (P ++ [(⟨hh, xs, ds⟩ : Ip6R)]) := ⟨_, rfl⟩
    have H : Sep ((Fct.blk g15 30 hh.cells :: Fct.rest w8 None :: (N ++ (RX ++ [rawR b 5 1 (grB s1 r1), rawR b 5 1 (grB s2 r2)] ++ readX b hh.exts xs))) ++ [Fct.blk g16 30 hh.cells]) w7 := by
      rw [hN]
      unfold lentF
      rw [a2]
      exact H
    have H := H.dropEnd.tail
    show Sep (Fct.rest w8 None :: (lentF L b g11 g12 g13 g14 A3 c3 A4 c4 (i + 1) rows' (P ++ [(⟨hh, xs, ds⟩ : Ip6R)]) ++ (rows'.map (rawR b 5 1) ++ famX b (P ++ [(⟨hh, xs, ds⟩ : Ip6R)])))) w7
    rw [famX_snoc, a3, ← hN, ← hRR, ← hFM]
    rw [hRX, ← hRR, ← hFM] at H
    exact H.perm (perm_cnt fun c o h1 h2 h3 => by simp only [h1, h2, h3]; omega)
end
end N6
end Go.Proofs.YtkiogaglmjeplaaDoor
/- Ip6Lent: the law. -/
namespace Go.Proofs.YtkiogaglmjeplaaDoor
namespace N6
open Go.Eng Go.RowKit
section
variable {w : World}
set_option maxHeartbeats 8000000 in
theorem lent7_law {h g : Ip6V} {eh eg : List ExtR} {dh dg : List Int} {sb sc : Sl} {lb lc : List Int} (hA : Ip6At w h eh dh) (hB : Ip6At w g eg dg) (hC : BytesAt w sb lb) (hD : BytesAt w sc lc) (hK : Kn w) :
    Calls Tryd.prog 8 #[h.val, g.val, sb.val, sc.val] w fun e w' => e = .returned (.bool true) ∧ Ext w w' := by
  refine weirlaw7_Ip6Lent_of h g sb.A sb.n sb.k sc.A sc.n sc.k w _ ?_
  unfold weirlaw7_Ip6Lent_VC
  obtain ⟨b, hbd⟩ : ∃ b, b = w.heap.size := ⟨_, rfl⟩
  have hb : b ≤ w.heap.size := by omega
  have up : ∀ {Γ : List Fct} {w' : World}, Sep (Fct.rest w None :: Γ) w' → Ext w w' ∧ b ≤ w'.heap.size := fun H => ⟨H.restOf 0 rfl, Nat.le_trans hb (H.restOf 0 rfl).size⟩
  refine NewVC.sep (Sep.start0 w) fun g1 w1 H => NewVC.sep H fun g2 w2 H => Ip6V.of h ⟨H.at 1 rfl, ?_⟩
  obtain ⟨u, z⟩ := up H
  refine (clone6_spec (hA.ext u)).mono ?_
  rintro _ w3 ⟨rA, rfl, hAd, hfA, H3⟩
  have H := clone_more H z H3
  refine onRet_is (Ip6V.of rA.v ⟨rfl, NewVC.sep H fun g3 w4 H => Stores.sep H.front 0 rfl (Ip6V.one _) (Nat.le_refl _) (splice_all rfl) fun w5 H => ?_⟩)
  have H := H.rot
  obtain ⟨u, z⟩ := up H
  refine Ip6V.of g ⟨H.at 2 rfl, ?_⟩
  refine (clone6_spec (hB.ext u)).mono ?_
  rintro _ w6 ⟨rB, rfl, hBd, hfB, H6⟩
  have H := clone_more H z H6
  refine onRet_is (Ip6V.of rB.v ⟨rfl, NewVC.sep H fun g4 w7 H => Stores.sep H.front 0 rfl (Ip6V.one _) (Nat.le_refl _) (splice_all rfl) fun w8 H => ?_⟩)
  have H := H.rot
  obtain ⟨u, z⟩ := up H
  refine copy_new (b := b) H hb (hC.ext u) fun A1 c1 w10 H => ?_
  obtain ⟨u, z⟩ := up H
  refine copy_new (b := b) H hb (hD.ext u) fun A2 c2 w12 H => ?_
  obtain ⟨u, z⟩ := up H
  refine copy_new (b := b) H hb (hC.ext u) fun A3 c3 w14 H => ?_
  obtain ⟨IA, hIA⟩ : ∃ I, I = rowB b rA.v.data rA.data :: extFs b rA.v.exts rA.exts := ⟨_, rfl⟩
  obtain ⟨IB, hIB⟩ : ∃ I, I = rowB b rB.v.data rB.data :: extFs b rB.v.exts rB.exts := ⟨_, rfl⟩
  obtain ⟨T1, hT1⟩ : ∃ I, I = rowB b ⟨A1, sb.n, c1⟩ lb := ⟨_, rfl⟩
  obtain ⟨T2, hT2⟩ : ∃ I, I = rowB b ⟨A2, sc.n, c2⟩ lc := ⟨_, rfl⟩
  obtain ⟨T3, hT3⟩ : ∃ I, I = rowB b ⟨A3, sb.n, c3⟩ lb := ⟨_, rfl⟩
  obtain ⟨B1, hB1⟩ : ∃ B, B = Fct.blk g1 30 h.cells := ⟨_, rfl⟩
  obtain ⟨B2, hB2⟩ : ∃ B, B = Fct.blk g2 30 g.cells := ⟨_, rfl⟩
  obtain ⟨B3, hB3⟩ : ∃ B, B = Fct.blk g3 30 rA.v.cells := ⟨_, rfl⟩
  obtain ⟨B4, hB4⟩ : ∃ B, B = Fct.blk g4 30 rB.v.cells := ⟨_, rfl⟩
  obtain ⟨BF, hBF⟩ : ∃ B, B = B1 :: B2 :: B3 :: B4 :: T1 :: T2 :: T3 :: (IA ++ IB) := ⟨_, rfl⟩
  have H : Sep (Fct.rest w None :: BF) w14 := by
    refine H.perm ?_
    rw [hBF, hB1, hB2, hB3, hB4, hT1, hT2, hT3, hIA, hIB]
    exact perm_cnt fun c o h1 h2 h3 => by simp only [List.append_eq, List.cons_append, List.nil_append, h1, h2, h3]; omega
  /- all of it, as it lies -/
  have rd : ∀ {w' : World}, Sep (Fct.rest w None :: BF) w' → Ext w w' ∧ Blk w' g1 30 h.cells ∧ Blk w' g2 30 g.cells ∧ Blk w' g3 30 rA.v.cells ∧ Blk w' g4 30 rB.v.cells ∧ Ip6At w' rA.v rA.exts rA.data ∧ Ip6At w' rB.v rB.exts rB.data ∧ BytesAt w' ⟨A1, sb.n, c1⟩ lb ∧ BytesAt w' ⟨A2, sc.n, c2⟩ lc ∧ BytesAt w' ⟨A3, sb.n, c3⟩ lb := fun {w'} H => by
    have pick : ∀ {f : Fct}, f ∈ BF → f.φ w' := fun hm => H.mem (List.mem_cons_of_mem _ hm)
    refine ⟨H.restOf 0 rfl, ?_, ?_, ?_, ?_, ?_, ?_, ?_, ?_, ?_⟩
    · have := pick (f := B1) (by rw [hBF]; simp)
      rw [hB1] at this; exact this
    · have := pick (f := B2) (by rw [hBF]; simp)
      rw [hB2] at this; exact this
    · have := pick (f := B3) (by rw [hBF]; simp)
      rw [hB3] at this; exact this
    · have := pick (f := B4) (by rw [hBF]; simp)
      rw [hB4] at this; exact this
    · exact clone_at (b := b) hfA fun f hm => pick (by rw [hBF, hIA]; simp only [List.mem_cons, List.mem_append]; simp only [List.mem_cons] at hm; simp [hm])
    · exact clone_at (b := b) hfB fun f hm => pick (by rw [hBF, hIB]; simp only [List.mem_cons, List.mem_append]; simp only [List.mem_cons] at hm; simp [hm])
    · have := pick (f := T1) (by rw [hBF]; simp)
      rw [hT1] at this
      exact bytesAt_of this ⟨hC.small, hC.bts⟩
    · have := pick (f := T2) (by rw [hBF]; simp)
      rw [hT2] at this
      exact bytesAt_of this ⟨hD.small, hD.bts⟩
    · have := pick (f := T3) (by rw [hBF]; simp)
      rw [hT3] at this
      exact bytesAt_of this ⟨hC.small, hC.bts⟩
  have b3 := (rd H).2.2.2.2.2.2.2.2.2
  /- the document's answers -/
  refine (refParse_spec b3).mono ?_
  rintro _ w15 ⟨p1, x1, d1, rfl, hp1, at1, hE⟩
  have H := H.ext hE
  refine onRet_is (Ip6V.of p1 ⟨_, rfl, NewVC.sep (Sep.start0 w15) fun g8 w16 H7 => Stores.sep H7 1 rfl (Ip6V.one _) (Nat.le_refl _) (splice_all rfl) fun w17 H7 => ?_⟩)
  have hE := H7.restOf 0 rfl
  have b8 := H7.blk 1 rfl
  have H := H.ext hE
  have at1 := at1.ext hE
  clear H7
  refine copy_new (b := w17.heap.size) (Γ := []) (Sep.start0 w17) (Nat.le_refl _) (hD.ext (rd H).1) fun A4 c4 w19 H7 => ?_
  have hE := H7.restOf 0 rfl
  have b4 : BytesAt w19 ⟨A4, sc.n, c4⟩ lc := bytesAt_of (b := w17.heap.size) (H7.own 1 rfl) ⟨hD.small, hD.bts⟩
  have H := H.ext hE
  have at1 := at1.ext hE
  have b8 := b8.ext hE
  clear H7
  refine (refParse_spec b4).mono ?_
  rintro _ w20 ⟨p2, x2, d2, rfl, hp2, at2, hE⟩
  have H := H.ext hE
  have at1 := at1.ext hE
  have b8 := b8.ext hE
  refine onRet_is (Ip6V.of p2 ⟨_, rfl, NewVC.sep (Sep.start0 w20) fun g10 w21 H7 => Stores.sep H7 1 rfl (Ip6V.one _) (Nat.le_refl _) (splice_all rfl) fun w22 H7 => ?_⟩)
  have hE := H7.restOf 0 rfl
  have b10 := H7.blk 1 rfl
  have H := H.ext hE
  have at1 := at1.ext hE
  have at2 := at2.ext hE
  have b8 := b8.ext hE
  clear H7
  obtain ⟨u, q1, q2, q3, q4, q5, q6, q7, q8, _⟩ := rd H
  obtain ⟨L, hLd⟩ : ∃ L : LY, L = ⟨g1, g2, g3, g4, g8, g10, fun c => cond c g h, fun c => cond c eg eh, fun c => cond c dg dh, fun c => cond c rB rA, fun c => cond c sc sb, fun c => cond c ⟨A2, sc.n, c2⟩ ⟨A1, sb.n, c1⟩, fun c => cond c lc lb, fun c => cond c ⟨p2, x2, d2⟩ ⟨p1, x1, d1⟩⟩ := ⟨_, rfl⟩
  have hL : LYAt L w22 := by
    rw [hLd]
    refine ⟨q1, q2, q3, q4, b8, b10, fun c => ?_, fun c => ?_, fun c => ?_, fun c => ?_, fun c => ?_, fun c => ?_, fun c => ?_, hK.ext u⟩ <;> cases c
    · exact hA.ext u
    · exact hB.ext u
    · exact q5
    · exact q6
    · exact hAd
    · exact hBd
    · exact hC.ext u
    · exact hD.ext u
    · exact q7
    · exact q8
    · exact at1
    · exact at2
    · exact hp1
    · exact hp2
  refine Ip6V.of rA.v ⟨CellsAt.blk q3, Ip6V.of rB.v ⟨CellsAt.blk q4, ?_⟩⟩
  refine NewVC.sep (cs := (Ip6V.z : Ip6V).cells ++ (Ip6V.z : Ip6V).cells) (Sep.start0 w22) fun g11 w23 H => ?_
  refine Stores.sep (cs' := rA.v.cells ++ rB.v.cells) H 1 rfl (fun v hv => (List.mem_append.1 (show v ∈ rA.v.cells ++ rB.v.cells from hv)).elim (Ip6V.one rA.v v) (Ip6V.one rB.v v)) (Nat.le_refl _) (splice_all rfl) fun w24 H => ?_
  refine NewVC.sep (cs := [.slice none 0 0, .slice none 0 0]) H fun g12 w25 H => ?_
  refine Stores.sep (cs' := [(⟨A1, sb.n, c1⟩ : Sl).val] ++ [(⟨A2, sc.n, c2⟩ : Sl).val]) H 2 rfl (fun v hv => by simp at hv; rcases hv with rfl | rfl <;> rfl) (Nat.le_refl _) (splice_all rfl) fun w26 H => ?_
  have hE := H.restOf 0 rfl
  refine Ip6V.of p1 ⟨CellsAt.blk (b8.ext hE), Ip6V.of p2 ⟨CellsAt.blk (b10.ext hE), ?_⟩⟩
  refine NewVC.sep (cs := (Ip6V.z : Ip6V).cells ++ (Ip6V.z : Ip6V).cells) H fun g13 w27 H => ?_
  refine Stores.sep (cs' := p1.cells ++ p2.cells) H 3 rfl (fun v hv => (List.mem_append.1 (show v ∈ p1.cells ++ p2.cells from hv)).elim (Ip6V.one p1 v) (Ip6V.one p2 v)) (Nat.le_refl _) (splice_all rfl) fun w28 H => ?_
  refine NewVC.sep (cs := List.replicate 6 (.int .i64 0)) H fun g14 w29 H => ?_
  refine Stores.sep (cs' := wayV.map (.int .i64)) H 4 rfl (by simp [Value.oneCell']) (Nat.le_refl _) (splice_all rfl) fun w30 H => ?_
  have H : Sep [Fct.rest w22 None, Fct.blk g11 68 (rA.v.cells ++ rB.v.cells), Fct.blk g12 69 ([(⟨A1, sb.n, c1⟩ : Sl).val] ++ [(⟨A2, sc.n, c2⟩ : Sl).val]), Fct.blk g13 68 (p1.cells ++ p2.cells), Fct.blk g14 70 (wayV.map (.int .i64))] w30 := H
  have H := (H.nil w22.heap.size 30 44).nil w22.heap.size 22 1
  have H : Sep (Fct.rest w22 None :: lentF L w22.heap.size g11 g12 g13 g14 none 0 none 0 0 [] []) w30 := by
    rw [hLd]
    have p : ∀ (x1 x2 x3 x4 y1 y2 : Fct), [y2, y1, x1, x2, x3, x4].Perm [x1, x2, x3, x4, y1, y2] := fun x1 x2 x3 x4 y1 y2 => perm_cnt fun c o h1 h2 h3 => by simp only [h2, h3]; omega
    exact H.perm (.cons _ (p _ _ _ _ _ _))
  have := lent7_loop1 hL (Nat.le_refl _) H (R := fun e w' => e = .returned (.bool true) ∧ Ext w w') fun w' hE' => ⟨rfl, u.trans hE'⟩
  rw [hLd] at this
  exact this
end
end N6
end Go.Proofs.YtkiogaglmjeplaaDoor
