/- Pieces of many datagrams: their memory in parts; what SplitLent stands on. -/
import Derived.Test.YteppichfkeknbaaGreatDoorDm
import Derived.Test.YteppichfkeknbaaGreatDoorDn
import Derived.Test.YteppichfkeknbaaGreatDoorCc
namespace Go.Eng
open Go Go.RowKit
def flat4 (Q : List (Sl × List Ip4R)) : List Ip4R := Q.flatMap fun q => q.2
def flat6 (Q : List (Sl × List Ip6R)) : List Ip6R := Q.flatMap fun q => q.2
theorem flat4_snoc (Q : List (Sl × List Ip4R)) (q : Sl × List Ip4R) : flat4 (Q ++ [q]) = flat4 Q ++ q.2 := by unfold flat4; rw [List.flatMap_append]; simp
theorem flat6_snoc (Q : List (Sl × List Ip6R)) (q : Sl × List Ip6R) : flat6 (Q ++ [q]) = flat6 Q ++ q.2 := by unfold flat6; rw [List.flatMap_append]; simp
def grI4 (q : Sl × List Ip4R) : GR := ⟨q.1.A, q.1.n, q.1.k, (q.2.map fun r => r.v.cells).flatten⟩
def grI6 (q : Sl × List Ip6R) : GR := ⟨q.1.A, q.1.n, q.1.k, (q.2.map fun r => r.v.cells).flatten⟩
theorem rows4_app (a b : List Ip4R) : rows4 (a ++ b) = rows4 a ++ rows4 b := by unfold rows4; rw [List.flatMap_append]
theorem rows6_app (a b : List Ip6R) : rows6 (a ++ b) = rows6 a ++ rows6 b := by unfold rows6; rw [List.flatMap_append]
theorem flatMap_len {α β : Type} {f : α → List β} {B : Nat} : ∀ (l : List α), (∀ x ∈ l, (f x).length ≤ B) → (l.flatMap f).length ≤ l.length * B
  | [], _ => by simp
  | x :: l, h => by
    have h1 := flatMap_len l fun y hy => h y (by simp [hy])
    have h2 := h x (by simp)
    rw [List.flatMap_cons, List.length_append, List.length_cons, Nat.add_mul, Nat.one_mul]
    omega
theorem rows4_flat (Q : List (Sl × List Ip4R)) : rows4 (flat4 Q) = Q.flatMap fun q => rows4 q.2 := by unfold rows4 flat4; rw [List.flatMap_assoc]
theorem rows6_flat (Q : List (Sl × List Ip6R)) : rows6 (flat6 Q) = Q.flatMap fun q => rows6 q.2 := by unfold rows6 flat6; rw [List.flatMap_assoc]
def wy (i : Nat) : Bool := i == 2 || i == 3 || i == 5
def wayV : List Int := [0, 0, 1, 1, 0, 1]
def wyN (i : Nat) : Nat := if wy i then 1 else 0
theorem wy_at : ∀ i : Fin 6, wayV[i.val]? = some ((wyN i.val : Nat) : Int) := by decide
structure LX where
  g1 : Nat
  g2 : Nat
  g3 : Nat
  g4 : Nat
  hv : Bool → Ip4V
  ov : Bool → List OptR
  dv : Bool → List Int
  gv : Bool → Ip6V
  ev : Bool → List ExtR
  tv : Bool → List Int
  s4 : Bool → Sl
  r4 : Bool → List Ip4R
  s6 : Bool → Sl
  r6 : Bool → List Ip6R
  mtu : Int
  id : Int
def LX.d4 (L : LX) (c : Bool) : List Ip4D := (split4S ((L.hv c).d (L.ov c) (L.dv c)) L.mtu).1
def LX.d6 (L : LX) (c : Bool) : List Ip6D := (split6S ((L.gv c).d (L.ev c) (L.tv c)) L.mtu L.id).1
end Go.Eng
namespace Go.Proofs.YteppichfkeknbaaGreatDoor
namespace N6
open Go.Eng Go.RowKit
theorem allX_app (a b : List Ip6R) : allX (a ++ b) = allX a ++ allX b := by unfold allX; rw [List.flatMap_append]
theorem allX_flat (Q : List (Sl × List Ip6R)) : allX (flat6 Q) = Q.flatMap fun q => allX q.2 := by unfold allX flat6; rw [List.flatMap_assoc]
/-- The arguments, and what the document says of them. -/
structure LXAt (L : LX) (w : World) : Prop where
  b1 : Blk w L.g1 28 (L.hv false).cells
  b2 : Blk w L.g2 28 (L.hv true).cells
  b3 : Blk w L.g3 33 (L.gv false).cells
  b4 : Blk w L.g4 33 (L.gv true).cells
  a : ∀ c, Ip4At w (L.hv c) (L.ov c) (L.dv c)
  b : ∀ c, Ip6At w (L.gv c) (L.ev c) (L.tv c)
  p : ∀ c, Ip4sAt w (L.s4 c) (L.r4 c)
  pe : ∀ c, (L.r4 c).map Ip4R.d = L.d4 c
  q : ∀ c, Ip6sAt w (L.s6 c) (L.r6 c)
  qe : ∀ c, (L.r6 c).map Ip6R.d = L.d6 c
  k : Kn w
section
variable {w w' : World} {L : LX} {Γ : List Fct} {b n : Nat} {Q : List (Sl × List Ip4R)} {P : List (Sl × List Ip6R)}
theorem LXAt.ext (h : LXAt L w) (hE : Ext w w') : LXAt L w' := ⟨h.b1.ext hE, h.b2.ext hE, h.b3.ext hE, h.b4.ext hE, fun c => (h.a c).ext hE, fun c => (h.b c).ext hE, fun c => (h.p c).ext hE, h.pe, fun c => (h.q c).ext hE, h.qe, h.k.ext hE⟩
/-- The pieces of the first n questions. -/
structure Fams (L : LX) (Q : List (Sl × List Ip4R)) (P : List (Sl × List Ip6R)) (n : Nat) : Prop where
  l4 : Q.length = n
  l6 : P.length = n
  f4 : ∀ (j : Nat) (q : Sl × List Ip4R), Q[j]? = some q → Ip4sFine q.1 q.2 ∧ q.2.map Ip4R.d = L.d4 (wy j)
  f6 : ∀ (j : Nat) (q : Sl × List Ip6R), P[j]? = some q → Ip6sFine q.1 q.2 ∧ q.2.map Ip6R.d = L.d6 (wy j)
theorem Fams.mem4 (h : Fams L Q P n) {q : Sl × List Ip4R} (hq : q ∈ Q) : Ip4sFine q.1 q.2 ∧ q.2.length ≤ 8193 ∧ (rows4 q.2).length ≤ 8193 * 4000001 ∧ ∀ x ∈ rows4 q.2, x.n ≤ 4000000 := by
  obtain ⟨j, hj⟩ := List.getElem?_of_mem hq
  obtain ⟨h1, h2⟩ := h.f4 j q hj
  exact ⟨h1, four_few h1 h2⟩
theorem Fams.mem6 (h : Fams L Q P n) {q : Sl × List Ip6R} (hq : q ∈ P) : Ip6sFine q.1 q.2 ∧ q.2.length ≤ 8193 ∧ (rows6 q.2).length ≤ 8193 * 32000009 ∧ (∀ x ∈ rows6 q.2, x.n ≤ 4000000) ∧ (allX q.2).length ≤ 65544 := by
  obtain ⟨j, hj⟩ := List.getElem?_of_mem hq
  obtain ⟨h1, h2⟩ := h.f6 j q hj
  exact ⟨h1, six_few h1 h2⟩
theorem Fams.len4 (h : Fams L Q P n) (hn : n ≤ 6) (i : Nat) : (flat4 (Q.take i)).length ≤ 49158 ∧ (rows4 (flat4 (Q.take i))).length ≤ 6 * (8193 * 4000001) := by
  have hl : (Q.take i).length ≤ 6 := by have := h.l4; rw [List.length_take]; omega
  constructor
  · have := flatMap_len (f := fun q : Sl × List Ip4R => q.2) (B := 8193) (Q.take i) fun q hq => (h.mem4 (List.mem_of_mem_take hq)).2.1
    unfold flat4
    omega
  · rw [rows4_flat]
    obtain ⟨B, hB⟩ : ∃ B : Nat, B = 8193 * 4000001 := ⟨_, rfl⟩
    have h1 := flatMap_len (f := fun q : Sl × List Ip4R => rows4 q.2) (B := B) (Q.take i) fun q hq => by rw [hB]; exact (h.mem4 (List.mem_of_mem_take hq)).2.2.1
    have h2 : (Q.take i).length * B ≤ 6 * B := Nat.mul_le_mul_right _ hl
    omega
theorem Fams.len6 (h : Fams L Q P n) (hn : n ≤ 6) (i : Nat) : (flat6 (P.take i)).length ≤ 49158 ∧ (rows6 (flat6 (P.take i))).length ≤ 6 * (8193 * 32000009) ∧ (allX (flat6 (P.take i))).length ≤ 393264 := by
  have hl : (P.take i).length ≤ 6 := by have := h.l6; rw [List.length_take]; omega
  refine ⟨?_, ?_, ?_⟩
  · have := flatMap_len (f := fun q : Sl × List Ip6R => q.2) (B := 8193) (P.take i) fun q hq => (h.mem6 (List.mem_of_mem_take hq)).2.1
    unfold flat6
    omega
  · rw [rows6_flat]
    obtain ⟨B, hB⟩ : ∃ B : Nat, B = 8193 * 32000009 := ⟨_, rfl⟩
    have h1 := flatMap_len (f := fun q : Sl × List Ip6R => rows6 q.2) (B := B) (P.take i) fun q hq => by rw [hB]; exact (h.mem6 (List.mem_of_mem_take hq)).2.2.1
    have h2 : (P.take i).length * B ≤ 6 * B := Nat.mul_le_mul_right _ hl
    omega
  · rw [allX_flat]
    have := flatMap_len (f := fun q : Sl × List Ip6R => allX q.2) (B := 65544) (P.take i) fun q hq => (h.mem6 (List.mem_of_mem_take hq)).2.2.2.2
    omega
def fam4 (b : Nat) (Q : List (Sl × List Ip4R)) : List Fct := Q.flatMap fun q => ip4Fs b q.1 q.2
def fam6 (b : Nat) (P : List (Sl × List Ip6R)) : List Fct := P.flatMap fun q => ip6Fs b q.1 q.2
theorem fam4_snoc (b : Nat) (Q : List (Sl × List Ip4R)) (q : Sl × List Ip4R) : fam4 b (Q ++ [q]) = fam4 b Q ++ ip4Fs b q.1 q.2 := by unfold fam4; rw [List.flatMap_append]; simp
theorem fam6_snoc (b : Nat) (Q : List (Sl × List Ip6R)) (q : Sl × List Ip6R) : fam6 b (Q ++ [q]) = fam6 b Q ++ ip6Fs b q.1 q.2 := by unfold fam6; rw [List.flatMap_append]; simp
theorem fam4_at (h : ∀ f ∈ fam4 b Q, f.φ w) {q : Sl × List Ip4R} (hq : q ∈ Q) (hf : Ip4sFine q.1 q.2) : Ip4sAt w q.1 q.2 :=
  ip4sAt_of (b := b) (fun f hm => h f (List.mem_flatMap.2 ⟨q, hq, hm⟩)) hf
theorem fam6_at (h : ∀ f ∈ fam6 b P, f.φ w) {q : Sl × List Ip6R} (hq : q ∈ P) (hf : Ip6sFine q.1 q.2) : Ip6sAt w q.1 q.2 :=
  ip6sAt_of (b := b) (fun f hm => h f (List.mem_flatMap.2 ⟨q, hq, hm⟩)) hf
def famI4 (b : Nat) (Q : List (Sl × List Ip4R)) : List Fct := Q.map fun q => rowI4 b q.1 q.2
def famI6 (b : Nat) (P : List (Sl × List Ip6R)) : List Fct := P.map fun q => rowI6 b q.1 q.2
def famO4 (b : Nat) (rs : List Ip4R) : List Fct := rs.map fun r => rwO b (grO r.v.opts r.opts)
def famE6 (b : Nat) (rs : List Ip6R) : List Fct := rs.map fun r => rwE b (grE r.v.exts r.exts)
def famO6 (b : Nat) (rs : List Ip6R) : List Fct := (allX rs).map fun x => rwO b (grO x.v.opts x.opts)
theorem fam_four : ∀ (Q : List (Sl × List Ip4R)) {Γ : List Fct}, Sep (Γ ++ fam4 b Q) w → Sep (Γ ++ (famI4 b Q ++ (famO4 b (flat4 Q) ++ (rows4 (flat4 Q)).map (rwB b)))) w
  | [], Γ, H => H
  | q :: Q, Γ, H => by
    have H : Sep (Γ ++ (ip4Fs b q.1 q.2 ++ fam4 b Q)) w := H
    have H := H.perm (Γ' := (Γ ++ fam4 b Q) ++ ip4Fs b q.1 q.2) (perm_cnt fun c o h1 h2 h3 => by simp only [h1]; omega)
    have H := split_four H
    obtain ⟨O, hO⟩ : ∃ O, O = q.2.map (fun r => rwO b (grO r.v.opts r.opts)) := ⟨_, rfl⟩
    obtain ⟨B, hB⟩ : ∃ B, B = (rows4 q.2).map (rwB b) := ⟨_, rfl⟩
    rw [← hO, ← hB] at H
    have H := fam_four Q (Γ := Γ ++ (rowI4 b q.1 q.2 :: (O ++ B))) (H.perm (perm_cnt fun c o h1 h2 h3 => by simp only [h1, h2]; omega))
    have e1 : famI4 b (q :: Q) = rowI4 b q.1 q.2 :: famI4 b Q := rfl
    have e2 : famO4 b (flat4 (q :: Q)) = O ++ famO4 b (flat4 Q) := by
      rw [hO]
      show famO4 b (q.2 ++ flat4 Q) = _
      unfold famO4
      rw [List.map_append]
    have e3 : (rows4 (flat4 (q :: Q))).map (rwB b) = B ++ (rows4 (flat4 Q)).map (rwB b) := by
      rw [hB]
      show (rows4 (q.2 ++ flat4 Q)).map (rwB b) = _
      rw [rows4_app, List.map_append]
    rw [e1, e2, e3]
    exact H.perm (perm_cnt fun c o h1 h2 h3 => by simp only [h1, h2]; omega)
theorem fam_six : ∀ (Q : List (Sl × List Ip6R)) {Γ : List Fct}, Sep (Γ ++ fam6 b Q) w → Sep (Γ ++ (famI6 b Q ++ (famE6 b (flat6 Q) ++ (famO6 b (flat6 Q) ++ (rows6 (flat6 Q)).map (rwB b))))) w
  | [], Γ, H => H
  | q :: Q, Γ, H => by
    have H : Sep (Γ ++ (ip6Fs b q.1 q.2 ++ fam6 b Q)) w := H
    have H := H.perm (Γ' := (Γ ++ fam6 b Q) ++ ip6Fs b q.1 q.2) (perm_cnt fun c o h1 h2 h3 => by simp only [h1]; omega)
    have H := split_six H
    obtain ⟨E, hE⟩ : ∃ E, E = q.2.map (fun r => rwE b (grE r.v.exts r.exts)) := ⟨_, rfl⟩
    obtain ⟨O, hO⟩ : ∃ O, O = (allX q.2).map (fun x => rwO b (grO x.v.opts x.opts)) := ⟨_, rfl⟩
    obtain ⟨B, hB⟩ : ∃ B, B = (rows6 q.2).map (rwB b) := ⟨_, rfl⟩
    rw [← hE, ← hO, ← hB] at H
    have H := fam_six Q (Γ := Γ ++ (rowI6 b q.1 q.2 :: (E ++ (O ++ B)))) (H.perm (perm_cnt fun c o h1 h2 h3 => by simp only [h1, h2]; omega))
    have e1 : famI6 b (q :: Q) = rowI6 b q.1 q.2 :: famI6 b Q := rfl
    have e2 : famE6 b (flat6 (q :: Q)) = E ++ famE6 b (flat6 Q) := by
      rw [hE]
      show famE6 b (q.2 ++ flat6 Q) = _
      unfold famE6
      rw [List.map_append]
    have e4 : famO6 b (flat6 (q :: Q)) = O ++ famO6 b (flat6 Q) := by
      rw [hO]
      show famO6 b (q.2 ++ flat6 Q) = _
      unfold famO6
      rw [allX_app, List.map_append]
    have e3 : (rows6 (flat6 (q :: Q))).map (rwB b) = B ++ (rows6 (flat6 Q)).map (rwB b) := by
      rw [hB]
      show (rows6 (q.2 ++ flat6 Q)).map (rwB b) = _
      rw [rows6_app, List.map_append]
    rw [e1, e2, e3, e4]
    exact H.perm (perm_cnt fun c o h1 h2 h3 => by simp only [h1, h2]; omega)
end
end N6
end Go.Proofs.YteppichfkeknbaaGreatDoor
/- SplitLent: the lists of all pieces, and what follows. -/
namespace Go.Eng
open Go Go.RowKit
theorem stood_y {w : World} {mk : Nat → List Value} {r0 gs : List GR} {D : List Fct} {n : Nat} (st : StoodG mk mk 70 r0 gs D n) (hD : ∀ f ∈ D, f.φ w) (hl : r0.length = n) (hg : gs.length = n) (hm : ∀ r ∈ r0, r.n ≤ 4000001) :
    (∀ g ∈ gs, g.n ≤ 4000100) ∧ ∀ (j : Nat) (g : GR), gs[j]? = some g → Cells w g.A (reps g.n (mk j)) := by
  have key : ∀ (j : Nat) (g : GR), gs[j]? = some g → g.n ≤ 4000100 ∧ Cells w g.A (reps g.n (mk j)) := fun j g hj => by
    have hlt := (List.getElem?_eq_some_iff.1 hj).1
    obtain ⟨r, hr⟩ : ∃ r, r0[j]? = some r := ⟨_, List.getElem?_eq_getElem (by omega)⟩
    obtain ⟨_, g', hg', hn, hc⟩ := st w hD j r (by omega) hr
    rw [hj] at hg'
    injection hg' with hg'
    subst hg'
    have := hm r (List.mem_of_getElem? hr)
    refine ⟨by omega, ?_⟩
    rw [hn, reps_add]; exact hc
  exact ⟨fun g hm' => by obtain ⟨j, hj⟩ := List.getElem?_of_mem hm'; exact (key j g hj).1, fun j g hj => (key j g hj).2⟩
end Go.Eng
namespace Go.Proofs.YteppichfkeknbaaGreatDoor
namespace N6
open Go.Eng Go.RowKit
section
variable {w w8 : World} {L : LX} {FX : List Fct} {b g5 fc sc : Nat} {FA SA : Option Addr} {Q : List (Sl × List Ip4R)} {P : List (Sl × List Ip6R)}
theorem one4 (rs : List Ip4R) : ∀ v ∈ (rs.map fun r => r.v.cells).flatten, v.oneCell' = true := fun v hv => by
  obtain ⟨l, hl, hv⟩ := List.mem_flatten.1 hv
  obtain ⟨r, _, rfl⟩ := List.mem_map.1 hl
  exact Ip4V.one _ v hv
theorem one6 (rs : List Ip6R) : ∀ v ∈ (rs.map fun r => r.v.cells).flatten, v.oneCell' = true := fun v hv => by
  obtain ⟨l, hl, hv⟩ := List.mem_flatten.1 hv
  obtain ⟨r, _, rfl⟩ := List.mem_map.1 hl
  exact Ip6V.one _ v hv
/-- What is read of the lists that were handed out. -/
structure LentG (FX : List Fct) (w8 : World) (g5 fc sc : Nat) (FA SA : Option Addr) (Q : List (Sl × List Ip4R)) (P : List (Sl × List Ip6R)) : Prop where
  h0 : FX[0]? = some (Fct.rest w8 None)
  x0 : ∀ w', (∀ f ∈ FX, f.φ w') → w'.cell? ⟨g5, 0, none⟩ = some (.slice FA 6 fc) ∧ Cells w' FA ((Q.map grI4).map GR.val)
  x1 : ∀ w', (∀ f ∈ FX, f.φ w') → w'.cell? ((⟨g5, 0, none⟩ : Addr).add 1) = some (.slice SA 6 sc) ∧ Cells w' SA ((P.map grI6).map GR.val)
theorem LentG.ext (h : LentG FX w8 g5 fc sc FA SA Q P) {Y : List Fct} {w' : World} (H : Sep (FX ++ Y) w') : Ext w8 w' := H.restOf 0 (by rw [List.getElem?_append_left (List.getElem?_eq_some_iff.1 h.h0).1]; exact h.h0)
theorem LentG.more (h : LentG FX w8 g5 fc sc FA SA Q P) (Y : List Fct) : LentG (FX ++ Y) w8 g5 fc sc FA SA Q P :=
  ⟨by rw [List.getElem?_append_left (List.getElem?_eq_some_iff.1 h.h0).1]; exact h.h0, fun w' H => h.x0 w' fun f hf => H f (List.mem_append_left _ hf), fun w' H => h.x1 w' fun f hf => H f (List.mem_append_left _ hf)⟩
theorem famI4_raw (b : Nat) (Q : List (Sl × List Ip4R)) : AllLe (famI4 b Q) ((Q.map grI4).map (rawR b 28 43)) := by
  rw [List.map_map]
  exact AllLe.map Q fun q _ => own_le_row (A := q.1.A) (n := q.1.n) (c := q.1.k) (Nat.le_refl b)
theorem famI6_raw (b : Nat) (P : List (Sl × List Ip6R)) : AllLe (famI6 b P) ((P.map grI6).map (rawR b 33 44)) := by
  rw [List.map_map]
  exact AllLe.map P fun q _ => own_le_row (A := q.1.A) (n := q.1.n) (c := q.1.k) (Nat.le_refl b)
set_option maxHeartbeats 8000000 in
theorem lent_loop4 (hG : LentG FX w8 g5 fc sc FA SA Q P) (hF : Fams L Q P 6) (hL : LXAt L w8) (hb : b ≤ w8.heap.size) {bytesA MA : Option Addr} {bn bc mc : Nat} {rows gs : List GR}
    (hst : ∀ w', (∀ f ∈ FX, f.φ w') → Cells w' bytesA (rows.map GR.val) ∧ Cells w' MA (gs.map GR.val) ∧ ReadsB w' rows gs) (hrl : rows.length = bn) (hgl : gs.length = 3 * bn) (hbs : bn ≤ 1900000000000) (hsm : ∀ r ∈ rows, r.n ≤ 4000000)
    (H : Sep (FX ++ (famI4 b Q ++ (famI6 b P ++ (famO4 b (flat4 Q) ++ (famO6 b (flat6 P) ++ famE6 b (flat6 P)))))) w) {R : Ending → World → Prop} (hR : ∀ w', Ext w8 w' → R (.returned (.bool true)) w') :
    LoopVC (S := (Option Addr × Nat × Nat) × (Option Addr × Nat × Nat) × Int) (fun s_ w39 K => weirlaw13_SplitLent_L2097146 R L.mtu L.id L.g1 L.g2 L.g3 L.g4 (L.s4 false).A (L.s4 false).n (L.s4 false).k (L.s4 true).A (L.s4 true).n (L.s4 true).k (L.s6 false).A (L.s6 false).n (L.s6 false).k (L.s6 true).A (L.s6 true).n (L.s6 true).k g5 bytesA bn bc MA (3 * bn) mc s_.1.1 s_.1.2.1 s_.1.2.2 s_.2.1.1 s_.2.1.2.1 s_.2.1.2.2 s_.2.2 w39 K) ((none, 0, 0), (none, 0, 0), 0) w := by
  obtain ⟨X, hX⟩ : ∃ X, X = famI4 b Q ++ (famI6 b P ++ (famO4 b (flat4 Q) ++ (famO6 b (flat6 P) ++ famE6 b (flat6 P)))) := ⟨_, rfl⟩
  rw [← hX] at H
  refine LoopVC.of (fun st w' => ∃ i : Nat, st.2.2 = (i : Int) ∧ i ≤ 6 ∧ st.1.2.1 = (flat4 (Q.take i)).length ∧ st.2.1.2.1 = (flat6 (P.take i)).length ∧
      Sep (Fct.own b 28 43 (.slice st.1.1 st.1.2.1 st.1.2.2) st.1.2.1 ((flat4 (Q.take i)).map fun r => r.v.cells).flatten :: Fct.own b 33 44 (.slice st.2.1.1 st.2.1.2.1 st.2.1.2.2) st.2.1.2.1 ((flat6 (P.take i)).map fun r => r.v.cells).flatten :: (FX ++ X)) w') (fun st _ => ((6 : Int) - st.2.2).toNat)
    ⟨0, rfl, by decide, rfl, rfl, ((H.nil b 33 44).front.nil b 28 43).front⟩ ?_
  rintro ⟨⟨A4, n4, c4⟩, ⟨A6, n6, c6⟩, _⟩ w1 ⟨i, rfl, hi, h4, h6, H⟩
  simp only at h4 h6
  have H : Sep (Fct.own b 28 43 (.slice A4 n4 c4) n4 ((flat4 (Q.take i)).map fun r => r.v.cells).flatten :: Fct.own b 33 44 (.slice A6 n6 c6) n6 ((flat6 (P.take i)).map fun r => r.v.cells).flatten :: (FX ++ X)) w1 := H
  show weirlaw13_SplitLent_L2097146 R L.mtu L.id L.g1 L.g2 L.g3 L.g4 _ _ _ _ _ _ _ _ _ _ _ _ g5 bytesA bn bc MA (3 * bn) mc A4 n4 c4 A6 n6 c6 (i : Int) w1 _
  unfold weirlaw13_SplitLent_L2097146
  obtain ⟨f4a, f4b⟩ := hF.len4 (Nat.le_refl _) i
  obtain ⟨f6a, f6b, f6c⟩ := hF.len6 (Nat.le_refl _) i
  refine Br.dec (fun hlt => ?_) fun hge => ?_
  · obtain ⟨q, hq⟩ : ∃ q, Q[i]? = some q := ⟨_, List.getElem?_eq_getElem (by have := hF.l4; omega)⟩
    obtain ⟨p, hp⟩ : ∃ p, P[i]? = some p := ⟨_, List.getElem?_eq_getElem (by have := hF.l6; omega)⟩
    have e1 : IntKind.i64.wrap ((i : Int) + 1) = ((i + 1 : Nat) : Int) := by rw [w64 (by omega) (by omega)]; omega
    have gx : ∀ {f1 f2 : Fct} {w' : World}, Sep (f1 :: f2 :: (FX ++ X)) w' → (∀ f ∈ FX, f.φ w') ∧ (rowI4 b q.1 q.2).φ w' ∧ (rowI6 b p.1 p.2).φ w' ∧ b ≤ w'.heap.size := fun {f1 f2 w'} H => by
      have H := H.tail.tail
      refine ⟨fun f hf => H.mem (List.mem_append_left _ hf), H.mem (List.mem_append_right _ ?_), H.mem (List.mem_append_right _ ?_), Nat.le_trans hb (hG.ext H).size⟩
      · rw [hX]; exact List.mem_append_left _ (List.mem_map.2 ⟨q, List.mem_of_getElem? hq, rfl⟩)
      · rw [hX]; exact List.mem_append_right _ (List.mem_append_left _ (List.mem_map.2 ⟨p, List.mem_of_getElem? hp, rfl⟩))
    obtain ⟨m1, m2, m3⟩ := hF.mem4 (List.mem_of_getElem? hq)
    obtain ⟨m4, m5, m6⟩ := hF.mem6 (List.mem_of_getElem? hp)
    have m7 := m1.len
    have m8 := m4.len
    obtain ⟨fx, o4, o6, hz⟩ := gx H
    have hx0 := hG.x0 w1 fx
    refine ⟨⟨g5, 0, none⟩, rfl, _, _, _, hx0.1, ?_⟩
    refine idx_rows hx0.2 (r := grI4 q) (by rw [List.getElem?_map, hq]; rfl) (by rw [List.length_map]; exact hF.l4) fun a ha => ⟨_, _, _, ha, ?_⟩
    refine AppVC.sep (m := q.1.n) H 0 Tryz.underlying34 tI4 rfl (by decide) rfl (own_cells (A := q.1.A) (c := q.1.k) o4) o4.1 (one4 q.2) (by omega) (by decide) hz fun A4' c4' w2 H _ => ?_
    have H : Sep (Fct.own b 28 43 (.slice A4' (n4 + q.1.n) c4') (n4 + q.1.n) (((flat4 (Q.take i)).map fun r => r.v.cells).flatten ++ (q.2.map fun r => r.v.cells).flatten) :: Fct.own b 33 44 (.slice A6 n6 c6) n6 ((flat6 (P.take i)).map fun r => r.v.cells).flatten :: (FX ++ X)) w2 := H
    obtain ⟨fx, o4, o6, hz⟩ := gx H
    have hx1 := hG.x1 w2 fx
    refine ⟨⟨g5, 0, none⟩, rfl, _, _, _, hx1.1, ?_⟩
    refine idx_rows hx1.2 (r := grI6 p) (by rw [List.getElem?_map, hp]; rfl) (by rw [List.length_map]; exact hF.l6) fun a ha => ⟨_, _, _, ha, ?_⟩
    refine AppVC.sep (m := p.1.n) H 1 Tryz.underlying37 tI6 rfl (by decide) rfl (own_cells (A := p.1.A) (c := p.1.k) o6) o6.1 (one6 p.2) (by omega) (by decide) hz fun A6' c6' w3 H _ => ?_
    refine ⟨⟨i + 1, e1, by omega, ?_, ?_, ?_⟩, by simp only [e1]; omega⟩
    · show n4 + q.1.n = _
      rw [take_snocA hq, flat4_snoc, List.length_append, m7, h4]
    · show n6 + p.1.n = _
      rw [take_snocA hp, flat6_snoc, List.length_append, m8, h6]
    · rw [take_snocA hq, flat4_snoc, take_snocA hp, flat6_snoc, List.map_append, List.flatten_append, List.map_append, List.flatten_append]
      exact H
  have hi6 : i = 6 := by omega
  subst hi6
  have hq6 : Q.take 6 = Q := List.take_of_length_le (by have := hF.l4; omega)
  have hp6 : P.take 6 = P := List.take_of_length_le (by have := hF.l6; omega)
  rw [hq6] at h4 H f4a f4b
  rw [hp6] at h6 H f6a f6b f6c
  obtain ⟨WA, hWA⟩ : ∃ W, W = Fct.own b 28 43 (.slice A4 n4 c4) n4 ((flat4 Q).map fun r => r.v.cells).flatten := ⟨_, rfl⟩
  obtain ⟨WE, hWE⟩ : ∃ W, W = Fct.own b 33 44 (.slice A6 n6 c6) n6 ((flat6 P).map fun r => r.v.cells).flatten := ⟨_, rfl⟩
  rw [← hWA, ← hWE, hX] at H
  obtain ⟨I4, hI4⟩ : ∃ I, I = famI4 b Q := ⟨_, rfl⟩
  obtain ⟨I6, hI6⟩ : ∃ I, I = famI6 b P := ⟨_, rfl⟩
  obtain ⟨O4, hO4⟩ : ∃ I, I = famO4 b (flat4 Q) := ⟨_, rfl⟩
  obtain ⟨O6, hO6⟩ : ∃ I, I = famO6 b (flat6 P) := ⟨_, rfl⟩
  obtain ⟨E6, hE6⟩ : ∃ I, I = famE6 b (flat6 P) := ⟨_, rfl⟩
  rw [← hI4, ← hI6, ← hO4, ← hO6, ← hE6] at H
  have hr4 : ∀ w', (∀ f ∈ FX ++ [WA, WE], f.φ w') → Recs w' A4 43 ((flat4 Q).map fun r => r.v.cells) := fun w' h => by
    have := h WA (by simp)
    rw [hWA] at this
    exact Recs.of_cells (by decide) (fun r hr => by obtain ⟨y, _, rfl⟩ := List.mem_map.1 hr; rfl) (own_cells this)
  have hr6 : ∀ w', (∀ f ∈ FX ++ [WA, WE], f.φ w') → Recs w' A6 44 ((flat6 P).map fun r => r.v.cells) := fun w' h => by
    have := h WE (by simp)
    rw [hWE] at this
    exact Recs.of_cells (by decide) (fun r hr => by obtain ⟨y, _, rfl⟩ := List.mem_map.1 hr; rfl) (own_cells this)
  obtain ⟨FY, hFY⟩ : ∃ FY, FY = FX ++ [WA, WE] := ⟨_, rfl⟩
  rw [← hFY] at hr4 hr6
  have hG' : LentG FY w8 g5 fc sc FA SA Q P := by rw [hFY]; exact hG.more _
  have hst' : ∀ w', (∀ f ∈ FY, f.φ w') → Cells w' bytesA (rows.map GR.val) ∧ Cells w' MA (gs.map GR.val) ∧ ReadsB w' rows gs := fun w' h => hst w' fun f hf => h f (by rw [hFY]; exact List.mem_append_left _ hf)
  have hY0 : ∀ Y : List Fct, (FY ++ Y)[0]? = some (Fct.rest w8 None) := fun Y => (hG'.more Y).h0
  have sub : ∀ {Y : List Fct} {w' : World}, (∀ f ∈ FY ++ Y, f.φ w') → ∀ f ∈ FY, f.φ w' := fun h f hf => h f (List.mem_append_left _ hf)
  have H : Sep ((FY ++ (I4 ++ (I6 ++ (O6 ++ E6)))) ++ ((flat4 Q).map fun r => grO r.v.opts r.opts).map (rawR b 100 2)) w1 := by
    have e : ((flat4 Q).map fun r => grO r.v.opts r.opts).map (rawR b 100 2) = O4 := by rw [hO4, List.map_map]; rfl
    rw [e, hFY]
    exact H.perm (perm_cnt fun c o h1 h2 h3 => by simp only [h1, h2, h3]; omega)
  refine (own4_lists (lA := A4) (ln := n4) (lc := c4) H (hY0 _) hb (fun w' hf j r F hj hF' => ?_) (by rw [List.length_map]; exact h4.symm) (by omega) (fun r hr => ?_)).mono ?_
  · rw [List.getElem?_map] at hj
    cases hx : (flat4 Q)[j]? with
    | none => rw [hx] at hj; cases hj
    | some x =>
      rw [hx] at hj
      injection hj with hj
      subst hj
      exact IdxVC.recD (w := w') (fun w3 => w3 = w') rfl (fun w3 e => by rw [e]; exact hr4 w' (sub hf)) (by rw [List.length_map]; exact h4.symm) (cs := x.v.cells) (by rw [List.getElem?_map, hx]; rfl) fun a ha => hF' a (cells_get (ha w' rfl) 41 rfl)
  · obtain ⟨x, hx, rfl⟩ := List.mem_map.1 hr
    obtain ⟨q, hq, hx⟩ := List.mem_flatMap.1 hx
    exact (((hF.mem4 hq).1).each x hx).opts.small
  rintro _ w42 ⟨rfl, Δ, H⟩
  refine ⟨_, rfl, ?_⟩
  have H : Sep ((FY ++ (I4 ++ (I6 ++ Δ))) ++ (O6 ++ E6)) w42 := H.perm (perm_cnt fun c o h1 h2 h3 => by simp only [h1]; omega)
  rw [hO6, hE6] at H
  refine (own6_spec (s := ⟨A6, n6, c6⟩) (rs := flat6 P) H (hY0 _) hb (fun w' hf => hr6 w' (sub hf)) h6.symm (show n6 ≤ 4000001 by omega) (fun r hr => ?_) (by omega) (fun w' hf r hr => ?_)).mono ?_
  · obtain ⟨q, hq, hx⟩ := List.mem_flatMap.1 hr
    exact (((hF.mem6 hq).1).each r hx).exts
  · have := hf (rwE b (grE r.v.exts r.exts)) (List.mem_append_right _ (List.mem_map.2 ⟨r, hr, rfl⟩))
    exact Recs.of_cells (by decide) (fun r hr => by obtain ⟨y, _, rfl⟩ := List.mem_map.1 hr; rfl) (Row.cells this)
  rintro _ w43 ⟨rfl, Δ', H⟩
  refine ⟨_, rfl, ?_⟩
  obtain ⟨FZ, hFZ⟩ : ∃ FZ, FZ = FY ++ (Δ ++ Δ') := ⟨_, rfl⟩
  have H : Sep (FZ ++ (I4 ++ I6)) w43 := by rw [hFZ]; exact H.perm (perm_cnt fun c o h1 h2 h3 => by simp only [h1]; omega)
  have hG2 : LentG FZ w8 g5 fc sc FA SA Q P := by rw [hFZ]; exact hG'.more _
  have hst2 : ∀ w', (∀ f ∈ FZ, f.φ w') → Cells w' bytesA (rows.map GR.val) ∧ Cells w' MA (gs.map GR.val) ∧ ReadsB w' rows gs := fun w' h => hst' w' fun f hf => h f (by rw [hFZ]; exact List.mem_append_left _ hf)
  rw [hI4, hI6] at H
  have H := ((AllLe.refl FZ).append ((famI4_raw b Q).append (famI6_raw b P))).sep H
  have k0 : (Q.map grI4).length = 6 := by rw [List.length_map]; exact hF.l4
  have k1 : (P.map grI6).length = 6 := by rw [List.length_map]; exact hF.l6
  have m0 : ∀ r ∈ Q.map grI4, r.n ≤ 4000001 := fun r hr => by
    obtain ⟨q, hq, rfl⟩ := List.mem_map.1 hr
    exact (hF.mem4 hq).1.small
  have m1 : ∀ r ∈ P.map grI6, r.n ≤ 4000001 := fun r hr => by
    obtain ⟨q, hq, rfl⟩ := List.mem_map.1 hr
    exact (hF.mem6 hq).1.small
  refine (Outer_full_spec H hG2.h0 hb hG2.x0 hG2.x1 k0 k1 (by decide) (by decide) m0 m1).mono ?_
  rintro _ w44 ⟨gy, B0, B1, d0, d1, gs0, gs1, D0, D1, rfl, l0, l1, st0, st1, H⟩
  refine ⟨_, rfl, Br.f rfl (Br.f rfl ?_)⟩
  obtain ⟨Y0, hY0⟩ : ∃ Y, Y = Fct.own b 34 1 (.slice B0 6 d0) 6 (gs0.map GR.val) := ⟨_, rfl⟩
  obtain ⟨Y1, hY1⟩ : ∃ Y, Y = Fct.own b 37 1 (.slice B1 6 d1) 6 (gs1.map GR.val) := ⟨_, rfl⟩
  obtain ⟨YB, hYB⟩ : ∃ Y, Y = Fct.blk gy 44 [.slice B0 6 d0, .slice B1 6 d1] := ⟨_, rfl⟩
  rw [← hY0, ← hY1, ← hYB] at H
  obtain ⟨FW, hFW⟩ : ∃ FW, FW = FZ ++ ((Y0 :: Y1 :: [YB]) ++ (D0 ++ D1)) := ⟨_, rfl⟩
  rw [← hFW] at H
  have hz : ∀ {w'}, Sep FW w' → (∀ f ∈ FZ, f.φ w') ∧ Ext w8 w' := fun {w'} H => by
    rw [hFW] at H
    exact ⟨fun f hf => H.mem (List.mem_append_left _ hf), hG2.ext H⟩
  have holdX : ∀ {w'}, Sep FW w' → Calls Tryz.prog 18 #[.pointer (some ⟨g5, 0, none⟩)] w' fun e w'' => w'' = w' ∧ e = .returned (.bool true) := fun {w'} H => by
    obtain ⟨fz, _⟩ := hz H
    rw [hFW] at H
    have q0 := hG2.x0 w' fz
    have q1 := hG2.x1 w' fz
    refine holds_spec q0.1 q1.1 q0.2 q1.2 k0 k1 (by decide) (by decide) (fun r hr => Nat.le_trans (m0 r hr) (by decide)) (fun r hr => Nat.le_trans (m1 r hr) (by decide)) (fun j r hj => ?_) fun j r hj => ?_
    · exact (st0 w' (fun f hf => H.mem (by simp only [List.mem_append]; exact .inr (.inr (.inl hf)))) j r (by have := (List.getElem?_eq_some_iff.1 hj).1; omega) hj).1
    · exact (st1 w' (fun f hf => H.mem (by simp only [List.mem_append]; exact .inr (.inr (.inr hf)))) j r (by have := (List.getElem?_eq_some_iff.1 hj).1; omega) hj).1
  have holdY : ∀ {w'}, Sep FW w' → Calls Tryz.prog 18 #[.pointer (some ⟨gy, 0, none⟩)] w' fun e w'' => w'' = w' ∧ e = .returned (.bool true) := fun {w'} H => by
    rw [hFW] at H
    have yb : Blk w' gy 44 [.slice B0 6 d0, .slice B1 6 d1] := by
      have := H.mem (f := YB) (by simp)
      rw [hYB] at this; exact this
    have y0 : Cells w' B0 (gs0.map GR.val) := by
      have := H.mem (f := Y0) (by simp)
      rw [hY0] at this; exact own_cells this
    have y1 : Cells w' B1 (gs1.map GR.val) := by
      have := H.mem (f := Y1) (by simp)
      rw [hY1] at this; exact own_cells this
    obtain ⟨t0, u0⟩ := stood_y st0 (fun f hf => H.mem (by simp only [List.mem_append]; exact .inr (.inr (.inl hf)))) k0 l0 m0
    obtain ⟨t1, u1⟩ := stood_y st1 (fun f hf => H.mem (by simp only [List.mem_append]; exact .inr (.inr (.inr hf)))) k1 l1 m1
    exact holds_spec (cells_get (CellsAt.blk yb) 0 rfl) (cells_get (CellsAt.blk yb) 1 rfl) y0 y1 l0 l1 (by decide) (by decide) t0 t1 u0 u1
  refine (holdX H).mono ?_
  rintro _ w45 ⟨hw, rfl⟩
  subst w45
  refine ⟨_, rfl, Br.f rfl ?_⟩
  refine (holdY H).mono ?_
  rintro _ w46 ⟨hw, rfl⟩
  subst w46
  have U := hL.ext (hz H).2
  refine ⟨_, rfl, Br.f rfl (Ip4V.of (L.hv false) ⟨CellsAt.blk U.b1, ?_⟩)⟩
  refine (split4_spec (mtu := L.mtu) (U.a false)).mono ?_
  intro e w47 hc
  obtain ⟨s1, r1, rfl, hr1, at1, hE⟩ := hc.at
  have H := H.ext hE
  have U := U.ext hE
  refine ⟨_, _, _, _, rfl, Ip4V.of (L.hv true) ⟨CellsAt.blk U.b2, ?_⟩⟩
  refine (split4_spec (mtu := L.mtu) (U.a true)).mono ?_
  intro e w48 hc
  obtain ⟨s2, r2, rfl, hr2, at2, hE⟩ := hc.at
  have H := H.ext hE
  have U := U.ext hE
  have at1 := at1.ext hE
  refine ⟨_, _, _, _, rfl, Ip6V.of (L.gv false) ⟨CellsAt.blk U.b3, ?_⟩⟩
  refine (split6_spec (mtu := L.mtu) (id := L.id) (U.b false) U.k).mono ?_
  intro e w49 hc
  obtain ⟨s3, r3, rfl, hr3, at3, hE⟩ := hc.at
  have H := H.ext hE
  have U := U.ext hE
  have at1 := at1.ext hE
  have at2 := at2.ext hE
  refine ⟨_, _, _, _, rfl, Ip6V.of (L.gv true) ⟨CellsAt.blk U.b4, ?_⟩⟩
  refine (split6_spec (mtu := L.mtu) (id := L.id) (U.b true) U.k).mono ?_
  intro e w50 hc
  obtain ⟨s4, r4, rfl, hr4', at4, hE⟩ := hc.at
  have H := H.ext hE
  have U := U.ext hE
  have at1 := at1.ext hE
  have at2 := at2.ext hE
  have at3 := at3.ext hE
  refine ⟨_, _, _, _, rfl, ?_⟩
  refine (sames4_spec (s := s1) (t := L.s4 false) at1 (U.p false)).mono ?_
  rintro _ w51 ⟨x, rfl, hx, hE⟩
  have hxt := hx.2 (by rw [hr1, U.pe]; rfl)
  subst hxt
  have H := H.ext hE
  have U := U.ext hE
  have at2 := at2.ext hE
  have at3 := at3.ext hE
  have at4 := at4.ext hE
  refine ⟨_, rfl, Br.f rfl ?_⟩
  refine (sames4_spec (s := s2) (t := L.s4 true) at2 (U.p true)).mono ?_
  rintro _ w52 ⟨x, rfl, hx, hE⟩
  have hxt := hx.2 (by rw [hr2, U.pe]; rfl)
  subst hxt
  have H := H.ext hE
  have U := U.ext hE
  have at3 := at3.ext hE
  have at4 := at4.ext hE
  refine ⟨_, rfl, Br.f rfl ?_⟩
  refine (sames6_spec (s := s3) (t := L.s6 false) at3 (U.q false)).mono ?_
  rintro _ w53 ⟨x, rfl, hx, hE⟩
  have hxt := hx.2 (by rw [hr3, U.qe]; rfl)
  subst hxt
  have H := H.ext hE
  have U := U.ext hE
  have at4 := at4.ext hE
  refine ⟨_, rfl, Br.f rfl ?_⟩
  refine (sames6_spec (s := s4) (t := L.s6 true) at4 (U.q true)).mono ?_
  rintro _ w54 ⟨x, rfl, hx, hE⟩
  have hxt := hx.2 (by rw [hr4', U.qe]; rfl)
  subst hxt
  have H := H.ext hE
  have U := U.ext hE
  refine ⟨_, rfl, Br.f rfl ?_⟩
  refine (started_spec U.k).mono ?_
  rintro _ w55 ⟨hE, rfl⟩
  have H := H.ext hE
  refine ⟨_, rfl, Br.t rfl ?_⟩
  obtain ⟨cl, cm, cs⟩ := hst2 w55 (hz H).1
  refine (stand_spec cl cm hrl hgl hbs hsm cs).mono ?_
  rintro _ w56 ⟨hw, rfl⟩
  subst w56
  refine ⟨_, rfl, Br.t rfl ?_⟩
  refine (holdX H).mono ?_
  rintro _ w57 ⟨hw, rfl⟩
  subst w57
  refine ⟨_, rfl, Br.t rfl ?_⟩
  refine (holdY H).mono ?_
  rintro _ w58 ⟨hw, rfl⟩
  subst w58
  exact ⟨_, rfl, hR _ (hz H).2⟩
end
end N6
end Go.Proofs.YteppichfkeknbaaGreatDoor
/- SplitLent: the loops ahead; the law. -/
namespace Go.Proofs.YteppichfkeknbaaGreatDoor
namespace N6
open Go.Eng Go.RowKit
section
variable {w w8 : World} {L : LX} {BS : List Fct} {b g5 fc sc : Nat} {FA SA : Option Addr} {Q : List (Sl × List Ip4R)} {P : List (Sl × List Ip6R)}
theorem way_idx {A : Option Addr} (h : Cells w A (wayV.map (.int .i64))) {i : Nat} (hi : i < 6) {F : Addr → Prop} (hF : ∀ a, w.cell? a = some (.int .i64 ((wyN i : Nat) : Int)) → F a) : IdxVC A 6 1 (i : Int) F := by
  refine IdxVC.int h (by omega) (by omega) rfl fun a ha => hF a ?_
  rw [ha, Int.toNat_natCast, List.getD_eq_getElem?_getD, wy_at ⟨i, hi⟩]; rfl
set_option maxHeartbeats 8000000 in
theorem lent_loop3 (hG : LentG BS w8 g5 fc sc FA SA Q P) (hF : Fams L Q P 6) (hL : LXAt L w8) (hb : b ≤ w8.heap.size) (H : Sep (BS ++ (fam4 b Q ++ fam6 b P)) w) {R : Ending → World → Prop} (hR : ∀ w', Ext w8 w' → R (.returned (.bool true)) w') :
    LoopVC (S := (Option Addr × Nat × Nat) × Int) (fun s_ w32 K => weirlaw13_SplitLent_L65530 R L.mtu L.id L.g1 L.g2 L.g3 L.g4 (L.s4 false).A (L.s4 false).n (L.s4 false).k (L.s4 true).A (L.s4 true).n (L.s4 true).k (L.s6 false).A (L.s6 false).n (L.s6 false).k (L.s6 true).A (L.s6 true).n (L.s6 true).k g5 s_.1.1 s_.1.2.1 s_.1.2.2 s_.2 w32 K) ((none, 0, 0), 0) w := by
  obtain ⟨X, hX⟩ : ∃ X, X = fam4 b Q ++ fam6 b P := ⟨_, rfl⟩
  rw [← hX] at H
  refine LoopVC.of (fun st w' => ∃ (i : Nat) (rows : List GR), st.2 = (i : Int) ∧ i ≤ 6 ∧ st.1.2.1 = rows.length ∧ rows.Perm (rows4 (flat4 (Q.take i)) ++ rows6 (flat6 (P.take i))) ∧
      Sep (Fct.own b 26 1 (.slice st.1.1 st.1.2.1 st.1.2.2) st.1.2.1 (rows.map GR.val) :: (BS ++ X)) w') (fun st _ => ((6 : Int) - st.2).toNat)
    ⟨0, [], rfl, by decide, rfl, .refl _, (H.nil b 26 1).front⟩ ?_
  rintro ⟨⟨A1, n1, c1⟩, _⟩ w1 ⟨i, rows, rfl, hi, hn, hp, H⟩
  simp only at hn
  have H : Sep (Fct.own b 26 1 (.slice A1 n1 c1) n1 (rows.map GR.val) :: (BS ++ X)) w1 := H
  show weirlaw13_SplitLent_L65530 R L.mtu L.id L.g1 L.g2 L.g3 L.g4 _ _ _ _ _ _ _ _ _ _ _ _ g5 A1 n1 c1 (i : Int) w1 _
  unfold weirlaw13_SplitLent_L65530
  obtain ⟨f4a, f4b⟩ := hF.len4 (Nat.le_refl _) i
  obtain ⟨f6a, f6b, f6c⟩ := hF.len6 (Nat.le_refl _) i
  have hrn : rows.length ≤ 1769688491580 := by
    have := hp.length_eq
    rw [List.length_append] at this
    omega
  refine Br.dec (fun hlt => ?_) fun hge => ?_
  · obtain ⟨q, hq⟩ : ∃ q, Q[i]? = some q := ⟨_, List.getElem?_eq_getElem (by have := hF.l4; omega)⟩
    obtain ⟨p, hpp⟩ : ∃ p, P[i]? = some p := ⟨_, List.getElem?_eq_getElem (by have := hF.l6; omega)⟩
    have e1 : IntKind.i64.wrap ((i : Int) + 1) = ((i + 1 : Nat) : Int) := by rw [w64 (by omega) (by omega)]; omega
    obtain ⟨m1, m2, m3, _⟩ := hF.mem4 (List.mem_of_getElem? hq)
    obtain ⟨m4, m5, m6, _, _⟩ := hF.mem6 (List.mem_of_getElem? hpp)
    have gx : ∀ {f1 : Fct} {w' : World}, Sep (f1 :: (BS ++ X)) w' → (∀ f ∈ BS, f.φ w') ∧ Ip4sAt w' q.1 q.2 ∧ Ip6sAt w' p.1 p.2 ∧ b ≤ w'.heap.size := fun {f1 w'} H => by
      have H := H.tail
      refine ⟨fun f hf => H.mem (List.mem_append_left _ hf), fam4_at (b := b) (fun f hf => H.mem (List.mem_append_right _ (by rw [hX]; exact List.mem_append_left _ hf))) (List.mem_of_getElem? hq) m1, fam6_at (b := b) (fun f hf => H.mem (List.mem_append_right _ (by rw [hX]; exact List.mem_append_right _ hf))) (List.mem_of_getElem? hpp) m4, Nat.le_trans hb (hG.ext H).size⟩
    obtain ⟨fx, o4, o6, hz⟩ := gx H
    have hx0 := hG.x0 w1 fx
    refine ⟨⟨g5, 0, none⟩, rfl, _, _, _, hx0.1, ?_⟩
    refine idx_rows hx0.2 (r := grI4 q) (by rw [List.getElem?_map, hq]; rfl) (by rw [List.length_map]; exact hF.l4) fun a ha => ⟨_, _, _, ha, ?_⟩
    refine (lists4_spec (s := q.1) o4 (by omega)).mono ?_
    rintro _ w2 ⟨A2, c2, rfl, H2⟩
    have H := H.ext (H2.restOf 1 rfl)
    obtain ⟨fx, o4, o6, hz⟩ := gx H
    have hlen4 : (rows4 (flat4 (Q.take (i + 1)))).length = (rows4 (flat4 (Q.take i))).length + (rows4 q.2).length := by rw [take_snocA hq, flat4_snoc, rows4_app, List.length_append]
    have hlen6 : (rows6 (flat6 (P.take (i + 1)))).length = (rows6 (flat6 (P.take i))).length + (rows6 p.2).length := by rw [take_snocA hpp, flat6_snoc, rows6_app, List.length_append]
    have hrl := hp.length_eq
    rw [List.length_append] at hrl
    obtain ⟨_, t4⟩ := hF.len4 (Nat.le_refl _) (i + 1)
    obtain ⟨_, t6, _⟩ := hF.len6 (Nat.le_refl _) (i + 1)
    refine ⟨_, _, _, rfl, ?_⟩
    refine AppVC.sep (m := (rows4 q.2).length) H 0 Tryz.underlying53 tSl rfl (by decide) rfl (own_cells (H2.own 0 rfl)) (by rw [List.length_map, Nat.mul_one]) (fun v hv => by obtain ⟨g, _, rfl⟩ := List.mem_map.1 hv; rfl) (by omega) (by decide) hz fun A3 c3 w3 H _ => ?_
    have H : Sep (Fct.own b 26 1 (.slice A3 (n1 + (rows4 q.2).length) c3) (n1 + (rows4 q.2).length) (rows.map GR.val ++ (rows4 q.2).map GR.val) :: (BS ++ X)) w3 := H
    obtain ⟨fx, o4, o6, hz⟩ := gx H
    have hx1 := hG.x1 w3 fx
    refine ⟨⟨g5, 0, none⟩, rfl, _, _, _, hx1.1, ?_⟩
    refine idx_rows hx1.2 (r := grI6 p) (by rw [List.getElem?_map, hpp]; rfl) (by rw [List.length_map]; exact hF.l6) fun a ha => ⟨_, _, _, ha, ?_⟩
    refine (lists6_spec (s := p.1) o6 (by omega)).mono ?_
    rintro _ w4 ⟨A4, c4, rfl, H4⟩
    have H := H.ext (H4.restOf 1 rfl)
    obtain ⟨fx, o4, o6, hz⟩ := gx H
    refine ⟨_, _, _, rfl, ?_⟩
    refine AppVC.sep (m := (rows6 p.2).length) H 0 Tryz.underlying53 tSl rfl (by decide) rfl (own_cells (H4.own 0 rfl)) (by rw [List.length_map, Nat.mul_one]) (fun v hv => by obtain ⟨g, _, rfl⟩ := List.mem_map.1 hv; rfl) (by omega) (by decide) hz fun A5 c5 w5 H _ => ?_
    refine ⟨⟨i + 1, rows ++ rows4 q.2 ++ rows6 p.2, e1, by omega, ?_, ?_, ?_⟩, by simp only [e1]; omega⟩
    · show n1 + (rows4 q.2).length + (rows6 p.2).length = _
      rw [List.length_append, List.length_append, hn]
    · rw [take_snocA hq, flat4_snoc, rows4_app, take_snocA hpp, flat6_snoc, rows6_app]
      exact ((hp.append_right _).append_right _).trans (perm_cnt fun c o h1 h2 h3 => by simp only [h1]; omega)
    · rw [List.map_append, List.map_append]
      exact H
  have hi6 : i = 6 := by omega
  subst hi6
  have hq6 : Q.take 6 = Q := List.take_of_length_le (by have := hF.l4; omega)
  have hp6 : P.take 6 = P := List.take_of_length_le (by have := hF.l6; omega)
  rw [hq6, hp6] at hp
  subst hn
  obtain ⟨LB, hLB⟩ : ∃ W, W = Fct.own b 26 1 (.slice A1 rows.length c1) rows.length (rows.map GR.val) := ⟨_, rfl⟩
  rw [← hLB, hX] at H
  have H := fam_four (b := b) Q (Γ := LB :: (BS ++ fam6 b P)) (H.perm (perm_cnt fun c o h1 h2 h3 => by simp only [h1, h2]; omega))
  have H := fam_six (b := b) P (Γ := LB :: (BS ++ (famI4 b Q ++ (famO4 b (flat4 Q) ++ (rows4 (flat4 Q)).map (rwB b))))) (H.perm (perm_cnt fun c o h1 h2 h3 => by simp only [h1, h2]; omega))
  obtain ⟨FB, hFB⟩ : ∃ FB, FB = BS ++ [LB] := ⟨_, rfl⟩
  have hG1 : LentG FB w8 g5 fc sc FA SA Q P := by rw [hFB]; exact hG.more _
  obtain ⟨Y, hY⟩ : ∃ Y, Y = famI4 b Q ++ (famI6 b P ++ (famO4 b (flat4 Q) ++ (famO6 b (flat6 P) ++ famE6 b (flat6 P)))) := ⟨_, rfl⟩
  have H : Sep ((FB ++ Y) ++ rows.map (rawR b 5 1)) w1 := by
    have hp' := hp.map (rwB b)
    rw [List.map_append] at hp'
    refine H.perm ((hp'.append_left _).trans ?_)
    rw [hFB, hY]
    exact perm_cnt fun c o h1 h2 h3 => by simp only [h1, h2, h3]; omega
  have hLr : ∀ w', (∀ f ∈ FB, f.φ w') → Cells w' A1 (rows.map GR.val) := fun w' h => by
    have := h LB (by rw [hFB]; simp)
    rw [hLB] at this
    exact own_cells this
  have hsm : ∀ r ∈ rows, r.n ≤ 4000000 := fun r hr => by
    rcases List.mem_append.1 (hp.mem_iff.1 hr) with hr | hr
    · rw [rows4_flat] at hr
      obtain ⟨q, hq, hr⟩ := List.mem_flatMap.1 hr
      exact (hF.mem4 hq).2.2.2 r hr
    · rw [rows6_flat] at hr
      obtain ⟨q, hq, hr⟩ := List.mem_flatMap.1 hr
      exact (hF.mem6 hq).2.2.2.1 r hr
  refine (filled_spec H (hG1.more Y).h0 hb (fun w' hf => hLr w' fun f h => hf f (List.mem_append_left _ h)) rfl (by omega) hsm).mono ?_
  rintro _ w37 ⟨MA, mc, gs, D, rfl, hgl, hst, H⟩
  obtain ⟨M, hM⟩ : ∃ M, M = Fct.own b 26 1 (.slice MA (3 * rows.length) mc) (3 * rows.length) (gs.map GR.val) := ⟨_, rfl⟩
  rw [← hM] at H
  have H : Sep ((FB ++ (M :: D)) ++ Y) w37 := H.perm (perm_cnt fun c o h1 h2 h3 => by simp only [h1, h2]; omega)
  have rS : ∀ w', (∀ f ∈ FB ++ (M :: D), f.φ w') → Cells w' A1 (rows.map GR.val) ∧ Cells w' MA (gs.map GR.val) ∧ ReadsB w' rows gs := fun w' h => by
    refine ⟨hLr w' fun f hf => h f (List.mem_append_left _ hf), ?_, ?_⟩
    · have := h M (by simp)
      rw [hM] at this
      exact own_cells this
    · intro j r hj
      exact hst w' (fun f hf => h f (List.mem_append_right _ (List.mem_cons_of_mem _ hf))) j r (List.getElem?_eq_some_iff.1 hj).1 hj
  refine ⟨_, _, _, rfl, ?_⟩
  obtain ⟨cl, cm, cs⟩ := rS w37 fun f hf => H.mem (List.mem_append_left _ hf)
  refine (stand_spec cl cm rfl hgl (by omega) hsm cs).mono ?_
  rintro _ w38 ⟨hw, rfl⟩
  subst w38
  refine ⟨_, rfl, Br.f rfl ?_⟩
  rw [hY] at H
  exact lent_loop4 (hG1.more _) hF hL hb rS rfl hgl (by omega) hsm H hR
set_option maxHeartbeats 8000000 in
theorem lent_loop2 {g8 : Nat} (hG : LentG BS w8 g5 fc sc FA SA Q P) (hF : Fams L Q P 6) (hL : LXAt L w8) (hb : b ≤ w8.heap.size) (hW : ∀ w', (∀ f ∈ BS, f.φ w') → Cells w' (some ⟨g8, 0, none⟩) (wayV.map (.int .i64))) (H : Sep (BS ++ (fam4 b Q ++ fam6 b P)) w) {R : Ending → World → Prop} (hR : ∀ w', Ext w8 w' → R (.returned (.bool true)) w') :
    LoopVC (S := Int) (fun s_ w25 K => weirlaw13_SplitLent_L32762 R L.mtu L.id L.g1 L.g2 L.g3 L.g4 (L.s4 false).A (L.s4 false).n (L.s4 false).k (L.s4 true).A (L.s4 true).n (L.s4 true).k (L.s6 false).A (L.s6 false).n (L.s6 false).k (L.s6 true).A (L.s6 true).n (L.s6 true).k g5 g8 s_ w25 K) 0 w := by
  refine LoopVC.of (fun st w' => ∃ i : Nat, st = (i : Int) ∧ i ≤ 6 ∧ Sep (BS ++ (fam4 b Q ++ fam6 b P)) w') (fun st _ => ((6 : Int) - st).toNat) ⟨0, rfl, by decide, H⟩ ?_
  rintro _ w1 ⟨i, rfl, hi, H⟩
  show weirlaw13_SplitLent_L32762 R L.mtu L.id L.g1 L.g2 L.g3 L.g4 _ _ _ _ _ _ _ _ _ _ _ _ g5 g8 (i : Int) w1 _
  unfold weirlaw13_SplitLent_L32762
  refine Br.dec (fun hlt => ?_) fun hge => lent_loop3 hG hF hL hb H hR
  have hi6 : i < 6 := by omega
  obtain ⟨q, hq⟩ : ∃ q, Q[i]? = some q := ⟨_, List.getElem?_eq_getElem (by have := hF.l4; omega)⟩
  obtain ⟨p, hpp⟩ : ∃ p, P[i]? = some p := ⟨_, List.getElem?_eq_getElem (by have := hF.l6; omega)⟩
  have e1 : IntKind.i64.wrap ((i : Int) + 1) = ((i + 1 : Nat) : Int) := by rw [w64 (by omega) (by omega)]; omega
  obtain ⟨m1, m2⟩ := hF.f4 i q hq
  obtain ⟨m4, m5⟩ := hF.f6 i p hpp
  have gx : ∀ {w' : World}, Sep (BS ++ (fam4 b Q ++ fam6 b P)) w' → (∀ f ∈ BS, f.φ w') ∧ Ip4sAt w' q.1 q.2 ∧ Ip6sAt w' p.1 p.2 ∧ LXAt L w' := fun {w'} H =>
    ⟨fun f hf => H.mem (List.mem_append_left _ hf), fam4_at (b := b) (fun f hf => H.mem (List.mem_append_right _ (List.mem_append_left _ hf))) (List.mem_of_getElem? hq) m1, fam6_at (b := b) (fun f hf => H.mem (List.mem_append_right _ (List.mem_append_right _ hf))) (List.mem_of_getElem? hpp) m4, hL.ext (hG.ext H)⟩
  have done : ∀ {w' : World}, Sep (BS ++ (fam4 b Q ++ fam6 b P)) w' → (∃ i' : Nat, IntKind.i64.wrap ((i : Int) + 1) = (i' : Int) ∧ i' ≤ 6 ∧ Sep (BS ++ (fam4 b Q ++ fam6 b P)) w') ∧ ((6 : Int) - IntKind.i64.wrap ((i : Int) + 1)).toNat < ((6 : Int) - (i : Int)).toNat := fun {w'} H => ⟨⟨i + 1, e1, by omega, H⟩, by rw [e1]; omega⟩
  obtain ⟨fx, o4, o6, U⟩ := gx H
  refine way_idx (hW w1 fx) hi6 fun a ha => ⟨_, ha, ?_⟩
  have q4 : (Q.map grI4)[i]? = some (grI4 q) := by rw [List.getElem?_map, hq]; rfl
  have q6 : (P.map grI6)[i]? = some (grI6 p) := by rw [List.getElem?_map, hpp]; rfl
  have l4 : (Q.map grI4).length = 6 := by rw [List.length_map]; exact hF.l4
  have l6 : (P.map grI6).length = 6 := by rw [List.length_map]; exact hF.l6
  cases hwy : wy i with
  | false =>
    have hN : wyN i = 0 := by unfold wyN; rw [hwy]; rfl
    rw [hwy] at m2 m5
    rw [hN]
    refine Br.dec (fun _ => ?_) fun h0 => absurd rfl h0
    have hx0 := hG.x0 w1 fx
    refine ⟨⟨g5, 0, none⟩, rfl, _, _, _, hx0.1, idx_rows hx0.2 q4 l4 fun a ha => ⟨_, _, _, ha, ?_⟩⟩
    refine (sames4_spec (s := q.1) (t := L.s4 false) o4 (U.p false)).mono ?_
    rintro _ w2 ⟨x, rfl, hx, hE⟩
    have hxt := hx.2 (by rw [m2, U.pe])
    subst hxt
    have H := H.ext hE
    obtain ⟨fx, o4, o6, U⟩ := gx H
    have hx1 := hG.x1 w2 fx
    refine ⟨_, rfl, Br.f rfl ⟨⟨g5, 0, none⟩, rfl, _, _, _, hx1.1, idx_rows hx1.2 q6 l6 fun a ha => ⟨_, _, _, ha, ?_⟩⟩⟩
    refine (sames6_spec (s := p.1) (t := L.s6 false) o6 (U.q false)).mono ?_
    rintro _ w3 ⟨x, rfl, hx, hE⟩
    have hxt := hx.2 (by rw [m5, U.qe])
    subst hxt
    have H := H.ext hE
    obtain ⟨fx, o4, o6, U⟩ := gx H
    refine ⟨_, rfl, Br.f rfl (way_idx (hW w3 fx) hi6 fun a ha => ⟨_, ha, ?_⟩)⟩
    rw [hN]
    exact Br.dec (fun h0 => absurd h0 (by decide)) fun _ => done H
  | true =>
    have hN : wyN i = 1 := by unfold wyN; rw [hwy]; rfl
    rw [hwy] at m2 m5
    rw [hN]
    refine Br.dec (fun h0 => absurd h0 (by decide)) fun _ => way_idx (hW w1 fx) hi6 fun a ha => ⟨_, ha, ?_⟩
    rw [hN]
    refine Br.dec (fun _ => ?_) fun h0 => absurd rfl h0
    have hx0 := hG.x0 w1 fx
    refine ⟨⟨g5, 0, none⟩, rfl, _, _, _, hx0.1, idx_rows hx0.2 q4 l4 fun a ha => ⟨_, _, _, ha, ?_⟩⟩
    refine (sames4_spec (s := q.1) (t := L.s4 true) o4 (U.p true)).mono ?_
    rintro _ w2 ⟨x, rfl, hx, hE⟩
    have hxt := hx.2 (by rw [m2, U.pe])
    subst hxt
    have H := H.ext hE
    obtain ⟨fx, o4, o6, U⟩ := gx H
    have hx1 := hG.x1 w2 fx
    refine ⟨_, rfl, Br.f rfl ⟨⟨g5, 0, none⟩, rfl, _, _, _, hx1.1, idx_rows hx1.2 q6 l6 fun a ha => ⟨_, _, _, ha, ?_⟩⟩⟩
    refine (sames6_spec (s := p.1) (t := L.s6 true) o6 (U.q true)).mono ?_
    rintro _ w3 ⟨x, rfl, hx, hE⟩
    have hxt := hx.2 (by rw [m5, U.qe])
    subst hxt
    exact ⟨_, rfl, Br.f rfl (done (H.ext hE))⟩
def lentB (w8 : World) (L : LX) (b g5 g6 g7 g8 : Nat) (FA : Option Addr) (fc : Nat) (SA : Option Addr) (sc n : Nat) (Q : List (Sl × List Ip4R)) (P : List (Sl × List Ip6R)) : List Fct :=
  Fct.rest w8 None :: Fct.blk g6 45 ((L.hv false).cells ++ (L.hv true).cells) :: Fct.blk g7 46 ((L.gv false).cells ++ (L.gv true).cells) :: Fct.blk g8 47 (wayV.map (.int .i64)) :: Fct.blk g5 44 [.slice FA n fc, .slice SA n sc] ::
    Fct.own b 34 1 (.slice FA n fc) n ((Q.map grI4).map GR.val) :: [Fct.own b 37 1 (.slice SA n sc) n ((P.map grI6).map GR.val)]
theorem two_rec {g t size : Nat} {x y : List Value} (h0 : 0 < size) (hx : x.length = size) (hy : y.length = size) (h : Blk w g t (x ++ y)) {c : Bool} {i : Nat} (hi : wyN i = if c then 1 else 0) {F : Addr → Prop} (hF : ∀ a, CellsAt w a 0 (if c then y else x) → F a) : IdxVC (some ⟨g, 0, none⟩) 2 size ((wyN i : Nat) : Int) F := by
  have hr : Recs w (some ⟨g, 0, none⟩) size [x, y] := by
    refine Recs.of_cells h0 (fun r hr => ?_) (by simpa using Cells.blk0 h)
    rcases List.mem_cons.1 hr with hr | hr
    · rw [hr]; exact hx
    · rw [List.mem_singleton.1 hr]; exact hy
  exact IdxVC.recD (w := w) (rs := [x, y]) (cs := if c then y else x) (fun w3 => w3 = w) rfl (fun w3 e => by rw [e]; exact hr) rfl (by rw [hi]; cases c <;> rfl) fun a ha => hF a (ha w rfl)
set_option maxHeartbeats 8000000 in
theorem lent_loop1 {g6 g7 g8 : Nat} (hL : LXAt L w8) (hb : b ≤ w8.heap.size) (H : Sep (lentB w8 L b g5 g6 g7 g8 none 0 none 0 0 [] []) w) {R : Ending → World → Prop} (hR : ∀ w', Ext w8 w' → R (.returned (.bool true)) w') :
    LoopVC (S := Int) (fun s_ w16 K => weirlaw13_SplitLent_L8186 R L.mtu L.id L.g1 L.g2 L.g3 L.g4 (L.s4 false).A (L.s4 false).n (L.s4 false).k (L.s4 true).A (L.s4 true).n (L.s4 true).k (L.s6 false).A (L.s6 false).n (L.s6 false).k (L.s6 true).A (L.s6 true).n (L.s6 true).k g5 g6 g7 g8 s_ w16 K) 0 w := by
  refine LoopVC.of (fun st w' => ∃ (i : Nat) (Q : List (Sl × List Ip4R)) (P : List (Sl × List Ip6R)) (FA : Option Addr) (fc : Nat) (SA : Option Addr) (sc : Nat), st = (i : Int) ∧ i ≤ 6 ∧ Fams L Q P i ∧ Sep (lentB w8 L b g5 g6 g7 g8 FA fc SA sc i Q P ++ (fam4 b Q ++ fam6 b P)) w') (fun st _ => ((6 : Int) - st).toNat)
    ⟨0, [], [], none, 0, none, 0, rfl, by decide, ⟨rfl, rfl, fun j q h => by simp at h, fun j q h => by simp at h⟩, H⟩ ?_
  rintro _ w1 ⟨i, Q, P, FA, fc, SA, sc, rfl, hi, hF, H⟩
  show weirlaw13_SplitLent_L8186 R L.mtu L.id L.g1 L.g2 L.g3 L.g4 _ _ _ _ _ _ _ _ _ _ _ _ g5 g6 g7 g8 (i : Int) w1 _
  unfold weirlaw13_SplitLent_L8186
  refine Br.dec (fun hlt => ?_) fun hge => ?_
  · have hi6 : i < 6 := by omega
    have hwN : wyN i = if wy i then 1 else 0 := rfl
    have e1 : IntKind.i64.wrap ((i : Int) + 1) = ((i + 1 : Nat) : Int) := by rw [w64 (by omega) (by omega)]; omega
    have U := hL.ext (H.restOf 0 rfl)
    refine way_idx (Cells.blk0 (H.blk 3 rfl)) hi6 fun a ha => ⟨_, ha, ?_⟩
    refine two_rec (size := 43) (x := (L.hv false).cells) (y := (L.hv true).cells) (by decide) rfl rfl (H.blk 1 rfl) hwN fun a ha => Ip4V.of (L.hv (wy i)) ⟨by cases hc : wy i <;> (rw [hc] at ha; exact ha), ?_⟩
    refine (split4_spec (mtu := L.mtu) (U.a (wy i))).mono ?_
    intro e w2 hc
    obtain ⟨s1, r1, rfl, hr1, hf1, H⟩ := hc.more H (Nat.le_trans hb (H.restOf 0 rfl).size)
    have U := hL.ext (H.restOf 0 rfl)
    refine ⟨_, _, _, _, rfl, way_idx (Cells.blk0 (H.blk 3 rfl)) hi6 fun a ha => ⟨_, ha, ?_⟩⟩
    refine two_rec (size := 44) (x := (L.gv false).cells) (y := (L.gv true).cells) (by decide) rfl rfl (H.blk 2 rfl) hwN fun a ha => Ip6V.of (L.gv (wy i)) ⟨by cases hc : wy i <;> (rw [hc] at ha; exact ha), ?_⟩
    refine (split6_spec (mtu := L.mtu) (id := L.id) (U.b (wy i)) U.k).mono ?_
    intro e w3 hc
    obtain ⟨s2, r2, rfl, hr2, hf2, H⟩ := hc.more H (Nat.le_trans hb (H.restOf 0 rfl).size)
    obtain ⟨X, hX⟩ : ∃ X, X = fam4 b Q ++ fam6 b P := ⟨_, rfl⟩
    obtain ⟨F4, hF4⟩ : ∃ X, X = ip4Fs b s1 r1 := ⟨_, rfl⟩
    obtain ⟨F6, hF6⟩ : ∃ X, X = ip6Fs b s2 r2 := ⟨_, rfl⟩
    rw [← hX, ← hF4, ← hF6] at H
    refine ⟨_, _, _, _, rfl, ⟨g5, 0, none⟩, rfl, _, _, _, H.cell 4 rfl 0 rfl, ?_⟩
    refine NewVC.sep (cs := [.slice s1.A s1.n s1.k]) H fun g9 w4 H => ?_
    refine AppVC.sep (m := 1) H 5 Tryz.underlying41 tI4s rfl (by decide) rfl (Cells.blk0 (H.mem (f := Fct.blk g9 34 [.slice s1.A s1.n s1.k]) (by simp))) rfl (fun v hv => by simp at hv; subst hv; rfl) (by omega) (by decide) (Nat.le_trans hb (H.restOf 0 rfl).size) fun A5 c5 w5 H _ => ?_
    refine ⟨⟨g5, 0, none⟩, rfl, SetVC.sep H 4 rfl (show 0 < 2 by decide) fun w6 H => ⟨⟨g5, 0, none⟩, rfl, _, _, _, H.cell 4 rfl 1 rfl, ?_⟩⟩
    refine NewVC.sep (cs := [.slice s2.A s2.n s2.k]) H fun g10 w7 H => ?_
    refine AppVC.sep (m := 1) H 6 Tryz.underlying42 tI6s rfl (by decide) rfl (Cells.blk0 (H.mem (f := Fct.blk g10 37 [.slice s2.A s2.n s2.k]) (List.mem_append_right _ List.mem_cons_self))) rfl (fun v hv => by simp at hv; subst hv; rfl) (by omega) (by decide) (Nat.le_trans hb (H.restOf 0 rfl).size) fun A7 c7 w8' H _ => ?_
    refine ⟨⟨g5, 0, none⟩, rfl, SetVC.sep H 4 rfl (show 1 < 2 by decide) fun w9 H => ?_⟩
    have a1 : ((Q ++ [(s1, r1)]).map grI4).map GR.val = (Q.map grI4).map GR.val ++ [.slice s1.A s1.n s1.k] := by rw [List.map_append, List.map_append]; rfl
    have a2 : ((P ++ [(s2, r2)]).map grI6).map GR.val = (P.map grI6).map GR.val ++ [.slice s2.A s2.n s2.k] := by rw [List.map_append, List.map_append]; rfl
    refine ⟨⟨i + 1, Q ++ [(s1, r1)], P ++ [(s2, r2)], A5, c5, A7, c7, e1, by omega, ⟨by simp [hF.l4], by simp [hF.l6], fun j q hj => ?_, fun j q hj => ?_⟩, ?_⟩, by rw [e1]; omega⟩
    · rcases Nat.lt_or_ge j Q.length with hjl | hjl
      · rw [List.getElem?_append_left hjl] at hj; exact hF.f4 j q hj
      · have hji : j = i := by
          have := (List.getElem?_eq_some_iff.1 hj).1
          have := hF.l4
          simp at *; omega
        subst hji
        rw [List.getElem?_append_right hjl, hF.l4, Nat.sub_self] at hj
        injection hj with hj
        subst hj
        exact ⟨hf1, hr1⟩
    · rcases Nat.lt_or_ge j P.length with hjl | hjl
      · rw [List.getElem?_append_left hjl] at hj; exact hF.f6 j q hj
      · have hji : j = i := by
          have := (List.getElem?_eq_some_iff.1 hj).1
          have := hF.l6
          simp at *; omega
        subst hji
        rw [List.getElem?_append_right hjl, hF.l6, Nat.sub_self] at hj
        injection hj with hj
        subst hj
        exact ⟨hf2, hr2⟩
    · have e2 : fam4 b (Q ++ [(s1, r1)]) ++ fam6 b (P ++ [(s2, r2)]) = (fam4 b Q ++ F4) ++ (fam6 b P ++ F6) := by rw [fam4_snoc, fam6_snoc, hF4, hF6]
      rw [e2]
      obtain ⟨N, hN⟩ : ∃ N, N = lentB w8 L b g5 g6 g7 g8 A5 c5 A7 c7 (i + 1) (Q ++ [(s1, r1)]) (P ++ [(s2, r2)]) := ⟨_, rfl⟩
      have H : Sep (((((N ++ X) ++ F4) ++ F6) ++ [Fct.blk g9 34 [.slice s1.A s1.n s1.k]]) ++ [Fct.blk g10 37 [.slice s2.A s2.n s2.k]]) w9 := by
        rw [hN]
        unfold lentB
        rw [a1, a2]
        exact H
      have H := H.dropEnd.dropEnd
      rw [← hN]
      rw [hX] at H
      exact H.perm (perm_cnt fun c o h1 h2 h3 => by simp only [h1]; omega)
  · have hi6 : i = 6 := by omega
    subst hi6
    refine lent_loop2 (FA := FA) (fc := fc) (SA := SA) (sc := sc) (BS := lentB w8 L b g5 g6 g7 g8 FA fc SA sc 6 Q P) ⟨rfl, fun w' h => ⟨?_, ?_⟩, fun w' h => ⟨?_, ?_⟩⟩ hF hL hb (fun w' h => ?_) H hR
    · exact cells_get (CellsAt.blk (h (Fct.blk g5 44 [.slice FA 6 fc, .slice SA 6 sc]) (by simp [lentB]))) 0 rfl
    · exact own_cells (h (Fct.own b 34 1 (.slice FA 6 fc) 6 ((Q.map grI4).map GR.val)) (by simp [lentB]))
    · exact cells_get (CellsAt.blk (h (Fct.blk g5 44 [.slice FA 6 fc, .slice SA 6 sc]) (by simp [lentB]))) 1 rfl
    · exact own_cells (h (Fct.own b 37 1 (.slice SA 6 sc) 6 ((P.map grI6).map GR.val)) (by simp [lentB]))
    · exact Cells.blk0 (h (Fct.blk g8 47 (wayV.map (.int .i64))) (by simp [lentB]))
set_option maxHeartbeats 8000000 in
theorem lent_law {h k : Ip4V} {g m : Ip6V} {oh ok : List OptR} {dh dk : List Int} {eg em : List ExtR} {tg tm : List Int} {mtu id : Int} (hA : Ip4At w h oh dh) (hB : Ip4At w k ok dk) (hC : Ip6At w g eg tg) (hD : Ip6At w m em tm) (hK : Kn w) :
    Calls Tryz.prog 3 #[h.val, k.val, g.val, m.val, .int .i64 mtu, .int .i64 id] w fun e w' => e = .returned (.bool true) ∧ Ext w w' := by
  refine weirlaw13_SplitLent_of h k g m mtu id w _ ?_
  unfold weirlaw13_SplitLent_VC
  refine NewVC.sep (Sep.start0 w) fun g1 w1 H => NewVC.sep H fun g2 w2 H => NewVC.sep H fun g3 w3 H => NewVC.sep H fun g4 w4 H => Ip4V.of h ⟨H.at 1 rfl, ?_⟩
  have hE := H.restOf 0 rfl
  refine (refSplit4_spec (mtu := mtu) (hA.ext hE)).mono ?_
  intro e w5 hc
  obtain ⟨s1, r1, rfl, hr1, at1, hE5⟩ := hc.at
  have H := H.ext hE5
  have hE := H.restOf 0 rfl
  refine ⟨_, _, _, _, rfl, Ip4V.of k ⟨H.at 2 rfl, ?_⟩⟩
  refine (refSplit4_spec (mtu := mtu) (hB.ext hE)).mono ?_
  intro e w6 hc
  obtain ⟨s2, r2, rfl, hr2, at2, hE6⟩ := hc.at
  have H := H.ext hE6
  have at1 := at1.ext hE6
  have hE := H.restOf 0 rfl
  refine ⟨_, _, _, _, rfl, Ip6V.of g ⟨H.at 3 rfl, ?_⟩⟩
  refine (refSplit6_spec (mtu := mtu) (id := id) (hC.ext hE)).mono ?_
  intro e w7 hc
  obtain ⟨s3, r3, rfl, hr3, at3, hE7⟩ := hc.at
  have H := H.ext hE7
  have at1 := at1.ext hE7
  have at2 := at2.ext hE7
  have hE := H.restOf 0 rfl
  refine ⟨_, _, _, _, rfl, Ip6V.of m ⟨H.at 4 rfl, ?_⟩⟩
  refine (refSplit6_spec (mtu := mtu) (id := id) (hD.ext hE)).mono ?_
  intro e w8 hc
  obtain ⟨s4, r4, rfl, hr4, at4, hE8⟩ := hc.at
  have H := H.ext hE8
  have at1 := at1.ext hE8
  have at2 := at2.ext hE8
  have at3 := at3.ext hE8
  have hE := H.restOf 0 rfl
  obtain ⟨L, hLd⟩ : ∃ L : LX, L = ⟨g1, g2, g3, g4, fun c => cond c k h, fun c => cond c ok oh, fun c => cond c dk dh, fun c => cond c m g, fun c => cond c em eg, fun c => cond c tm tg, fun c => cond c s2 s1, fun c => cond c r2 r1, fun c => cond c s4 s3, fun c => cond c r4 r3, mtu, id⟩ := ⟨_, rfl⟩
  have hL : LXAt L w8 := by
    rw [hLd]
    exact ⟨H.blk 1 rfl, H.blk 2 rfl, H.blk 3 rfl, H.blk 4 rfl, fun c => by cases c; exact hA.ext hE; exact hB.ext hE, fun c => by cases c; exact hC.ext hE; exact hD.ext hE, fun c => by cases c; exact at1; exact at2, fun c => by cases c; exact hr1; exact hr2, fun c => by cases c; exact at3; exact at4, fun c => by cases c; exact hr3; exact hr4, hK.ext hE⟩
  have b1 := H.blk 1 rfl
  have b2 := H.blk 2 rfl
  have b3 := H.blk 3 rfl
  have b4 := H.blk 4 rfl
  clear H
  refine ⟨_, _, _, _, rfl, NewVC.sep (cs := [.slice none 0 0, .slice none 0 0]) (Sep.start0 w8) fun g5 w9 H => ?_⟩
  have hE9 := H.restOf 0 rfl
  refine Ip4V.of h ⟨CellsAt.blk (b1.ext hE9), Ip4V.of k ⟨CellsAt.blk (b2.ext hE9), ?_⟩⟩
  refine NewVC.sep (cs := (Ip4V.z : Ip4V).cells ++ (Ip4V.z : Ip4V).cells) H fun g6 w10 H => ?_
  refine Stores.sep (cs' := h.cells ++ k.cells) H 2 rfl (fun v hv => (List.mem_append.1 (show v ∈ h.cells ++ k.cells from hv)).elim (Ip4V.one h v) (Ip4V.one k v)) (Nat.le_refl _) (splice_all rfl) fun w11 H => ?_
  have hE11 := H.restOf 0 rfl
  refine Ip6V.of g ⟨CellsAt.blk (b3.ext hE11), Ip6V.of m ⟨CellsAt.blk (b4.ext hE11), ?_⟩⟩
  refine NewVC.sep (cs := (Ip6V.z : Ip6V).cells ++ (Ip6V.z : Ip6V).cells) H fun g7 w12 H => ?_
  refine Stores.sep (cs' := g.cells ++ m.cells) H 3 rfl (fun v hv => (List.mem_append.1 (show v ∈ g.cells ++ m.cells from hv)).elim (Ip6V.one g v) (Ip6V.one m v)) (Nat.le_refl _) (splice_all rfl) fun w13 H => ?_
  refine NewVC.sep (cs := List.replicate 6 (.int .i64 0)) H fun g8 w14 H => ?_
  refine Stores.sep (cs' := wayV.map (.int .i64)) H 4 rfl (by simp [Value.oneCell']) (Nat.le_refl _) (splice_all rfl) fun w15 H => ?_
  have H : Sep [Fct.rest w8 None, Fct.blk g5 44 [.slice none 0 0, .slice none 0 0], Fct.blk g6 45 (h.cells ++ k.cells), Fct.blk g7 46 (g.cells ++ m.cells), Fct.blk g8 47 (wayV.map (.int .i64))] w15 := H
  have H := (H.nil w8.heap.size 34 1).nil w8.heap.size 37 1
  have H : Sep (lentB w8 L w8.heap.size g5 g6 g7 g8 none 0 none 0 0 [] []) w15 := by
    rw [hLd]
    have p : ∀ (x1 x2 x3 x4 : Fct) (l : List Fct), (x2 :: x3 :: x4 :: x1 :: l).Perm (x1 :: x2 :: x3 :: x4 :: l) := fun x1 x2 x3 x4 l => List.perm_middle (l₁ := [x2, x3, x4])
    exact H.perm (.cons _ (p _ _ _ _ _))
  have := lent_loop1 hL (Nat.le_refl _) H (R := fun e w' => e = .returned (.bool true) ∧ Ext w w') fun w' hE' => ⟨rfl, hE.trans hE'⟩
  rw [hLd] at this
  exact this
end
end N6
end Go.Proofs.YteppichfkeknbaaGreatDoor
