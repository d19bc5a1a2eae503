/- Lists that are lengthened one by one, in their place or in new memory: what they stand on at the end. It speaks of any program. -/
import Derived.Test.YtjngdcilnipjcaaGreatDoorBy
import Derived.Test.YtjngdcilnipjcaaGreatDoorXd
import Derived.Test.YtjngdcilnipjcaaGreatDoorBi
namespace Go.Eng
open Go Go.RowKit
section
variable {P : Program} {w w' : World} {b e size n c : Nat} {A : Option Addr} {M u : List Value} {Γ : List Fct}
abbrev baseR (b e size : Nat) (A : Option Addr) (c n : Nat) (M u : List Value) (k : Nat) : Fct := Fct.row b e size A c (n + k) (M ++ reps k u)
inductive Grown (b e size : Nat) (A : Option Addr) (c n : Nat) (M u : List Value) (k m : Nat) : Option Addr → Nat → List Fct → Prop
 | base (h : m ≤ k) : Grown b e size A c n M u k m A c []
 | own (Ag : Option Addr) (cg : Nat) : Grown b e size A c n M u k m Ag cg [baseR b e size Ag cg n M u m]
theorem Grown.more {k k' m : Nat} {Ag : Option Addr} {cg : Nat} {X : List Fct} (h : Grown b e size A c n M u k m Ag cg X) (hk : k ≤ k') : Grown b e size A c n M u k' m Ag cg X := by
 cases h with
 | base h => exact .base (by omega)
 | own => exact .own _ _
theorem base_cells {k m : Nat} (h : Row w b e size A c (n + k) (M ++ reps k u)) (hm : m ≤ k) : Cells w A (M ++ reps m u) := by
 have := h.cells.take (M.length + m * u.length)
 rwa [take_tails hm rfl] at this
theorem Grown.cells {k m : Nat} {Ag : Option Addr} {cg : Nat} {X : List Fct} (h : Grown b e size A c n M u k m Ag cg X) (hb : (baseR b e size A c n M u k).φ w) (hX : ∀ f ∈ X, f.φ w) : Cells w Ag (M ++ reps m u) := by
 cases h with
 | base h => exact base_cells hb h
 | own => exact Row.cells (hX _ List.mem_cons_self)
theorem AppVC.grown {k a m : Nat} {Ag : Option Addr} {cg : Nat} {X : List Fct} (hG : Grown b e size A c n M u k a Ag cg X) (H : Sep (baseR b e size A c n M u k :: (X ++ Γ)) w)
  {t ty : TypeId} {z : Value} {bytes : Nat} (ht : P.underlying t = some (.slice e)) (hT : TypeIs P e z size bytes) (hzs : z.cells.size = size) (hsz : 0 < size)
  {A' : Option Addr} {c' : Nat} {F : Option Addr → Nat → Nat → World → Prop} (hM : M.length = n * size) (hu : u.length = size) (hu1 : ∀ v ∈ u, v.oneCell' = true) (hsrc : Cells w A' (reps m u)) (h0 : 0 < m)
  (hbytes : (n + a + m) * bytes ≤ 140737488355328) (hb0 : 0 < bytes) (hbase : b ≤ w.heap.size)
  (h : ∀ (k' : Nat) (A2 : Option Addr) (c2 : Nat) (X' : List Fct) (w' : World), k ≤ k' → Grown b e size A c n M u k' (a + m) A2 c2 X' → Sep (baseR b e size A c n M u k' :: (X' ++ Γ)) w' → F A2 (n + (a + m)) c2 w') :
  AppVC P #[t, t] ty (.slice Ag (n + a) cg) (.slice A' m c') w F := by
 cases hG with
 | base hak =>
  refine AppVC.tails H 0 rfl ht hT hzs hsz hM hu hu1 hak hsrc h0 hbytes hb0 hbase (fun hr w' H' => ?_) fun A2 c2 w' H' => ?_
  ·have := h (max k (a + m)) _ _ [] w' (by omega) (.base (by omega)) H'
   rw [← Nat.add_assoc] at this; exact this
  ·have H' := H'.front.perm (.swap _ _ _)
   have e1 : n + a + m = n + (a + m) := Nat.add_assoc _ _ _
   rw [e1] at H' ⊢
   exact h k A2 c2 [baseR b e size A2 c2 n M u (a + m)] w' (Nat.le_refl _) (.own _ _) H'
 | own =>
  refine AppVC.tails (a := a) (k := a) H 1 rfl ht hT hzs hsz hM hu hu1 (Nat.le_refl _) hsrc h0 hbytes hb0 hbase (fun hr w' H' => ?_) fun A2 c2 w' H' => ?_
  ·rw [show max a (a + m) = a + m by omega] at H'
   have := h k Ag cg [baseR b e size Ag cg n M u (a + m)] w' (Nat.le_refl _) (.own _ _) H'
   rw [← Nat.add_assoc] at this; exact this
  ·have e1 : n + a + m = n + (a + m) := Nat.add_assoc _ _ _
   rw [e1] at H' ⊢
   have H' := H'.front.perm (.swap _ _ _)
   refine h k A2 c2 [baseR b e size A2 c2 n M u (a + m)] w' (Nat.le_refl _) (.own _ _) (H'.sub (.cons_cons _ (.cons_cons _ ?_)))
   exact .cons _ (List.Sublist.refl _)
theorem Sep.focus {X Y : List Fct} {f : Fct} (H : Sep (Γ ++ (X ++ f :: Y)) w) : Sep (f :: (Γ ++ (X ++ Y))) w := by
 refine H.perm ?_
 have h1 : (Γ ++ (X ++ f :: Y)).Perm (f :: (Γ ++ (X ++ Y))) := by
  rw [← List.append_assoc, ← List.append_assoc]
  exact List.perm_middle
 exact h1.symm
end
end Go.Eng
/- Lists that were handed out and left as they were: all are written full, each with a mark of its own, then each is lengthened; each holds its own (sum's Apart). -/
namespace Go.Eng
open Go Go.RowKit
structure GR where
 A : Option Addr
 n : Nat
 c : Nat
 xs : List Value
def GR.val (r : GR) : Value := .slice r.A r.n r.c
def rawR (b e s : Nat) (r : GR) : Fct := Fct.row b e s r.A r.c r.n r.xs
def fullR (b e s : Nat) (mk : Nat → List Value) (i : Nat) (r : GR) : Fct := Fct.row b e s r.A r.c r.n (reps r.n (mk i))
def mapI {α β : Type} (f : Nat → α → β) : Nat → List α → List β
 | _, [] => []
 | j, a :: l => f j a :: mapI f (j + 1) l
theorem mapI_snoc {α β : Type} (f : Nat → α → β) : ∀ (l : List α) (j : Nat) (a : α), mapI f j (l ++ [a]) = mapI f j l ++ [f (j + l.length) a]
 | [], j, a => rfl
 | x :: l, j, a => by
  show f j x :: mapI f (j + 1) (l ++ [a]) = _
  rw [mapI_snoc f l (j + 1) a]
  show _ = f j x :: mapI f (j + 1) l ++ [f (j + (l.length + 1)) a]
  rw [show j + 1 + l.length = j + (l.length + 1) by omega]; rfl
theorem drop_consA {α : Type} {l : List α} {i : Nat} {a : α} (h : l[i]? = some a) : l.drop i = a :: l.drop (i + 1) := by
 obtain ⟨hi, rfl⟩ := List.getElem?_eq_some_iff.1 h
 exact List.drop_eq_getElem_cons hi
theorem take_snocA {α : Type} {l : List α} {i : Nat} {a : α} (h : l[i]? = some a) : l.take (i + 1) = l.take i ++ [a] := by
 rw [List.take_add_one, h]; rfl
section
variable {w w' : World} {Γ : List Fct} {f : Fct} {lA : Option Addr} {ln : Nat} {rows : List GR}
theorem Sep.mid {Y Z : List Fct} (H : Sep (Y ++ f :: Z) w) : Sep (f :: (Y ++ Z)) w := H.perm List.perm_middle.symm
theorem Sep.dropEnd {Y : List Fct} (H : Sep (Y ++ [f]) w) : Sep Y w := H.sub (List.sublist_append_left _ _)
theorem perm_unfocus {X Y Z : List Fct} : (Γ ++ (X ++ (f :: Z) ++ Y)).Perm (f :: (Z ++ (Γ ++ (X ++ Y)))) := by
 have h1 : (Γ ++ (X ++ (f :: Z) ++ Y)).Perm ((f :: Z) ++ (Γ ++ (X ++ Y))) := by
  rw [List.append_assoc, ← List.append_assoc, ← List.append_assoc Γ X Y]
  exact List.perm_append_comm_assoc _ _ _
 exact h1
theorem idx_rowsD {S : World → Prop} {i : Nat} {r : GR} (hw : S w) (hS : ∀ w', S w' → Cells w' lA (rows.map GR.val)) (hr : rows[i]? = some r) (hl : rows.length = ln) {F : Addr → Prop} (hF : ∀ a, (∀ w', S w' → w'.cell? a = some (.slice r.A r.n r.c)) → F a) : IdxVC lA ln 1 (i : Int) F := by
 have hi := (List.getElem?_eq_some_iff.1 hr).1
 have hg : (rows.map GR.val)[i]? = some (.slice r.A r.n r.c) := by rw [List.getElem?_map, hr]; rfl
 obtain ⟨a, ha, _⟩ := hS w hw i _ hg
 refine ⟨a, ha, by omega, by omega, hF _ fun w' hw' => ?_⟩
 obtain ⟨a', ha', hc⟩ := hS w' hw' i _ hg
 rw [ha] at ha'; cases ha'
 rw [Int.toNat_natCast, Nat.mul_one]; exact hc
theorem idx_rows {i : Nat} {r : GR} (h : Cells w lA (rows.map GR.val)) (hr : rows[i]? = some r) (hl : rows.length = ln) {F : Addr → Prop} (hF : ∀ a, w.cell? a = some (.slice r.A r.n r.c) → F a) : IdxVC lA ln 1 (i : Int) F :=
 idx_rowsD (S := fun w' => w' = w) rfl (fun w' e => by rw [e]; exact h) hr hl fun a ha => hF a (ha w rfl)
theorem sum_le {B : Nat} : ∀ (l : List GR), (∀ r ∈ l, r.n ≤ B) → (l.map GR.n).sum ≤ l.length * B
 | [], _ => by simp
 | r :: l, h => by
  have h1 := sum_le l fun x hx => h x (by simp [hx])
  have h2 := h r (by simp)
  simp only [List.map_cons, List.sum_cons, List.length_cons, Nat.add_mul, Nat.one_mul]
  omega
theorem full_cells {xs : List Value} {v : Value} {n : Nat} (hl : xs.length = n) (h : ∀ j, j < n → xs[j]? = some v) : xs = reps n [v] := by
 have e : ∀ n, reps n [v] = List.replicate n v := fun n => by
  unfold reps
  induction n with
  | zero => rfl
  | succ n ih => rw [List.replicate_succ, List.flatten_cons, ih, List.replicate_succ]; rfl
 rw [e]
 refine List.ext_getElem (by simp [hl]) fun i h1 h2 => ?_
 have := h i (by omega)
 rw [List.getElem?_eq_getElem h1] at this
 injection this with this
 rw [this]; simp
end
end Go.Eng
namespace Go.Proofs.YtjngdcilnipjcaaGreatDoor
namespace N6
open Go.Eng Go.RowKit
theorem tS : TypeIs Tryz.prog 25 (.slice none 0 0) 1 24 := .of (by kernel_rfl)
def mkA (i : Nat) : List Value := [.int .u8 ((i % 200 + 40 : Nat) : Int)]
theorem mkA_val {i : Nat} (_h : i ≤ 100) : IntKind.u8.wrap (IntKind.i64.wrap (Int.tmod (i : Int) 200 + 40)) = ((i % 200 + 40 : Nat) : Int) := by
 have e : Int.tmod (i : Int) 200 = ((i % 200 : Nat) : Int) := tmod_nat i 200
 rw [e, w64 (by omega) (by omega), wu8 (by omega) (by omega)]; omega
section
variable {w w0 : World} {Γ0 : List Fct} {b ln lc : Nat} {lA : Option Addr} {rows : List GR}
theorem full_spec {A : Option Addr} {n c : Nat} {m : Int} (h : Cells w A (reps n [.int .u8 m])) (hn : n ≤ 100000000) : Calls Tryz.prog 51 #[.slice A n c, .int .u8 m] w fun e w' => w' = w ∧ e = .returned (.bool true) := by
 refine weirlaw2_full_of A n c m w _ ?_
 unfold weirlaw2_full_VC
 rw [reps_map] at h
 refine LoopVC.of (fun st w' => w' = w ∧ ∃ i : Nat, st = (i : Int) ∧ i ≤ n) (fun st _ => ((n : Int) - st).toNat) ⟨rfl, 0, rfl, Nat.zero_le _⟩ ?_
 rintro _ w1 ⟨hw, i, rfl, hi⟩
 subst w1
 show weirlaw2_full_L26 _ A n m (i : Int) w _
 unfold weirlaw2_full_L26
 refine Br.dec (fun hlt => ?_) fun hge => ⟨rfl, rfl⟩
 have e1 : IntKind.i64.wrap ((i : Int) + 1) = ((i + 1 : Nat) : Int) := by rw [w64 (by omega) (by omega)]; omega
 refine IdxVC.int h (by omega) hlt (by simp) fun a ha => ⟨_, ha, Br.no ?_ ⟨⟨rfl, i + 1, e1, by omega⟩, by rw [e1]; omega⟩⟩
 rw [Int.toNat_natCast]
 simp [List.getD_eq_getElem?_getD, show i < n by omega]
def Stood (mk : Nat → List Value) (T : Nat) (rows gs : List GR) (D : List Fct) : Prop :=
 ∀ w2, (∀ f ∈ D, f.φ w2) → ∀ (j : Nat) (r g : GR), rows[j]? = some r → gs[j]? = some g → g.n = r.n + T ∧ Cells w2 r.A (reps r.n (mk j)) ∧ Cells w2 g.A (reps (r.n + T) (mk j))
set_option maxHeartbeats 8000000 in
theorem apart_spec (H : Sep (Γ0 ++ rows.map (rawR b 5 1)) w) (h0 : Γ0[0]? = some (Fct.rest w0 None)) (hb : b ≤ w0.heap.size) (hl : ∀ w', (∀ f ∈ Γ0, f.φ w') → Cells w' lA (rows.map GR.val)) (hlen : rows.length = ln) (hsm : ln ≤ 100) (hn : ∀ r ∈ rows, r.n ≤ 100000) :
  Calls Tryz.prog 21 #[.slice lA ln lc] w fun e w' => e = .returned (.bool true) ∧ ∃ Δ, Sep (Γ0 ++ Δ) w' := by
 refine weirlaw2_Apart_of lA ln lc w _ ?_
 unfold weirlaw2_Apart_VC
 have hin : ∀ {i : Nat} {r : GR}, rows[i]? = some r → r.n ≤ 100000 := fun h => hn _ (List.mem_of_getElem? h)
 have hget : ∀ i, i < ln → ∃ r, rows[i]? = some r := fun i hi => ⟨_, List.getElem?_eq_getElem (by omega)⟩
 have hsumT : ∀ i, ((rows.take i).map GR.n).sum ≤ 10000000 := fun i => by
  have h1 := sum_le (B := 100000) (rows.take i) fun r hr => hn r (List.mem_of_mem_take hr)
  have h2 : (rows.take i).length ≤ 100 := by rw [List.length_take]; omega
  have h3 : (rows.take i).length * 100000 ≤ 100 * 100000 := Nat.mul_le_mul_right _ h2
  omega
 have hrest : ∀ {Y : List Fct} {w' : World}, Sep (Γ0 ++ Y) w' → w0.heap.size ≤ w'.heap.size := fun H => (H.restOf 0 (by
  rw [List.getElem?_append_left (List.getElem?_eq_some_iff.1 h0).1]; exact h0)).size
 refine LoopVC.of (fun st w' => ∃ i : Nat, st.2 = (i : Int) ∧ i ≤ ln ∧ st.1 = ((70 + ((rows.take i).map GR.n).sum : Nat) : Int) ∧ Sep (Γ0 ++ (mapI (fullR b 5 1 mkA) 0 (rows.take i) ++ (rows.drop i).map (rawR b 5 1))) w') (fun st _ => ((ln : Int) - st.2).toNat)
  ⟨0, rfl, Nat.zero_le _, rfl, H⟩ ?_
 rintro ⟨_, _⟩ w1 ⟨i, rfl, hi, htot, H⟩
 simp only at htot
 subst htot
 show weirlaw2_Apart_L58 _ lA ln _ (i : Int) w1 _
 unfold weirlaw2_Apart_L58
 refine Br.dec (fun hlt => ?_) fun hge => ?_
 ·obtain ⟨r, hr⟩ := hget i (by omega)
  have hrn := hin hr
  have hmk := mkA_val (i := i) (by omega)
  have e1 : IntKind.i64.wrap ((i : Int) + 1) = ((i + 1 : Nat) : Int) := by rw [w64 (by omega) (by omega)]; omega
  rw [drop_consA hr, List.map_cons] at H
  refine idx_rows (hl _ fun f hf => H.mem (List.mem_append_left _ hf)) hr hlen fun a ha => ⟨_, _, _, ha, ?_⟩
  obtain ⟨D, hD⟩ : ∃ D, D = mapI (fullR b 5 1 mkA) 0 (rows.take i) := ⟨_, rfl⟩
  obtain ⟨T, hT⟩ : ∃ T, T = (rows.drop (i + 1)).map (rawR b 5 1) := ⟨_, rfl⟩
  rw [← hD, ← hT] at H
  have H := H.focus
  refine LoopVC.of (fun st w' => ∃ (k : Nat) (ys : List Value), st = (k : Int) ∧ k ≤ r.n ∧ ys.length = r.n ∧ (∀ j, j < k → ys[j]? = some (.int .u8 ((i % 200 + 40 : Nat) : Int))) ∧ Sep (Fct.row b 5 1 r.A r.c r.n ys :: (Γ0 ++ (D ++ T))) w') (fun st _ => ((r.n : Int) - st).toNat)
   ⟨0, r.xs, rfl, Nat.zero_le _, by have := (H.row 0 rfl).1; omega, fun j hj => absurd hj (by omega), H⟩ ?_
  rintro _ w2 ⟨k, ys, rfl, hk, hyl, hy, H⟩
  show weirlaw2_Apart_L7462 lA ln _ (i : Int) _ r.n (k : Int) w2 _
  unfold weirlaw2_Apart_L7462
  have hl2 := hl w2 fun f hf => H.mem (List.mem_cons_of_mem _ (List.mem_append_left _ hf))
  refine idx_rows hl2 hr hlen fun a ha => ⟨_, _, _, ha, Br.dec (fun hk1 => ?_) fun hk1 => ?_⟩
  ·refine idx_rows hl2 hr hlen fun a ha => ⟨_, _, _, ha, ?_⟩
   rw [hmk]
   have e2 : IntKind.i64.wrap ((k : Int) + 1) = ((k + 1 : Nat) : Int) := by rw [w64 (by omega) (by omega)]; omega
   refine IdxVC.rowSet H 0 rfl (by omega) (by omega) fun a ha => ha _ _ rfl fun w3 H3 => ?_
   refine ⟨⟨k + 1, _, e2, by omega, by simpa using hyl, fun j hj => ?_, H3⟩, by rw [e2]; omega⟩
   by_cases e : j = k
   ·subst e; rw [List.getElem?_set_self (by omega)]
   ·rw [List.getElem?_set_ne (Ne.symm e)]; exact hy j (by omega)
  ·have hkn : k = r.n := by omega
   have hys := full_cells hyl fun j hj => hy j (by omega)
   subst hys
   have hs1 := hsumT i
   have e3 : IntKind.i64.wrap (((70 + ((rows.take i).map GR.n).sum : Nat) : Int) + (r.n : Int)) = ((70 + ((rows.take (i + 1)).map GR.n).sum : Nat) : Int) := by
    rw [take_snocA hr, List.map_append, List.sum_append, w64 (by omega) (by omega)]
    simp only [List.map_cons, List.map_nil, List.sum_cons, List.sum_nil]
    omega
   refine ⟨⟨i + 1, e1, by omega, e3, ?_⟩, by simp only [e1]; omega⟩
   rw [take_snocA hr, mapI_snoc, ← hD, ← hT]
   have hli : 0 + (rows.take i).length = i := by rw [List.length_take]; omega
   rw [hli]
   exact H.perm (perm_unfocus (Z := []))
 have hin' : i = ln := by omega
 subst hin'
 rw [List.take_of_length_le (by omega), List.drop_of_length_le (by omega), List.map_nil, List.append_nil] at H
 rw [List.take_of_length_le (by omega)]
 obtain ⟨T, hT⟩ : ∃ T, T = 70 + (rows.map GR.n).sum := ⟨_, rfl⟩
 have hTs : T ≤ 20000000 := by
  have := hsumT i
  rw [List.take_of_length_le (by omega)] at this
  omega
 rw [← hT]
 refine LoopVC.of (fun st w' => ∃ (j : Nat) (D : List Fct) (gs : List GR), st.2 = (j : Int) ∧ j ≤ i ∧ gs.length = j ∧ st.1.2.1 = j ∧ Stood mkA T rows gs D ∧
   Sep (Fct.own b 25 1 (.slice st.1.1 st.1.2.1 st.1.2.2) st.1.2.1 (gs.map GR.val) :: (Γ0 ++ (D ++ mapI (fullR b 5 1 mkA) j (rows.drop j)))) w') (fun st _ => ((i : Int) - st.2).toNat)
  ⟨0, [], [], rfl, Nat.zero_le _, rfl, rfl, (fun w2 _ j r g _ hg => by simp at hg), (H.nil b 25 1).front⟩ ?_
 rintro ⟨⟨LA, Ln, Lc⟩, _⟩ w4 ⟨j, D, gs, rfl, hj, hgl, hLn, hst, H⟩
 simp only at hLn
 have hLn := hLn.symm
 subst hLn
 have H : Sep (Fct.own b 25 1 (.slice LA j Lc) j (gs.map GR.val) :: (Γ0 ++ (D ++ mapI (fullR b 5 1 mkA) j (rows.drop j)))) w4 := H
 show weirlaw2_Apart_L250 _ lA i (T : Int) LA j Lc (j : Int) w4 _
 unfold weirlaw2_Apart_L250
 refine Br.dec (fun hlt => ?_) fun hge => ?_
 ·obtain ⟨r, hr⟩ := hget j (by omega)
  have hrn := hin hr
  have hmk := mkA_val (i := j) (by omega)
  have e1 : IntKind.i64.wrap ((j : Int) + 1) = ((j + 1 : Nat) : Int) := by rw [w64 (by omega) (by omega)]; omega
  refine idx_rows (hl _ fun f hf => H.mem (List.mem_cons_of_mem _ (List.mem_append_left _ hf))) hr hlen fun a ha => ⟨_, _, _, ha, ?_⟩
  rw [drop_consA hr] at H
  obtain ⟨R, hR⟩ : ∃ R, R = mapI (fullR b 5 1 mkA) (j + 1) (rows.drop (j + 1)) := ⟨_, rfl⟩
  have H : Sep ((Fct.own b 25 1 (.slice LA j Lc) j (gs.map GR.val) :: Γ0) ++ (D ++ fullR b 5 1 mkA j r :: R)) w4 := by rw [hR]; exact H
  have H := H.focus
  obtain ⟨Γ1, hΓ1⟩ : ∃ Γ1, Γ1 = Fct.own b 25 1 (.slice LA j Lc) j (gs.map GR.val) :: (Γ0 ++ (D ++ R)) := ⟨_, rfl⟩
  have H : Sep (baseR b 5 1 r.A r.c r.n (reps r.n (mkA j)) (mkA j) 0 :: ([] ++ Γ1)) w4 := by
   rw [hΓ1]
   have e : baseR b 5 1 r.A r.c r.n (reps r.n (mkA j)) (mkA j) 0 = fullR b 5 1 mkA j r := by unfold baseR fullR; rw [reps_zero, List.append_nil]; rfl
   rw [e]; exact H
  have szG : ∀ {Y : List Fct} {w' : World}, Sep (Y ++ Γ1) w' → w0.heap.size ≤ w'.heap.size := fun {Y w'} H => by
   rw [hΓ1] at H
   have H := H.perm (List.perm_append_comm)
   have H : Sep (_ :: (Γ0 ++ (D ++ R)) ++ Y) w' := H
   rw [List.cons_append, List.append_assoc] at H
   exact hrest H.tail
  refine LoopVC.of (fun st w' => ∃ (a k : Nat) (X : List Fct), st.2 = (a : Int) ∧ a ≤ T ∧ st.1.2.1 = r.n + a ∧ Grown b 5 1 r.A r.c r.n (reps r.n (mkA j)) (mkA j) k a st.1.1 st.1.2.2 X ∧ Sep (baseR b 5 1 r.A r.c r.n (reps r.n (mkA j)) (mkA j) k :: (X ++ Γ1)) w') (fun st _ => ((T : Int) - st.2).toNat)
   ⟨0, 0, [], rfl, Nat.zero_le _, rfl, .base (Nat.le_refl _), H⟩ ?_
  rintro ⟨⟨gA, gn, gc⟩, _⟩ w5 ⟨a, k, X, rfl, haT, hgn, hG, H⟩
  simp only at hgn hG
  subst hgn
  show weirlaw2_Apart_L64074 (T : Int) LA j Lc (j : Int) _ gA (r.n + a) gc (a : Int) w5 _
  unfold weirlaw2_Apart_L64074
  refine Br.dec (fun ha1 => ?_) fun ha1 => ?_
  ·rw [hmk]
   have e2 : IntKind.i64.wrap ((a : Int) + 1) = ((a + 1 : Nat) : Int) := by rw [w64 (by omega) (by omega)]; omega
   refine NewVC.sep H fun g1 w6 H => ?_
   rw [List.cons_append, List.append_assoc] at H
   have hz6 := szG (Y := baseR b 5 1 r.A r.c r.n (reps r.n (mkA j)) (mkA j) k :: X) (w' := w6) (by
    have := (H.perm (List.Perm.refl _) : Sep ((baseR b 5 1 r.A r.c r.n (reps r.n (mkA j)) (mkA j) k :: X) ++ (Γ1 ++ [Fct.blk g1 5 (mkA j)])) w6)
    rw [← List.append_assoc] at this
    exact this.dropEnd)
   have hsrc : Cells w6 (some ⟨g1, 0, none⟩) (reps 1 (mkA j)) := by
    rw [reps_one]
    exact Cells.blk0 (H.mem (f := Fct.blk g1 5 (mkA j)) (List.mem_cons_of_mem _ (List.mem_append_right _ (List.mem_append_right _ List.mem_cons_self))))
   refine AppVC.grown hG H Tryz.underlying25 tB rfl (by decide) (by rw [reps_len]; rfl) rfl (fun v hv => by simp [mkA] at hv; subst hv; rfl) hsrc (by decide) (by omega) (by decide) (by omega) fun k' A2 c2 X' w7 hk' hG' H7 => ?_
   refine ⟨⟨a + 1, k', X', e2, by omega, rfl, hG', ?_⟩, by simp only [e2]; omega⟩
   have H7 : Sep ((baseR b 5 1 r.A r.c r.n (reps r.n (mkA j)) (mkA j) k' :: X') ++ (Γ1 ++ [Fct.blk g1 5 (mkA j)])) w7 := H7
   rw [← List.append_assoc] at H7
   exact H7.dropEnd
  ·have haT' : a = T := by omega
   subst haT'
   refine NewVC.sep H fun g2 w8 H => ?_
   have H : Sep ((baseR b 5 1 r.A r.c r.n (reps r.n (mkA j)) (mkA j) k :: X) ++ Γ1 ++ [Fct.blk g2 25 [.slice gA (r.n + a) gc]]) w8 := H
   have hz8 := szG H.dropEnd
   rw [hΓ1, List.append_assoc] at H
   have H : Sep ((baseR b 5 1 r.A r.c r.n (reps r.n (mkA j)) (mkA j) k :: X) ++ Fct.own b 25 1 (.slice LA j Lc) j (gs.map GR.val) :: ((Γ0 ++ (D ++ R)) ++ [Fct.blk g2 25 [.slice gA (r.n + a) gc]])) w8 := H
   have H := H.mid
   have hsrc : Cells w8 (some ⟨g2, 0, none⟩) [Value.slice gA (r.n + a) gc] := Cells.blk0 (H.mem (f := Fct.blk g2 25 [.slice gA (r.n + a) gc]) (by simp))
   refine AppVC.sep H 0 Tryz.underlying51 tS rfl (by decide) rfl hsrc rfl (fun v hv => by simp at hv; subst hv; rfl) (by omega) (by decide) (by omega) fun A3 c3 w9 H9 _ => ?_
   have H9 : Sep (Fct.own b 25 1 (.slice A3 (j + 1) c3) (j + 1) (gs.map GR.val ++ [.slice gA (r.n + a) gc]) :: ((baseR b 5 1 r.A r.c r.n (reps r.n (mkA j)) (mkA j) k :: X) ++ ((Γ0 ++ (D ++ R)) ++ [Fct.blk g2 25 [.slice gA (r.n + a) gc]]))) w9 := H9
   rw [← List.append_assoc, ← List.cons_append] at H9
   have H9 := H9.dropEnd
   refine ⟨⟨j + 1, D ++ (baseR b 5 1 r.A r.c r.n (reps r.n (mkA j)) (mkA j) k :: X), gs ++ [⟨gA, r.n + a, gc, []⟩], e1, by omega, by simp [hgl], rfl, ?_, ?_⟩, by simp only [e1]; omega⟩
   ·intro w2 hf q r' g hr' hg
    rcases Nat.lt_trichotomy q j with hq | hq | hq
    ·rw [List.getElem?_append_left (by omega)] at hg
     exact hst w2 (fun f hf' => hf f (List.mem_append_left _ hf')) q r' g hr' hg
    ·subst hq
     rw [List.getElem?_append_right (by omega), hgl, Nat.sub_self] at hg
     injection hg with hg; subst hg
     rw [hr] at hr'; injection hr' with hr'; subst hr'
     have hbase : (baseR b 5 1 r.A r.c r.n (reps r.n (mkA q)) (mkA q) k).φ w2 := hf _ (List.mem_append_right _ List.mem_cons_self)
     refine ⟨rfl, ?_, ?_⟩
     ·have := base_cells (m := 0) hbase (Nat.zero_le _)
      rwa [reps_zero, List.append_nil] at this
     ·have := hG.cells hbase fun f hfX => hf f (List.mem_append_right _ (List.mem_cons_of_mem _ hfX))
      rwa [← reps_add] at this
    ·have := (List.getElem?_eq_some_iff.1 hg).1
     simp at this; omega
   ·rw [List.map_append]
    refine H9.perm (.cons _ ?_)
    rw [← hR]
    exact perm_unfocus
 have hjn : j = i := by omega
 subst hjn
 have hE0 : ∀ {w'}, Sep (Fct.own b 25 1 (.slice LA j Lc) j (gs.map GR.val) :: (Γ0 ++ (D ++ mapI (fullR b 5 1 mkA) j (rows.drop j)))) w' → (Cells w' lA (rows.map GR.val) ∧ Cells w' LA (gs.map GR.val)) := fun H => ⟨hl _ fun f hf => H.mem (List.mem_cons_of_mem _ (List.mem_append_left _ hf)), H.cells 0 rfl⟩
 refine LoopVC.of (fun st w' => ∃ q : Nat, st = (q : Int) ∧ q ≤ j ∧ Sep (Fct.own b 25 1 (.slice LA j Lc) j (gs.map GR.val) :: (Γ0 ++ (D ++ mapI (fullR b 5 1 mkA) j (rows.drop j)))) w') (fun st _ => ((j : Int) - st).toNat) ⟨0, rfl, Nat.zero_le _, H⟩ ?_
 rintro _ w10 ⟨q, rfl, hq, H⟩
 show weirlaw2_Apart_L506 _ lA j (T : Int) LA j (q : Int) w10 _
 unfold weirlaw2_Apart_L506
 refine Br.dec (fun hlt => ?_) fun hge => ⟨rfl, _, H.tail⟩
 obtain ⟨r, hr⟩ := hget q (by omega)
 obtain ⟨g, hg⟩ : ∃ g, gs[q]? = some g := ⟨_, List.getElem?_eq_getElem (by omega)⟩
 have hrn := hin hr
 have hmk := mkA_val (i := q) (by omega)
 have e1 : IntKind.i64.wrap ((q : Int) + 1) = ((q + 1 : Nat) : Int) := by rw [w64 (by omega) (by omega)]; omega
 refine DrawVC.sep H (fun w' => Cells w' lA (rows.map GR.val) ∧ Cells w' LA (gs.map GR.val)) fun w11 H => ⟨hE0 H, ?_⟩
 have hS := hE0 H
 obtain ⟨hgn, hc1, hc2⟩ := hst w11 (fun f hf => H.mem (List.mem_cons_of_mem _ (List.mem_append_right _ (List.mem_append_left _ hf)))) q r g hr hg
 rw [hmk]
 refine idx_rowsD hS (fun w' h => h.1) hr hlen fun a ha => ⟨_, _, _, ha, ?_⟩
 refine (full_spec hc1 (by omega)).mono ?_
 rintro _ _ ⟨rfl, rfl⟩
 refine ⟨_, rfl, hS, Br.f rfl ?_⟩
 refine idx_rowsD hS (fun w' h => h.2) hg hgl fun a ha => ⟨_, _, _, ha, ?_⟩
 refine (full_spec (by rw [hgn]; exact hc2) (by omega)).mono ?_
 rintro _ _ ⟨rfl, rfl⟩
 refine ⟨_, rfl, hS, Br.f rfl ?_⟩
 refine idx_rowsD hS (fun w' h => h.2) hg hgl fun a ha => ⟨_, _, _, ha, idx_rowsD hS (fun w' h => h.1) hr hlen fun a ha => ⟨_, _, _, ha, Br.no ?_ ⟨⟨q + 1, e1, by omega, H⟩, by rw [e1]; omega⟩⟩⟩
 rw [w64 (by omega) (by omega), hgn]
 omega
end
end N6
end Go.Proofs.YtjngdcilnipjcaaGreatDoor
