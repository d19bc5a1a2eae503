/- WRITTEN BY a program of this session (vc.py): for each Go function the condition that is enough for its contract, and the theorem that it is. -/
import Derived.Test.YtkiogaglmjeplaaDoorProg
import Derived.Test.YtkiogaglmjeplaaDoorBq
import Derived.Test.YtkiogaglmjeplaaDoorBn
import Derived.Test.YtkiogaglmjeplaaDoorBe
import Derived.Test.YtkiogaglmjeplaaDoorBm
import Derived.Test.YtkiogaglmjeplaaDoorBj
namespace Go.Proofs.YtkiogaglmjeplaaDoor
open Go.Eng
namespace N6

set_option maxRecDepth 100000 in
def weirref7_copied_VC (bA : Option Addr) (bn : Nat) (bc : Nat) (w : World) (R : Ending → World → Prop) : Prop :=
  AppVC Tryd.prog #[22, 22] 22 (.slice none 0 0) (.slice bA bn bc) w fun lA ln lc w1 =>
  R (.returned (.slice lA ln lc)) w1
def weirref7_copied_H : Hints := []
set_option maxRecDepth 100000 in
theorem weirref7_copied_of (bA : Option Addr) (bn : Nat) (bc : Nat) (w : World) (R : Ending → World → Prop) (hvc_ : weirref7_copied_VC bA bn bc w R) :
    Calls Tryd.prog 57 #[.slice bA bn bc] w R :=
  calls_of_wpc callOk mixedOk (H := weirref7_copied_H) (args := [.slice bA bn bc]) (fn := Tryd.f57) (c := bodyOf Tryd.f57) Tryd.func57 rfl (Nat.le_of_ble_eq_true rfl)
    (Eq.mp (by kernel_rfl : weirref7_copied_VC bA bn bc w R = wpc Tryd.prog callF Tryd.f57.ntmps weirref7_copied_H 1 (bodyOf Tryd.f57) (argEnv 0 [.slice bA bn bc]) [] w (finish Tryd.prog callF Tryd.f57.results.toList R)) hvc_)

set_option maxRecDepth 100000 in
def weirref7_CloneOpts_L58 (R : Ending → World → Prop) (lA : Option Addr) (ln : Nat) (outA : Option Addr) (outn : Nat) (outc : Nat) (i : Int) (w1 : World) (K58 : ((Option Addr × Nat × Nat) × Int → World → Prop)) : Prop :=
  Br (decide (i < (ln : Int)))
    (DrawVC w1 fun S1 w2 =>
  IdxVC lA ln 2 i fun a =>
  ∃ x : Int, (∀ w' : World, S1 w' → w'.cell? a = some (.int .i64 x)) ∧
  IdxVC lA ln 2 i fun a1 =>
  ∃ (xA : Option Addr) (xn xc : Nat), (∀ w' : World, S1 w' → w'.cell? (a1.add 1) = some (.slice xA xn xc)) ∧
  Calls Tryd.prog 57 #[.slice xA xn xc] w2 (onRet (fun r_ w3 => ∃ (xA1 : Option Addr) (xn1 xc1 : Nat), r_ = .slice xA1 xn1 xc1 ∧
  S1 w3 ∧
  NewVC w3 (.cells #[.int .i64 x, .slice xA1 xn1 xc1] 65) fun g1 w4 =>
  S1 w4 ∧
  AppVC Tryd.prog #[52, 52] 52 (.slice outA outn outc) (.slice (some ⟨g1, 0, none⟩) 1 1) w4 fun lA1 ln1 lc1 w5 =>
  S1 w5 ∧
  K58 ((lA1, ln1, lc1), IntKind.i64.wrap (i + 1)) w5)
    (fun _ _ => False)))
    (R (.returned (.slice outA outn outc)) w1)
set_option maxRecDepth 100000 in
def weirref7_CloneOpts_VC (lA : Option Addr) (ln : Nat) (_lc : Nat) (w : World) (R : Ending → World → Prop) : Prop :=
  LoopVC (S := (Option Addr × Nat × Nat) × Int) (fun s_ w1 K58 => weirref7_CloneOpts_L58 R lA ln s_.1.1 s_.1.2.1 s_.1.2.2 s_.2 w1 K58) ((none, 0, 0), 0) w
def weirref7_CloneOpts_H : Hints := [(58, [(3, .slice), (4, .int .i64)])]
set_option maxRecDepth 100000 in
theorem weirref7_CloneOpts_of (lA : Option Addr) (ln : Nat) (lc : Nat) (w : World) (R : Ending → World → Prop) (hvc_ : weirref7_CloneOpts_VC lA ln lc w R) :
    Calls Tryd.prog 88 #[.slice lA ln lc] w R :=
  calls_of_wpc callOk mixedOk (H := weirref7_CloneOpts_H) (args := [.slice lA ln lc]) (fn := Tryd.f88) (c := bodyOf Tryd.f88) Tryd.func88 rfl (Nat.le_of_ble_eq_true rfl)
    (Eq.mp (by kernel_rfl : weirref7_CloneOpts_VC lA ln lc w R = wpc Tryd.prog callF Tryd.f88.ntmps weirref7_CloneOpts_H 1 (bodyOf Tryd.f88) (argEnv 0 [.slice lA ln lc]) [] w (finish Tryd.prog callF Tryd.f88.results.toList R)) hvc_)

set_option maxRecDepth 100000 in
def weirref7_CloneExts_L58 (R : Ending → World → Prop) (lA : Option Addr) (ln : Nat) (outA : Option Addr) (outn : Nat) (outc : Nat) (i : Int) (w1 : World) (K58 : ((Option Addr × Nat × Nat) × Int → World → Prop)) : Prop :=
  Br (decide (i < (ln : Int)))
    (DrawVC w1 fun S1 w2 =>
  IdxVC lA ln 3 i fun a =>
  ∃ x : Int, (∀ w' : World, S1 w' → w'.cell? a = some (.int .i64 x)) ∧
  IdxVC lA ln 3 i fun a1 =>
  ∃ (xA : Option Addr) (xn xc : Nat), (∀ w' : World, S1 w' → w'.cell? (a1.add 1) = some (.slice xA xn xc)) ∧
  IdxVC lA ln 3 i fun a2 =>
  ∃ (xA1 : Option Addr) (xn1 xc1 : Nat), (∀ w' : World, S1 w' → w'.cell? (a2.add 2) = some (.slice xA1 xn1 xc1)) ∧
  Calls Tryd.prog 88 #[.slice xA xn xc] w2 (onRet (fun r_ w3 => ∃ (xA2 : Option Addr) (xn2 xc2 : Nat), r_ = .slice xA2 xn2 xc2 ∧
  S1 w3 ∧
  Calls Tryd.prog 57 #[.slice xA1 xn1 xc1] w3 (onRet (fun r_1 w4 => ∃ (xA3 : Option Addr) (xn3 xc3 : Nat), r_1 = .slice xA3 xn3 xc3 ∧
  S1 w4 ∧
  NewVC w4 (.cells #[.int .i64 x, .slice xA2 xn2 xc2, .slice xA3 xn3 xc3] 54) fun g1 w5 =>
  S1 w5 ∧
  AppVC Tryd.prog #[26, 26] 26 (.slice outA outn outc) (.slice (some ⟨g1, 0, none⟩) 1 1) w5 fun lA1 ln1 lc1 w6 =>
  S1 w6 ∧
  K58 ((lA1, ln1, lc1), IntKind.i64.wrap (i + 1)) w6)
    (fun _ _ => False)))
    (fun _ _ => False)))
    (R (.returned (.slice outA outn outc)) w1)
set_option maxRecDepth 100000 in
def weirref7_CloneExts_VC (lA : Option Addr) (ln : Nat) (_lc : Nat) (w : World) (R : Ending → World → Prop) : Prop :=
  LoopVC (S := (Option Addr × Nat × Nat) × Int) (fun s_ w1 K58 => weirref7_CloneExts_L58 R lA ln s_.1.1 s_.1.2.1 s_.1.2.2 s_.2 w1 K58) ((none, 0, 0), 0) w
def weirref7_CloneExts_H : Hints := [(58, [(3, .slice), (4, .int .i64)])]
set_option maxRecDepth 100000 in
theorem weirref7_CloneExts_of (lA : Option Addr) (ln : Nat) (lc : Nat) (w : World) (R : Ending → World → Prop) (hvc_ : weirref7_CloneExts_VC lA ln lc w R) :
    Calls Tryd.prog 56 #[.slice lA ln lc] w R :=
  calls_of_wpc callOk mixedOk (H := weirref7_CloneExts_H) (args := [.slice lA ln lc]) (fn := Tryd.f56) (c := bodyOf Tryd.f56) Tryd.func56 rfl (Nat.le_of_ble_eq_true rfl)
    (Eq.mp (by kernel_rfl : weirref7_CloneExts_VC lA ln lc w R = wpc Tryd.prog callF Tryd.f56.ntmps weirref7_CloneExts_H 1 (bodyOf Tryd.f56) (argEnv 0 [.slice lA ln lc]) [] w (finish Tryd.prog callF Tryd.f56.results.toList R)) hvc_)

set_option maxRecDepth 100000 in
def weirref7_Clone_VC (h : Ip6V) (w : World) (R : Ending → World → Prop) : Prop :=
  NewVC w (.cells h.cells.toArray 30) fun g1 w1 =>
  NewVC w1 (.cells (Ip6V.z : Ip6V).cells.toArray 30) fun g2 w2 =>
  ∃ (xA : Option Addr) (xn xc : Nat), w2.cell? ⟨g1, 37, none⟩ = some (.slice xA xn xc) ∧
  Calls Tryd.prog 56 #[.slice xA xn xc] w2 (onRet (fun r_ w3 => ∃ (xA1 : Option Addr) (xn1 xc1 : Nat), r_ = .slice xA1 xn1 xc1 ∧
  SetVC w3 ⟨g1, 37, none⟩ (.slice xA1 xn1 xc1) fun w4 =>
  ∃ (xA2 : Option Addr) (xn2 xc2 : Nat), w4.cell? ⟨g1, 43, none⟩ = some (.slice xA2 xn2 xc2) ∧
  Calls Tryd.prog 57 #[.slice xA2 xn2 xc2] w4 (onRet (fun r_1 w5 => ∃ (xA3 : Option Addr) (xn3 xc3 : Nat), r_1 = .slice xA3 xn3 xc3 ∧
  SetVC w5 ⟨g1, 43, none⟩ (.slice xA3 xn3 xc3) fun w6 =>
  Ip6V.ex fun h1 => CellsAt w6 ⟨g1, 0, none⟩ 0 h1.cells ∧
  Stores ⟨g2, 0, none⟩ 0 h1.cells w6 fun w7 =>
  Ip6V.ex fun res => CellsAt w7 ⟨g2, 0, none⟩ 0 res.cells ∧
  R (.returned res.val) w7)
    (fun ch1 w5 => R (.panicked ch1) w5)))
    (fun ch w3 => R (.panicked ch) w3))
def weirref7_Clone_H : Hints := []
set_option maxRecDepth 100000 in
theorem weirref7_Clone_of (h : Ip6V) (w : World) (R : Ending → World → Prop) (hvc_ : weirref7_Clone_VC h w R) :
    Calls Tryd.prog 28 #[h.val] w R :=
  calls_of_wpc callOk mixedOk (H := weirref7_Clone_H) (args := [h.val]) (fn := Tryd.f28) (c := bodyOf Tryd.f28) Tryd.func28 rfl (Nat.le_of_ble_eq_true rfl)
    (Eq.mp (by kernel_rfl : weirref7_Clone_VC h w R = wpc Tryd.prog callF Tryd.f28.ntmps weirref7_Clone_H 1 (bodyOf Tryd.f28) (argEnv 0 [h.val]) [] w (finish Tryd.prog callF Tryd.f28.results.toList R)) hvc_)

set_option maxRecDepth 100000 in
def weirref7_PutChain_VC (lA : Option Addr) (ln : Nat) (lc : Nat) (next : Int) (w : World) (R : Ending → World → Prop) : Prop :=
  Calls Tryd.prog 60 #[.int .i64 next, .int .i64 255] w (onRet (fun r_ w1 => ∃ x : Bool, r_ = .bool x ∧
  Br x
    (R (.returned (.tuple #[.slice none 0 0, .int .i64 1])) w1)
    (Calls Tryd.prog 89 #[.slice lA ln lc, .int .i64 next, .bool false] w1 (onRet (fun r_1 w2 => ∃ (x0A : Option Addr) (x0n x0c : Nat), ∃ x1 : Int, r_1 = .tuple #[.slice x0A x0n x0c, .int .i64 x1] ∧
  Br (decide (x1 ≠ 0))
    (R (.returned (.tuple #[.slice none 0 0, .int .i64 x1])) w2)
    (Calls Tryd.prog 90 #[.int .i64 next] w2 (onRet (fun r_2 w3 => ∃ x2 : Bool, r_2 = .bool x2 ∧
  Br (!x2)
    (R (.returned (.tuple #[.slice none 0 0, .int .i64 72])) w3)
    (R (.returned (.tuple #[.slice x0A x0n x0c, .int .i64 0])) w3))
    (fun ch2 w3 => R (.panicked ch2) w3))))
    (fun ch1 w2 => R (.panicked ch1) w2))))
    (fun ch w1 => R (.panicked ch) w1))
def weirref7_PutChain_H : Hints := []
set_option maxRecDepth 100000 in
theorem weirref7_PutChain_of (lA : Option Addr) (ln : Nat) (lc : Nat) (next : Int) (w : World) (R : Ending → World → Prop) (hvc_ : weirref7_PutChain_VC lA ln lc next w R) :
    Calls Tryd.prog 59 #[.slice lA ln lc, .int .i64 next] w R :=
  calls_of_wpc callOk mixedOk (H := weirref7_PutChain_H) (args := [.slice lA ln lc, .int .i64 next]) (fn := Tryd.f59) (c := bodyOf Tryd.f59) Tryd.func59 rfl (Nat.le_of_ble_eq_true rfl)
    (Eq.mp (by kernel_rfl : weirref7_PutChain_VC lA ln lc next w R = wpc Tryd.prog callF Tryd.f59.ntmps weirref7_PutChain_H 1 (bodyOf Tryd.f59) (argEnv 0 [.slice lA ln lc, .int .i64 next]) [] w (finish Tryd.prog callF Tryd.f59.results.toList R)) hvc_)
end N6
end Go.Proofs.YtkiogaglmjeplaaDoor
/- weirref7's copies. -/
namespace Go.Proofs.YtkiogaglmjeplaaDoor
namespace N6
open Go.Eng Go.RowKit
section
variable {w : World} {Γ : List Fct}
theorem copied_spec {s : Sl} {l : List Int} (h : BytesAt w s l) : Calls Tryd.prog 57 #[s.val] w fun e w' => ∃ s' : Sl, e = .returned s'.val ∧ BFine s' l ∧ Sep [Fct.rest w None, rowB w.heap.size s' l] w' := by
  refine weirref7_copied_of s.A s.n s.k w _ ?_
  unfold weirref7_copied_VC
  have hs := h.small
  refine appB (m := s.n) (xs := []) (ys := l) ((Sep.start0 w).nil _ _ _) 1 rfl h.cells h.len (by omega) (Nat.le_refl _) fun A2 c2 w2 H hc2 => ?_
  rw [Nat.zero_add] at H ⊢
  exact ⟨⟨A2, s.n, c2⟩, rfl, ⟨hs, h.bts⟩, H⟩
set_option maxHeartbeats 1000000 in
theorem cloneOpts_spec {s : Sl} {rs : List OptR} (hO : OptsAt w s rs) : Calls Tryd.prog 88 #[s.val] w fun e w' => ∃ (s' : Sl) (rs' : List OptR), e = .returned s'.val ∧
    rs'.map OptR.d = rs.map OptR.d ∧ OptsFine s' rs' ∧ Sep (Fct.rest w None :: optFs w.heap.size s' rs') w' := by
  refine weirref7_CloneOpts_of s.A s.n s.k w _ ?_
  unfold weirref7_CloneOpts_VC
  have hl := hO.len
  have hsm := hO.small
  refine LoopVC.of (fun st w' => ∃ (i : Nat) (rs' : List OptR), st.2 = i ∧ i ≤ s.n ∧ rs'.map OptR.d = (rs.take i).map OptR.d ∧ OptsFine ⟨st.1.1, st.1.2.1, st.1.2.2⟩ rs' ∧ st.1.2.1 = i ∧
      Sep (Fct.rest w None :: optFs w.heap.size ⟨st.1.1, st.1.2.1, st.1.2.2⟩ rs') w') (fun st _ => ((s.n : Int) - st.2).toNat)
    ⟨0, [], rfl, Nat.zero_le _, rfl, ⟨rfl, Nat.zero_le _, fun r hr => by cases hr⟩, rfl, (Sep.start0 w).nil _ _ _⟩ ?_
  rintro ⟨⟨A1, n1, cc⟩, _⟩ w1 ⟨i, rs', rfl, hi, hd, hf, hn1, H⟩
  simp only at hn1
  show weirref7_CloneOpts_L58 _ s.A s.n A1 n1 cc (i : Int) w1 _
  unfold weirref7_CloneOpts_L58
  refine Br.dec (fun hlt => ?_) fun hge => ?_
  · have hri : rs[i]? = some rs[i] := List.getElem?_eq_getElem (by omega)
    have htake : rs.take (i + 1) = rs.take i ++ [rs[i]] := by rw [List.take_add_one, hri]; rfl
    have hi1 : IntKind.i64.wrap ((i : Int) + 1) = ((i + 1 : Nat) : Int) := by rw [w64 (by omega) (by omega)]; omega
    refine DrawVC.sep H (fun w' => OptsAt w' s rs) fun w2 H => ⟨hO.ext H.start1, ?_⟩
    have hS := hO.ext H.start1
    refine OptsAt.idxD (S := fun w' => OptsAt w' s rs) hS (fun w' h => h) hri fun a ha => ⟨_, fun w' h => c0 (ha w' h), ?_⟩
    refine OptsAt.idxD (S := fun w' => OptsAt w' s rs) hS (fun w' h => h) hri fun a ha => ⟨_, _, _, fun w' h => c1 (ha w' h), ?_⟩
    have hz2 := H.start1.size
    refine (copied_spec (s := rs[i].v.data) (l := rs[i].data) (hS.each _ (List.getElem_mem _))).mono ?_
    rintro _ w3 ⟨s', rfl, hB, H3⟩
    have H := H.made (H3.lower 1 rfl hz2)
    refine ⟨_, _, _, rfl, hO.ext H.start1, NewVC.sep H fun g1 w4 H => ⟨hO.ext H.start1, ?_⟩⟩
    have H := H.front
    have hz4 := (H.restOf 1 rfl).size
    refine appO (o := ⟨rs[i].v.kind, s'⟩) H 2 rfl (Cells.blk0 (H.blk 0 rfl)) (show n1 ≤ 1000000000 by omega) (by omega) fun A2 c2 w5 H hc2 => ⟨hO.ext (H.restOf 1 rfl), ⟨i + 1, rs' ++ [⟨⟨rs[i].v.kind, s'⟩, rs[i].data⟩], hi1, by omega, ?_, ⟨?_, by simp only; omega, ?_⟩, by simp only; omega, ?_⟩, by simp only [hi1]; omega⟩
    · rw [htake, List.map_append, List.map_append, hd]
      rfl
    · have := hf.len; simp at this ⊢; omega
    · intro x hx
      rcases List.mem_append.1 hx with hx | hx
      · exact hf.each x hx
      · simp at hx; subst hx; exact hB
    · have H := H.tail
      simp only [optFs, rowO, List.map_append, List.flatten_append, List.map_cons, List.map_nil, List.flatten_cons, List.flatten_nil, List.append_nil]
      exact H
  · have hin : i = s.n := by omega
    exact ⟨⟨A1, n1, cc⟩, rs', rfl, by rw [hd, hin, ← hl, List.take_length], hf, H⟩
set_option maxHeartbeats 1000000 in
theorem cloneExts_spec {s : Sl} {rs : List ExtR} (hX : ExtsAt w s rs) : Calls Tryd.prog 56 #[s.val] w fun e w' => ∃ (s' : Sl) (rs' : List ExtR), e = .returned s'.val ∧
    rs'.map ExtR.d = rs.map ExtR.d ∧ ExtsFine s' rs' ∧ Sep (Fct.rest w None :: extFs w.heap.size s' rs') w' := by
  refine weirref7_CloneExts_of s.A s.n s.k w _ ?_
  unfold weirref7_CloneExts_VC
  have hl := hX.len
  have hsm := hX.small
  refine LoopVC.of (fun st w' => ∃ (i : Nat) (rs' : List ExtR), st.2 = i ∧ i ≤ s.n ∧ rs'.map ExtR.d = (rs.take i).map ExtR.d ∧ ExtsFine ⟨st.1.1, st.1.2.1, st.1.2.2⟩ rs' ∧ st.1.2.1 = i ∧
      Sep (Fct.rest w None :: extFs w.heap.size ⟨st.1.1, st.1.2.1, st.1.2.2⟩ rs') w') (fun st _ => ((s.n : Int) - st.2).toNat)
    ⟨0, [], rfl, Nat.zero_le _, rfl, ⟨rfl, Nat.zero_le _, (fun r hr => by cases hr), fun r hr => by cases hr⟩, rfl, (Sep.start0 w).nil _ _ _⟩ ?_
  rintro ⟨⟨A1, n1, cc⟩, _⟩ w1 ⟨i, rs', rfl, hi, hd, hf, hn1, H⟩
  simp only at hn1
  show weirref7_CloneExts_L58 _ s.A s.n A1 n1 cc (i : Int) w1 _
  unfold weirref7_CloneExts_L58
  refine Br.dec (fun hlt => ?_) fun hge => ?_
  · have hri : rs[i]? = some rs[i] := List.getElem?_eq_getElem (by omega)
    have htake : rs.take (i + 1) = rs.take i ++ [rs[i]] := by rw [List.take_add_one, hri]; rfl
    have hi1 : IntKind.i64.wrap ((i : Int) + 1) = ((i + 1 : Nat) : Int) := by rw [w64 (by omega) (by omega)]; omega
    refine DrawVC.sep H (fun w' => ExtsAt w' s rs) fun w2 H => ⟨hX.ext H.start1, ?_⟩
    have hS := hX.ext H.start1
    refine ExtsAt.idxD (S := fun w' => ExtsAt w' s rs) hS (fun w' h => h) hri fun a ha => ⟨_, fun w' h => c0 (ha w' h), ?_⟩
    refine ExtsAt.idxD (S := fun w' => ExtsAt w' s rs) hS (fun w' h => h) hri fun a ha => ⟨_, _, _, fun w' h => c1 (ha w' h), ?_⟩
    refine ExtsAt.idxD (S := fun w' => ExtsAt w' s rs) hS (fun w' h => h) hri fun a ha => ⟨_, _, _, fun w' h => c2 (ha w' h), ?_⟩
    have hz2 := H.start1.size
    refine (cloneOpts_spec (s := rs[i].v.opts) (rs := rs[i].opts) (hS.opts _ (List.getElem_mem _))).mono ?_
    rintro _ w3 ⟨so, os', rfl, hod, hof, H3⟩
    have H3 := (AllLe.append (AllLe.refl [Fct.rest w2 None]) (optFs_less hz2)).sep H3
    have H := H.mades H3
    have hz3 := (H.restOf 0 rfl).size
    refine ⟨_, _, _, rfl, hX.ext (H.restOf 0 rfl), ?_⟩
    refine (copied_spec (s := rs[i].v.data) (l := rs[i].data) ((hX.data _ (List.getElem_mem _)).ext (H.restOf 0 rfl))).mono ?_
    rintro _ w4 ⟨sd, rfl, hB, H4⟩
    have H := H.made (H4.lower 1 rfl hz3)
    refine ⟨_, _, _, rfl, hX.ext (H.restOf 0 rfl), NewVC.sep H fun g1 w5 H => ?_⟩
    have H := H.front
    have hz5 := (H.restOf 1 rfl).size
    refine ⟨hX.ext (H.restOf 1 rfl), ?_⟩
    refine appE (o := ⟨rs[i].v.kind, so, sd⟩) H 2 rfl (Cells.blk0 (H.blk 0 rfl)) (show n1 ≤ 1000000000 by omega) (by omega) fun A2 c2 w6 H hc2 => ⟨hX.ext (H.restOf 1 rfl), ⟨i + 1, rs' ++ [⟨⟨rs[i].v.kind, so, sd⟩, os', rs[i].data⟩], hi1, by omega, ?_, ⟨?_, by simp only; omega, ?_, ?_⟩, by simp only; omega, ?_⟩, by simp only [hi1]; omega⟩
    · rw [htake, List.map_append, List.map_append, hd]
      simp only [List.map_cons, List.map_nil, ExtR.d, hod]
    · have := hf.len; simp at this ⊢; omega
    · intro x hx
      rcases List.mem_append.1 hx with hx | hx
      · exact hf.opts x hx
      · simp at hx; subst hx; exact hof
    · intro x hx
      rcases List.mem_append.1 hx with hx | hx
      · exact hf.data x hx
      · simp at hx; subst hx; exact hB
    · have H := H.tail
      simp only [extFs, rowE, extF, List.map_append, List.flatten_append, List.map_cons, List.map_nil, List.flatten_cons, List.flatten_nil, List.append_nil, List.flatMap_append, List.flatMap_cons, List.flatMap_nil, ← List.append_assoc]
      exact H
  · have hin : i = s.n := by omega
    exact ⟨⟨A1, n1, cc⟩, rs', rfl, by rw [hd, hin, ← hl, List.take_length], hf, H⟩
set_option maxHeartbeats 1000000 in
theorem clone6_spec {h : Ip6V} {es : List ExtR} {data : List Int} (hA : Ip6At w h es data) : Calls Tryd.prog 28 #[h.val] w fun e w' => ∃ r : Ip6R, e = .returned r.v.val ∧ r.d = h.d es data ∧ Ip6Fine r ∧
    Sep (Fct.rest w None :: rowB w.heap.size r.v.data r.data :: extFs w.heap.size r.v.exts r.exts) w' := by
  refine weirref7_Clone_of h w _ ?_
  unfold weirref7_Clone_VC
  refine NewVC.sep (Sep.start0 w) fun g1 w1 H => NewVC.sep H fun g2 w2 H => ⟨_, _, _, H.cell 1 rfl 37 rfl, ?_⟩
  have hz2 := (H.restOf 0 rfl).size
  refine (cloneExts_spec (s := h.exts) (rs := es) (hA.exts.ext (H.restOf 0 rfl))).mono ?_
  rintro _ w3 ⟨so, os', rfl, hod, hof, H3⟩
  have H3 := (AllLe.append (AllLe.refl [Fct.rest w2 None]) (extFs_less hz2)).sep H3
  have H := H.mades H3
  refine ⟨_, _, _, rfl, SetVC.sep H 1 rfl (show 37 < 44 by decide) fun w4 H => ?_⟩
  have hz4 := (H.restOf 0 rfl).size
  refine ⟨_, _, _, H.cell 1 rfl 43 rfl, ?_⟩
  refine (copied_spec (s := h.data) (l := data) (hA.data.ext (H.restOf 0 rfl))).mono ?_
  rintro _ w5 ⟨sd, rfl, hB, H5⟩
  have H := (H.made (H5.lower 1 rfl hz4)).front
  refine ⟨_, _, _, rfl, SetVC.sep H 2 rfl (show 43 < 44 by decide) fun w6 H => ?_⟩
  refine Ip6V.of { h with exts := so, data := sd } ⟨H.at 2 rfl, Stores.sep H 3 rfl (Ip6V.one _) (Nat.le_refl _) (splice_all rfl) fun w7 H => ?_⟩
  refine Ip6V.of { h with exts := so, data := sd } ⟨H.at 3 rfl, ⟨⟨{ h with exts := so, data := sd }, os', data⟩, rfl, ?_, ⟨hof, hB, hA.src, hA.dst⟩, ?_⟩⟩
  · unfold Ip6R.d Ip6V.d
    rw [hod]
  · have H := H.sub (Γ' := rowB w.heap.size sd data :: Fct.rest w None :: extFs w.heap.size so os') (.cons_cons _ (.cons_cons _ (.cons _ (.cons _ (List.Sublist.refl _)))))
    exact H.perm (.swap _ _ _)
theorem refPutChain_spec {s : Sl} {rs : List ExtR} {next : Int} (hX : ExtsAt w s rs) : Calls Tryd.prog 59 #[s.val, .int .i64 next] w (Made w (putChainS (rs.map ExtR.d) next)) := by
  refine weirref7_PutChain_of s.A s.n s.k next w _ ?_
  unfold weirref7_PutChain_VC
  have r1 : next < 0 ∨ 255 < next → putChainS (rs.map ExtR.d) next = ([], 1) := fun h => by unfold putChainS; rw [if_pos h]
  refine refOut_spec.mono ?_
  rintro _ _ ⟨rfl, rfl⟩
  refine ⟨_, rfl, Br.dec (fun h1 => Made.err (Mod.refl _ _) (r1 h1)) fun h1 => ?_⟩
  refine (refHeaders_spec (next := next) (top := false) hX).mono ?_
  rintro _ w2 ⟨A, c, rfl, H⟩
  have hs : putChainS (rs.map ExtR.d) next = if (headersS (rs.map ExtR.d) next false).2 ≠ 0 then ([], (headersS (rs.map ExtR.d) next false).2) else if upperS next = true then ((headersS (rs.map ExtR.d) next false).1, 0) else ([], 72) := by
    unfold putChainS; rw [if_neg h1]
  refine ⟨_, _, _, _, rfl, Br.dec (fun h3 => Made.err (H.restOf 0 rfl) (by rw [hs, if_pos h3])) fun h3 => ?_⟩
  rw [if_neg h3] at hs
  refine upper_spec.mono ?_
  rintro _ _ ⟨rfl, rfl⟩
  refine ⟨_, rfl, ?_⟩
  cases hu : upperS next with
  | true => exact Br.f rfl (Made.ok (by rw [hs, if_pos hu]) H)
  | false => exact Br.t rfl (Made.err (H.restOf 0 rfl) (by rw [hs, if_neg (by rw [hu]; decide)]))
end
end N6
end Go.Proofs.YtkiogaglmjeplaaDoor
