/- Layer 1's references: numbers and fields (that layer's texts, turned to this seat). -/
import Derived.Test.YtkiogaglmjeplaaDoorBt
import Derived.Test.YtkiogaglmjeplaaDoorBj
import Derived.Test.YtkiogaglmjeplaaDoorBf
import Derived.Test.YtkiogaglmjeplaaDoorBd
import Derived.Test.YtkiogaglmjeplaaDoorBp
import Derived.Test.YtkiogaglmjeplaaDoorBh
namespace Go.Eng
open Go Go.RowKit
end Go.Eng
namespace Go.Proofs.YtkiogaglmjeplaaDoor
namespace N6
open Go.Eng Go.RowKit

end N6
end Go.Proofs.YtkiogaglmjeplaaDoor
/- Chapter 7, reading: the document's options and headers. -/
namespace Go.Proofs.YtkiogaglmjeplaaDoor
namespace N6
open Go.Eng Go.RowKit
section
variable {w : World} {s : Sl} {l : List Int}
theorem part1_spec (hB : BytesAt w s l) {p k : Nat} (hk : p + k ≤ l.length) {lo hi : Int} (h1 : lo = p) (h2 : hi = (p + k : Nat)) :
    Calls Tryd.prog 15 #[s.val, .int .i64 lo, .int .i64 hi] w fun e w' => ∃ s' : Sl, e = .returned s'.val ∧ s'.n = k ∧ Sep [Fct.rest w None, rowB w.heap.size s' (bpart l p k)] w' := by
  subst h1; subst h2
  refine weirref1_Part_of s.A s.n s.k _ _ w _ ?_
  unfold weirref1_Part_VC
  have hl := hB.len
  have hs := hB.small
  refine LoopVC.of (fun st w' => ∃ j : Nat, st.2 = ((p + j : Nat) : Int) ∧ j ≤ k ∧ st.1.2.1 = j ∧ Sep [Fct.rest w None, ownB w.heap.size (.slice st.1.1 st.1.2.1 st.1.2.2) st.1.2.1 (bpart l p j)] w') (fun st _ => (((p + k : Nat) : Int) - st.2).toNat)
    ⟨0, rfl, Nat.zero_le _, rfl, (Sep.start0 w).nil _ _ _⟩ ?_
  rintro ⟨⟨A1, n1, c1⟩, _⟩ w1 ⟨j, rfl, hj, hn, H⟩
  simp only at hn
  subst hn
  show weirref1_Part_L58 _ s.A s.n _ A1 n1 c1 ((p + n1 : Nat) : Int) w1 _
  unfold weirref1_Part_L58
  refine Br.dec (fun hlt => ?_) fun hge => ?_
  · refine (hB.ext (H.restOf 0 rfl)).idx (i := p + n1) rfl (by omega) fun a x hx _ _ hc => ⟨_, hc, NewVC.sep H fun g1 w2 H => ?_⟩
    have H := H.front
    refine appB (m := 1) (ys := [x]) H 2 rfl (Cells.blk0 (H.blk 0 rfl)) rfl (show n1 + 1 ≤ 140737488355328 by omega) (H.restOf 1 rfl).size fun A2 c2 w3 H _ => ?_
    rw [w64 (by omega) (by omega)]
    refine ⟨⟨n1 + 1, by simp only; omega, by omega, rfl, ?_⟩, by simp only; omega⟩
    have e : bpart l p (n1 + 1) = bpart l p n1 ++ [x] := by
      unfold bpart
      rw [List.take_add_one, List.getElem?_drop, hx]; rfl
    rw [e]
    exact H.tail
  · have : n1 = k := by omega
    subst this
    exact ⟨⟨A1, n1, c1⟩, rfl, rfl, H⟩
theorem padding7_spec (hB : BytesAt w s l) {p : Nat} (hp : p ≤ l.length) : Calls Tryd.prog 103 #[s.val, .int .i64 p] w fun e w' => w' = w ∧
    ((∃ n : Nat, e = .returned (.int .i64 n) ∧ p + n ≤ l.length ∧ optsS l p 0 = optsS l (p + n) n ∧ (l.length ≤ p + n ∨ (l.getD (p + n) 0 ≠ 0 ∧ l.getD (p + n) 0 ≠ 1))) ∨ (e = .returned (.int .i64 (-1)) ∧ optsS l p 0 = none)) := by
  refine weirref7_padding_of s.A s.n s.k p w _ ?_
  unfold weirref7_padding_VC
  have hl := hB.len
  have hs := hB.small
  refine LoopVC.of (fun st w' => w' = w ∧ ∃ n : Nat, st = (n : Int) ∧ p + n ≤ l.length ∧ optsS l p 0 = optsS l (p + n) n) (fun st _ => ((s.n : Int) - st).toNat) ⟨rfl, 0, rfl, hp, rfl⟩ ?_
  rintro _ w1 ⟨hw1, n, rfl, hn, ho⟩
  subst w1
  unfold weirref7_padding_L28
  have e0 : IntKind.i64.wrap ((p : Int) + (n : Int)) = ((p + n : Nat) : Int) := by rw [w64 (by omega) (by omega)]; omega
  rw [e0]
  have e1 : IntKind.i64.wrap (((p + n : Nat) : Int) + 1) = ((p + n + 1 : Nat) : Int) := by rw [w64 (by omega) (by omega)]; omega
  rw [e1]
  refine Br.dec (fun hlt => ?_) fun hge => ⟨rfl, .inl ⟨n, rfl, hn, ho, .inl (by omega)⟩⟩
  have gd : ∀ {i : Nat} {x : Int}, l[i]? = some x → l.getD i 0 = x := fun h => by rw [List.getD_eq_getElem?_getD, h]; rfl
  refine hB.idx (i := p + n) rfl (by omega) fun a x hx hx0 hx1 hc => ⟨_, hc, Br.dec (fun h2 => ?_) fun h2 => ⟨rfl, .inl ⟨n, rfl, hn, ho, .inr ⟨by rw [gd hx]; omega, by rw [gd hx]; omega⟩⟩⟩⟩
  refine hB.idx (i := p + n) rfl (by omega) fun a1 y hy _ _ hcy => ⟨_, hcy, ?_⟩
  rw [hx] at hy; injection hy with hy; subst hy
  refine Br.dec (fun h0 => ?_) fun h0 => ?_
  · rw [w64 (by omega) (by omega)]
    refine ⟨⟨rfl, n + 1, by omega, by omega, ?_⟩, by omega⟩
    rw [ho, optsS_zero (by omega) ((gd hx).trans h0)]
    rfl
  · have h1 : x = 1 := by omega
    have none_ : l.length < p + n + 2 + (l.getD (p + n + 1) 0).toNat → optsS l p 0 = none := fun h => by
      rw [ho, optsS_none (by omega) (by rw [gd hx]; exact h0) h]
    refine Br.dec (fun h3 => ⟨rfl, .inr ⟨rfl, none_ (by omega)⟩⟩) fun h3 => ?_
    refine hB.idx (i := p + n + 1) rfl (by omega) fun a2 z hz hz0 hz1 hcz => ⟨_, hcz, ?_⟩
    have e2 : IntKind.i64.wrap (IntKind.i64.wrap (((p + n : Nat) : Int) + 2) + IntKind.i64.wrap z) = ((p + n + 2 + z.toNat : Nat) : Int) := by
      rw [w64 (n := ((p + n : Nat) : Int) + 2) (by omega) (by omega), w64 (n := z) (by omega) (by omega), w64 (by omega) (by omega)]; omega
    rw [e2]
    refine Br.dec (fun h4 => ⟨rfl, .inr ⟨rfl, none_ (by rw [gd hz]; omega)⟩⟩) fun h4 => ?_
    refine hB.idx (i := p + n + 1) rfl (by omega) fun a3 z' hz' _ _ hcz' => ⟨_, hcz', ?_⟩
    rw [hz] at hz'; injection hz' with hz'; subst hz'
    rw [w64 (n := (n : Int) + 2) (by omega) (by omega), w64 (n := z) (by omega) (by omega), w64 (by omega) (by omega)]
    refine ⟨⟨rfl, n + 2 + z.toNat, by omega, by omega, ?_⟩, by omega⟩
    rw [ho, optsS_pad ((gd hx).trans h1) (by rw [gd hz]; omega), gd hz]
    congr 1
    omega
/-- What the document's reader of options hands back. -/
def RefOpts (w : World) (l : List Int) (e : Ending) (w' : World) : Prop :=
  ∃ (so : Sl) (rs : List OptR), Sep (Fct.rest w None :: optFs w.heap.size so rs) w' ∧ OptsFine so rs ∧ match optsS l 0 0 with
    | some os => e = .returned (.tuple #[so.val, .int .i64 0]) ∧ rs.map OptR.d = os.map (OP.d l)
    | none => e = .returned (.tuple #[so.val, .int .i64 75]) ∧ so = Sl.z ∧ rs = []
theorem OptsFine.nil : OptsFine Sl.z [] := ⟨rfl, Nat.zero_le _, fun r hr => by cases hr⟩
theorem ExtsFine.nil : ExtsFine Sl.z [] := ⟨rfl, Nat.zero_le _, (fun r hr => by cases hr), fun r hr => by cases hr⟩
set_option maxHeartbeats 4000000 in
theorem refOptions_spec (hB : BytesAt w s l) : Calls Tryd.prog 82 #[s.val] w (RefOpts w l) := by
  refine weirref7_Options_of s.A s.n s.k w _ ?_
  unfold weirref7_Options_VC
  have hl := hB.len
  have hs := hB.small
  have bad : ∀ {w'}, Ext w w' → optsS l 0 0 = none → RefOpts w l (.returned (.tuple #[.slice none 0 0, .int .i64 75])) w' := fun hE h => ⟨Sl.z, [], ((Sep.start0 w).ext hE).nil _ _ _, OptsFine.nil, by rw [h]; exact ⟨rfl, rfl, rfl⟩⟩
  refine LoopVC.of (fun st w' => ∃ (p : Nat) (os : List OP) (rs : List OptR), st.2 = (p : Int) ∧ p ≤ l.length ∧ rs.length ≤ p ∧ optsS l 0 0 = (optsS l p 0).map (os ++ ·) ∧ rs.map OptR.d = os.map (OP.d l) ∧ OptsFine ⟨st.1.1, st.1.2.1, st.1.2.2⟩ rs ∧
      Sep (Fct.rest w None :: optFs w.heap.size ⟨st.1.1, st.1.2.1, st.1.2.2⟩ rs) w') (fun st _ => ((s.n : Int) - st.2).toNat)
    ⟨0, [], [], rfl, Nat.zero_le _, Nat.le_refl _, by simp, rfl, OptsFine.nil, (Sep.start0 w).nil _ _ _⟩ ?_
  rintro ⟨⟨A1, n1, c1⟩, _⟩ w1 ⟨p, os, rs, rfl, hp, hrp, ho, hd, hf, H⟩
  show weirref7_Options_L60 _ s.A s.n s.k A1 n1 c1 (p : Int) w1 _
  unfold weirref7_Options_L60
  have hn1 : n1 = rs.length := hf.len.symm
  refine Br.dec (fun hlt => ?_) fun hge => ?_
  · refine (padding7_spec (hB.ext H.start1) hp).mono ?_
    rintro _ w2 ⟨hw2, ⟨n, rfl, hn, hpn, hstop⟩ | ⟨rfl, hpn⟩⟩
    · subst w2
      refine ⟨_, rfl, Br.no (by omega) (Br.dec (fun hpos => ?_) fun hz => ?_)⟩
      · -- a run of padding
        refine LoopVC.of (fun st w' => ∃ j : Nat, st.2 = (j : Int) ∧ j ≤ n ∧ st.1.2.1 = j ∧ Sep (ownB w.heap.size (.slice st.1.1 st.1.2.1 st.1.2.2) st.1.2.1 (List.replicate j 0) :: Fct.rest w None :: optFs w.heap.size ⟨A1, n1, c1⟩ rs) w') (fun st _ => ((n : Int) - st.2).toNat)
          ⟨0, rfl, Nat.zero_le _, rfl, (H.nil _ _ _).front⟩ ?_
        rintro ⟨⟨A2, n2, c2⟩, _⟩ w3 ⟨j, rfl, hj, hn2, H⟩
        simp only at hn2
        subst hn2
        show weirref7_Options_L247210 A1 n1 c1 (p : Int) _ (n : Int) A2 n2 c2 (n2 : Int) w3 _
        unfold weirref7_Options_L247210
        refine Br.dec (fun hlt2 => ?_) fun hge2 => ?_
        · refine NewVC.sep H fun g1 w4 H => ?_
          have H := H.front
          refine appB (m := 1) (ys := [0]) H 1 rfl (Cells.blk0 (H.blk 0 rfl)) rfl (show n2 + 1 ≤ 140737488355328 by omega) (H.restOf 2 rfl).size fun A3 c3 w5 H _ => ?_
          rw [w64 (by omega) (by omega)]
          refine ⟨⟨n2 + 1, by simp only; omega, by omega, rfl, ?_⟩, by simp only; omega⟩
          rw [List.replicate_succ']
          exact H.tail
        · have hn2 : n2 = n := by omega
          subst hn2
          refine NewVC.sep H fun g2 w6 H => ?_
          have H := H.front
          refine appO (o := ⟨0, ⟨A2, n2, c2⟩⟩) H 3 rfl (Cells.blk0 (H.blk 0 rfl)) (show n1 ≤ 1000000000 by omega) (H.restOf 2 rfl).size fun A4 c4 w7 H hc4 => ?_
          rw [w64 (by omega) (by omega)]
          refine ⟨⟨p + n2, os ++ flushS n2, rs ++ [⟨⟨0, ⟨A2, n2, c2⟩⟩, List.replicate n2 0⟩], by simp only; omega, hn, by simp only [List.length_append, List.length_singleton]; omega, ?_, ?_, ⟨by simp only [List.length_append, List.length_singleton]; omega, by show n1 + 1 ≤ 4000000; omega, fun r hr => ?_⟩, ?_⟩, by simp only; omega⟩
          · rw [ho, hpn, optsS_flush hstop, Option.map_map]
            congr 1; funext q; simp
          · rw [List.map_append, List.map_append, hd, flushS_d, if_neg (by omega)]; rfl
          · rcases List.mem_append.1 hr with hr | hr
            · exact hf.each r hr
            · simp at hr; subst hr; exact ⟨by show n2 ≤ 4000000; omega, bts_zeros _⟩
          · have H := H.tail.rot
            simp only [optFs, rowO, List.map_append, List.flatten_append, List.map_cons, List.map_nil, List.flatten_cons, List.flatten_nil, List.append_nil]
            exact H
      · -- an option
        have hn0 : n = 0 := by omega
        subst hn0
        rw [Nat.add_zero] at hstop
        have hx2 : l.getD p 0 ≠ 0 ∧ l.getD p 0 ≠ 1 := hstop.resolve_left (by omega)
        have gd : ∀ {i : Nat} {x : Int}, l[i]? = some x → l.getD i 0 = x := fun h => by rw [List.getD_eq_getElem?_getD, h]; rfl
        rw [w64 (n := (p : Int) + 1) (by omega) (by omega)]
        have none_ : l.length < p + 2 + (l.getD (p + 1) 0).toNat → optsS l 0 0 = none := fun h => by
          rw [ho, optsS_none (by omega) hx2.1 h]; rfl
        refine Br.dec (fun h3 => bad H.start1 (none_ (by omega))) fun h3 => ?_
        have e1 : (p : Int) + 1 = ((p + 1 : Nat) : Int) := by omega
        rw [e1]
        refine (hB.ext H.start1).idx (i := p + 1) rfl (by omega) fun a z hz hz0 hz1 hcz => ⟨_, hcz, ?_⟩
        have e2 : IntKind.i64.wrap (IntKind.i64.wrap ((p : Int) + 2) + IntKind.i64.wrap z) = ((p + 2 + z.toNat : Nat) : Int) := by
          rw [w64 (n := (p : Int) + 2) (by omega) (by omega), w64 (n := z) (by omega) (by omega), w64 (by omega) (by omega)]; omega
        rw [e2]
        refine Br.dec (fun h4 => bad H.start1 (none_ (by rw [gd hz]; omega))) fun h4 => ?_
        refine (hB.ext H.start1).idx (i := p + 1) rfl (by omega) fun a1 z' hz' _ _ hcz' => ⟨_, hcz', ?_⟩
        rw [hz] at hz'; injection hz' with hz'; subst hz'
        refine DrawVC.sep H (fun w' => BytesAt w' s l) fun w8 H => ⟨hB.ext H.start1, ?_⟩
        have hpx : l[p]? = some l[p] := List.getElem?_eq_getElem (by omega)
        have hlb := hB.bts _ (List.getElem_mem (l := l) (n := p) (by omega))
        refine IdxVC.draw (k := .u8) (xs := l) (w := w8) (S := fun w' => BytesAt w' s l) (hB.ext H.start1) (fun w' h => h.cells) (by omega) (by omega) hl fun a2 ha2 => ⟨_, ha2, ?_⟩
        rw [Int.toNat_natCast, gd hpx, w64 (n := (p : Int) + 2) (by omega) (by omega), w64 (n := z) (by omega) (by omega), w64 (n := l[p]) (by omega) (by omega)]
        have e3 : IntKind.i64.wrap ((p : Int) + 2 + z) = ((p + 2 + z.toNat : Nat) : Int) := by rw [w64 (by omega) (by omega)]; omega
        rw [e3]
        have hz8 := H.start1.size
        refine (part1_spec (hB.ext H.start1) (p := p + 2) (k := z.toNat) (by omega) (by omega) rfl).mono ?_
        rintro _ w9 ⟨s', rfl, hsn, H9⟩
        have H := H.made (H9.lower 1 rfl hz8)
        refine ⟨_, _, _, rfl, hB.ext H.start1, NewVC.sep H fun g3 w10 H => ?_⟩
        have H := H.front
        refine ⟨hB.ext (H.restOf 1 rfl), ?_⟩
        refine appO (o := ⟨l[p], s'⟩) H 2 rfl (Cells.blk0 (H.blk 0 rfl)) (show n1 ≤ 1000000000 by omega) (H.restOf 1 rfl).size fun A4 c4 w11 H hc4 => ⟨hB.ext (H.restOf 1 rfl), ?_⟩
        have hpl : (bpart l (p + 2) z.toNat).length = z.toNat := bpart_len (by omega)
        refine ⟨⟨p + 2 + z.toNat, os ++ [⟨l[p], p + 2, z.toNat⟩], rs ++ [⟨⟨l[p], s'⟩, bpart l (p + 2) z.toNat⟩], rfl, by omega, by simp only [List.length_append, List.length_singleton]; omega, ?_, ?_, ⟨by simp only [List.length_append, List.length_singleton]; omega, by show n1 + 1 ≤ 4000000; omega, fun r hr => ?_⟩, ?_⟩, by simp only; omega⟩
        · rw [ho, optsS_opt hx2.1 hx2.2 (by rw [gd hz]; omega), gd hz, gd hpx, Option.map_map]
          congr 1; funext q; simp [flushS]
        · rw [List.map_append, List.map_append, hd]
          congr 1
          simp only [List.map_cons, List.map_nil, OP.d, OptR.d]
          rw [if_neg (by rw [← gd hpx]; exact hx2.1)]
        · rcases List.mem_append.1 hr with hr | hr
          · exact hf.each r hr
          · simp at hr; subst hr; exact ⟨by rw [hsn]; omega, (hB.bts.drop _).take _⟩
        · have H := H.tail
          simp only [optFs, rowO, List.map_append, List.flatten_append, List.map_cons, List.map_nil, List.flatten_cons, List.flatten_nil, List.append_nil]
          exact H
    · subst w2
      exact ⟨_, rfl, Br.yes (by decide) (bad H.start1 (by rw [ho, hpn]; rfl))⟩
  · refine ⟨⟨A1, n1, c1⟩, rs, H, hf, ?_⟩
    rw [ho, optsS_end (by omega)]
    exact ⟨rfl, by rw [hd]; simp [flushS]⟩
end
end N6
end Go.Proofs.YtkiogaglmjeplaaDoor
/- Chapter 7, reading: the document's chain of headers, and Chain. -/
namespace Go.Proofs.YtkiogaglmjeplaaDoor
namespace N6
open Go.Eng Go.RowKit
section
variable {w : World} {s : Sl} {l : List Int}
theorem bpart_drop (l : List Int) (p q n : Nat) : bpart (l.drop p) q n = bpart l (p + q) n := by
  unfold bpart; rw [List.drop_drop]
def RefChain (w : World) (L : List Int) (p0 : Nat) (r : Except Int (List EP × Int × Nat)) (e : Ending) (w' : World) : Prop :=
  ∃ (se : Sl) (xs : List ExtR), Sep (Fct.rest w None :: extFs w.heap.size se xs) w' ∧ ExtsFine se xs ∧ match r with
    | .ok (es, k', q) => e = .returned (.tuple #[se.val, .int .i64 k', .int .i64 ((p0 + q : Nat) : Int), .int .i64 0]) ∧ xs.map ExtR.d = es.map (EP.d L)
    | .error er => e = .returned (.tuple #[se.val, .int .i64 0, .int .i64 0, .int .i64 er]) ∧ se = Sl.z ∧ xs = [] ∧ er ≠ 0
set_option maxHeartbeats 8000000 in
theorem refChain_spec {k0 : Int} {p0 : Nat} {top : Bool} (hB : BytesAt w s l) (hp0 : p0 ≤ l.length) : Calls Tryd.prog 47 #[.int .i64 k0, s.val, .int .i64 p0, .bool top] w (RefChain w (l.drop p0) p0 (hdrsS (l.drop p0) top k0 0 0)) := by
  refine weirref7_chain_of k0 s.A s.n s.k p0 top w _ ?_
  unfold weirref7_chain_VC
  have hl := hB.len
  have hs := hB.small
  obtain ⟨L, hL⟩ : ∃ L, L = l.drop p0 := ⟨_, rfl⟩
  have hLl : p0 + L.length = l.length := by rw [hL, List.length_drop]; omega
  have hLB : Bts L := by rw [hL]; exact hB.bts.drop _
  rw [← hL]
  have bad : ∀ {w' : World} {er : Int}, Ext w w' → hdrsS L top k0 0 0 = .error er → er ≠ 0 → RefChain w L p0 (hdrsS L top k0 0 0) (.returned (.tuple #[.slice none 0 0, .int .i64 0, .int .i64 0, .int .i64 er])) w' := fun hE h he => ⟨Sl.z, [], ((Sep.start0 w).ext hE).nil _ _ _, ExtsFine.nil, by rw [h]; exact ⟨rfl, rfl, rfl, he⟩⟩
  refine LoopVC.of (fun st w' => ∃ (q : Nat) (es : List EP) (xs : List ExtR), st.2.1 = ((p0 + q : Nat) : Int) ∧ q ≤ L.length ∧ xs.length ≤ 8 ∧ hdrsS L top k0 0 0 = behind es (hdrsS L top st.1 q xs.length) ∧ xs.map ExtR.d = es.map (EP.d L) ∧ ExtsFine ⟨st.2.2.1, st.2.2.2.1, st.2.2.2.2⟩ xs ∧
      Sep (Fct.rest w None :: extFs w.heap.size ⟨st.2.2.1, st.2.2.2.1, st.2.2.2.2⟩ xs) w') (fun st _ => ((s.n : Int) + 1 - st.2.1).toNat)
    ⟨0, [], [], rfl, Nat.zero_le _, by decide, (behind_nil _).symm, rfl, ExtsFine.nil, (Sep.start0 w).nil _ _ _⟩ ?_
  rintro ⟨k, _, ⟨A1, n1, c1⟩⟩ w1 ⟨q, es, xs, rfl, hq, hx8, ho, hd, hf, H⟩
  show weirref7_chain_L28 _ s.A s.n s.k top k ((p0 + q : Nat) : Int) A1 n1 c1 w1 _
  simp only at ho
  have hn1 : n1 = xs.length := hf.len.symm
  unfold weirref7_chain_L28
  refine JoinVC.of (fun _ w' => w' = w1 ∧ isH k) (Br.dec (fun h => ⟨rfl, .inl h⟩) fun h1 => Br.dec (fun h => ⟨rfl, .inr (.inl h)⟩) fun h2 => Br.dec (fun h => ⟨rfl, .inr (.inr h)⟩) fun h3 => ?_) ?_
  · have hk : ¬ isH k := fun h => by unfold isH at h; omega
    refine ⟨⟨A1, n1, c1⟩, xs, H, hf, ?_⟩
    rw [ho, hdrsS_end hk]
    exact ⟨rfl, by rw [hd]; simp⟩
  rintro _ w2 ⟨hw2, hk⟩
  subst w2
  unfold weirref7_chain_J56
  have err : ∀ {er : Int}, hdrsS L top k q xs.length = .error er → hdrsS L top k0 0 0 = .error er := fun h => by rw [ho, h]; rfl
  refine JoinVC.of (fun _ w' => w' = w1 ∧ ¬ (k = 0 ∧ (top = false ∨ 0 < xs.length))) ?_ ?_
  · refine Br.dec (fun h0 => ?_) fun h0 => ⟨rfl, fun h => h0 h.1⟩
    cases top with
    | false => exact Br.t rfl (bad H.start1 (err (hdrsS_first hk ⟨h0, .inl rfl⟩)) (by decide))
    | true => exact Br.f rfl (Br.dec (fun h => bad H.start1 (err (hdrsS_first hk ⟨h0, .inr (by omega)⟩)) (by decide)) fun h => ⟨rfl, fun x => x.2.elim (fun y => by cases y) (by omega)⟩)
  rintro _ w3 ⟨hw3, hnf⟩
  subst w3
  unfold weirref7_chain_J226
  refine Br.dec (fun h8 => bad H.start1 (err (hdrsS_many hk hnf (by omega))) (by decide)) fun h8 => ?_
  rw [w64 (n := (s.n : Int) - ((p0 + q : Nat) : Int)) (by omega) (by omega)]
  refine Br.dec (fun h9 => bad H.start1 (err (hdrsS_short hk hnf (by omega) (.inl (by omega)))) (by decide)) fun h9 => ?_
  have e1 : IntKind.i64.wrap (((p0 + q : Nat) : Int) + 1) = ((p0 + q + 1 : Nat) : Int) := by rw [w64 (by omega) (by omega)]; omega
  rw [e1]
  have gd : ∀ {j : Nat} {x : Int}, l[p0 + j]? = some x → L.getD j 0 = x := fun h => by rw [hL, getD_drop, List.getD_eq_getElem?_getD, h]; rfl
  refine (hB.ext H.start1).idx (i := p0 + q + 1) rfl (by omega) fun a x hx hx0 hx1 hc => ⟨_, hc, ?_⟩
  have hgx : L.getD (q + 1) 0 = x := gd hx
  have hlen : lenH L q = 8 * x.toNat + 6 := by unfold lenH; rw [hgx]
  have e2 : IntKind.i64.wrap (IntKind.i64.wrap (8 * IntKind.i64.wrap x) + 8) = ((lenH L q + 2 : Nat) : Int) := by
    rw [w64 (n := x) (by omega) (by omega), w64 (n := 8 * x) (by omega) (by omega), w64 (by omega) (by omega)]; omega
  rw [e2]
  refine Br.dec (fun h10 => bad H.start1 (err (hdrsS_short hk hnf (by omega) (.inr (by omega)))) (by decide)) fun h10 => ?_
  refine (hB.ext H.start1).idx (i := p0 + q + 1) rfl (by omega) fun a1 x' hx' _ _ hc' => ⟨_, hc', ?_⟩
  rw [hx] at hx'; injection hx' with hx'; subst hx'
  have hw : q + 2 + lenH L q ≤ L.length := by omega
  refine NewVC.sep H fun g1 w4 H => ?_
  have H := H.front
  refine Stores.sep H 0 rfl (ExtV.one ⟨k, Sl.z, Sl.z⟩) (Nat.le_refl _) (splice_all rfl) fun w5 H => ?_
  have H := H.nil w.heap.size 65 2
  have e3 : IntKind.i64.wrap (((p0 + q : Nat) : Int) + 2) = ((p0 + q + 2 : Nat) : Int) := by rw [w64 (by omega) (by omega)]; omega
  have e4 : IntKind.i64.wrap (IntKind.i64.wrap (((p0 + q : Nat) : Int) + IntKind.i64.wrap (8 * IntKind.i64.wrap x)) + 8) = ((p0 + q + 2 + lenH L q : Nat) : Int) := by
    rw [w64 (n := x) (by omega) (by omega), w64 (n := 8 * x) (by omega) (by omega), w64 (n := ((p0 + q : Nat) : Int) + 8 * x) (by omega) (by omega), w64 (by omega) (by omega)]; omega
  rw [e3, e4]
  have hz5 := (H.restOf 1 rfl).size
  refine (part1_spec (hB.ext (H.restOf 1 rfl)) (p := p0 + q + 2) (k := lenH L q) (by omega) rfl rfl).mono ?_
  rintro _ w6 ⟨s', rfl, hsn, H6⟩
  have hbp : bpart l (p0 + q + 2) (lenH L q) = bpart L (q + 2) (lenH L q) := by rw [hL, bpart_drop]; rfl
  rw [hbp] at H6
  have H := H.made (H6.lower 1 rfl hz5)
  have hpl : (bpart L (q + 2) (lenH L q)).length = lenH L q := bpart_len (by omega)
  have hlH : lenH L q ≤ 2046 := by omega
  have hsf : BFine s' (bpart L (q + 2) (lenH L q)) := ⟨by rw [hsn]; omega, (hLB.drop _).take _⟩
  refine ⟨_, _, _, rfl, ?_⟩
  refine JoinVC.of (fun _ w' => ∃ (xv : ExtV) (ro : List OptR) (data : List Int) (os : List OP), inS k L (q + 2) (lenH L q) = some os ∧ ExtR.d ⟨xv, ro, data⟩ = EP.d L ⟨k, os, q + 2, lenH L q⟩ ∧ OptsFine xv.opts ro ∧ BFine xv.data data ∧
      Sep (Fct.blk g1 54 xv.cells :: Fct.rest w None :: (extFs w.heap.size ⟨A1, n1, c1⟩ xs ++ (optFs w.heap.size xv.opts ro ++ [rowB w.heap.size xv.data data]))) w') ?_ ?_
  · refine Br.dec (fun h43 => ?_) fun h43 => ?_
    · refine SetVC.sep H 0 rfl (show 2 < 3 by decide) fun w7 H => ⟨⟨k, Sl.z, s'⟩, [], bpart L (q + 2) (lenH L q), [], by unfold inS; rw [if_pos h43], ?_, OptsFine.nil, hsf, ?_⟩
      · unfold ExtR.d EP.d; rw [if_pos h43]; rfl
      · have e : (extFs w.heap.size ⟨A1, n1, c1⟩ xs ++ (optFs w.heap.size Sl.z [] ++ [rowB w.heap.size s' (bpart L (q + 2) (lenH L q))])) = (extFs w.heap.size ⟨A1, n1, c1⟩ xs ++ optFs w.heap.size Sl.z []) ++ [rowB w.heap.size s' (bpart L (q + 2) (lenH L q))] := by rw [List.append_assoc]
        rw [e]
        exact H
    · have hin : inS k L (q + 2) (lenH L q) = optsS (bpart L (q + 2) (lenH L q)) 0 0 := by unfold inS; rw [if_neg h43]
      have hBs : BytesAt w6 s' (bpart L (q + 2) (lenH L q)) := bytesAt_of (H.mem (List.mem_append_right _ List.mem_cons_self)) hsf
      have hz6 := (H.restOf 1 rfl).size
      refine (refOptions_spec hBs).mono ?_
      rintro e w8 ⟨so, ro, H8, hof, hm⟩
      have H8 := (AllLe.append (AllLe.refl [Fct.rest w6 None]) (optFs_less hz6)).sep H8
      cases hos : optsS (bpart L (q + 2) (lenH L q)) 0 0 with
      | none =>
        rw [hos] at hm
        obtain ⟨rfl, rfl, rfl⟩ := hm
        have hE := ((H.restOf 1 rfl).trans (H8.restOf 0 rfl))
        exact ⟨_, _, _, _, rfl, Br.yes (by decide) (bad hE (err (hdrsS_opts hk hnf (by omega) hw (hin.trans hos))) (by decide))⟩
      | some os =>
        rw [hos] at hm
        obtain ⟨rfl, hod⟩ := hm
        have H := H.mades H8
        refine ⟨_, _, _, _, rfl, Br.no (fun h => h rfl) (SetVC.sep H 0 rfl (show 1 < 3 by decide) fun w9 H => ⟨⟨k, so, Sl.z⟩, ro, [], os, hin.trans hos, ?_, hof, ⟨Nat.zero_le _, bts_nil⟩, ?_⟩)⟩
        · unfold ExtR.d EP.d; rw [if_neg h43, hod]
        · have H : Sep ((Fct.blk g1 54 (⟨k, so, Sl.z⟩ : ExtV).cells :: Fct.rest w None :: extFs w.heap.size ⟨A1, n1, c1⟩ xs) ++ [Fct.own w.heap.size 65 2 (.slice none 0 0) 0 []] ++ [rowB w.heap.size s' (bpart L (q + 2) (lenH L q))] ++ optFs w.heap.size so ro ++ [Fct.own w.heap.size 5 1 (.slice none 0 0) 0 []]) w9 := H.nil w.heap.size 5 1
          have H := H.sub (Γ' := (Fct.blk g1 54 (⟨k, so, Sl.z⟩ : ExtV).cells :: Fct.rest w None :: extFs w.heap.size ⟨A1, n1, c1⟩ xs) ++ optFs w.heap.size so ro ++ [Fct.own w.heap.size 5 1 (.slice none 0 0) 0 []]) (by
            refine List.Sublist.append (List.Sublist.append ?_ (List.Sublist.refl _)) (List.Sublist.refl _)
            exact (List.sublist_append_left _ _).trans (List.sublist_append_left _ _))
          have e : (Fct.blk g1 54 (⟨k, so, Sl.z⟩ : ExtV).cells :: Fct.rest w None :: (extFs w.heap.size ⟨A1, n1, c1⟩ xs ++ (optFs w.heap.size so ro ++ [rowB w.heap.size Sl.z []]))) = (Fct.blk g1 54 (⟨k, so, Sl.z⟩ : ExtV).cells :: Fct.rest w None :: extFs w.heap.size ⟨A1, n1, c1⟩ xs) ++ optFs w.heap.size so ro ++ [Fct.own w.heap.size 5 1 (.slice none 0 0) 0 []] := by
            simp only [List.append_assoc, List.cons_append]; rfl
          rw [e]
          exact H
  rintro _ w10 ⟨xv, ro, data, os, hin, hxd, hof, hdf, H⟩
  unfold weirref7_chain_J14527
  refine ExtV.of xv ⟨H.at 0 rfl, NewVC.sep H fun g2 w11 H => ?_⟩
  have H := H.front
  refine appE (o := xv) H 3 rfl (Cells.blk0 (H.blk 0 rfl)) (show n1 ≤ 1000000000 by omega) (H.restOf 2 rfl).size fun A2 c2 w12 H hc2 => ?_
  refine (hB.ext (H.restOf 2 rfl)).idx (i := p0 + q) rfl (by omega) fun a2 y hy hy0 hy1 hcy => ⟨_, hcy, ?_⟩
  have hgy : L.getD q 0 = y := gd hy
  rw [w64 (n := y) (by omega) (by omega), e4]
  refine ⟨⟨q + 2 + lenH L q, es ++ [⟨k, os, q + 2, lenH L q⟩], xs ++ [⟨xv, ro, data⟩], by simp only; omega, hw, by simp only [List.length_append, List.length_singleton]; omega, ?_, ?_, ⟨by simp only [List.length_append, List.length_singleton]; omega, by show n1 + 1 ≤ 4000000; omega, fun r hr => ?_, fun r hr => ?_⟩, ?_⟩, by simp only; omega⟩
  · rw [ho, hdrsS_step hk hnf (by omega) hw hin, behind_map, hgy]
    simp
  · rw [List.map_append, List.map_append, hd]
    simp only [List.map_cons, List.map_nil, hxd]
  · rcases List.mem_append.1 hr with hr | hr
    · exact hf.opts r hr
    · simp at hr; subst hr; exact hof
  · rcases List.mem_append.1 hr with hr | hr
    · exact hf.data r hr
    · simp at hr; subst hr; exact hdf
  · have H := H.tail.tail
    unfold extFs rowE
    simp only [List.map_append, List.flatten_append, List.map_cons, List.map_nil, List.flatten_cons, List.flatten_nil, List.append_nil, List.flatMap_append, List.flatMap_cons, List.flatMap_nil]
    exact H
end
end N6
end Go.Proofs.YtkiogaglmjeplaaDoor
/- Chapter 7, reading: what is read, and that it lies there; the document's Chain. -/
namespace Go.Eng
open Go Go.RowKit
theorem walkS_inside {b : List Int} (hB : Bts b) {k : Int} (hk : 0 ≤ k ∧ k ≤ 255) {inner : Bool} {t : Tail6} (h : walkS b k inner = .ok t) : (∀ x ∈ t.exts, x.inside b) ∧ t.p ≤ b.length ∧ t.exts.length ≤ 8 ∧ 0 ≤ t.next ∧ t.next ≤ 255 := by
  unfold walkS at h
  cases hh : hdrsS b (!inner) k 0 0 with
  | error e => rw [hh] at h; cases h
  | ok r =>
    obtain ⟨l, k', p⟩ := r
    obtain ⟨i1, i2, i3, i4, i5, i6⟩ := hdrsS_inside hB 8 0 k 0 l k' p (by omega) (Nat.zero_le _) hh
    have hl8 : l.length ≤ 8 := by
      rcases i5 with e | rfl
      · omega
      · simp
    rw [hh] at h
    simp only at h
    split at h
    · split at h
      · cases h
      · split at h
        · cases h
        · split at h
          · cases h
          · cases h
            exact ⟨i1, by show p + 8 ≤ b.length; omega, hl8, getD_byte hB p⟩
    · cases h
      exact ⟨i1, i2, hl8, i6 hk⟩
theorem bts_z : Bts (IPV.z : IPV).bytes := by
  intro x hx
  simp only [IPV.bytes, IPV.z, List.mem_cons, List.not_mem_nil, or_false] at hx
  omega
theorem Ip6At.z (w : World) : Ip6At w Ip6V.z [] [] := ⟨ExtsAt.nil _ _ _, BytesAt.nil _ _ _, bts_z, bts_z⟩
theorem bpart_end {b : List Int} {p : Nat} (_h : p ≤ b.length) : bpart b p (b.length - p) = b.drop p := by
  unfold bpart; exact List.take_of_length_le (by rw [List.length_drop]; omega)
end Go.Eng
namespace Go.Proofs.YtkiogaglmjeplaaDoor
namespace N6
open Go.Eng Go.RowKit
/-- A datagram and an error are handed back. -/
def Parsed6 (w : World) (r : Ip6D × Int) (e : Ending) (w' : World) : Prop := ∃ (h : Ip6V) (xs : List ExtR) (data : List Int), e = .returned (.tuple #[h.val, .int .i64 r.2]) ∧ h.d xs data = r.1 ∧ Ip6At w' h xs data ∧ Ext w w'
def Chained6 (w : World) (r : List ExtD × Int × List Int × Int) (e : Ending) (w' : World) : Prop := ∃ (se sd : Sl) (xs : List ExtR) (data : List Int), e = .returned (.tuple #[se.val, .int .i64 r.2.1, sd.val, .int .i64 r.2.2.2]) ∧ xs.map ExtR.d = r.1 ∧ data = r.2.2.1 ∧
    ExtsAt w' se xs ∧ BytesAt w' sd data ∧ Ext w w'
section
variable {w : World} {s : Sl} {l : List Int}
theorem ParseRead.at (hB : BytesAt w s l) {e : Ending} {w' : World} (h : ParseRead w s l e w') : Parsed6 w (parsed l) e w' := by
  obtain ⟨h, xs, H, hn, hm⟩ := h
  unfold parsed
  cases hp : parseS l with
  | error er =>
    rw [hp] at hm
    obtain ⟨rfl, rfl, rfl, he⟩ := hm
    exact ⟨Ip6V.z, [], [], rfl, rfl, Ip6At.z _, H.restOf 0 rfl⟩
  | ok t =>
    rw [hp] at hm
    obtain ⟨rfl, h40, hA, hd, h1, h2, h3, h4, h5, h6, h7⟩ := hm
    have hW := (hB.win (p := 40) (n := lenP l) h40).ext (H.restOf 0 rfl)
    have hwl : (bpart l 40 (lenP l)).length = lenP l := bpart_len h40
    have hp' : walkS (bpart l 40 (lenP l)) (l.getD 6 0) false = .ok t := by
      unfold parseS at hp
      split at hp
      · cases hp
      · split at hp
        · cases hp
        · split at hp
          · cases hp
          · split at hp
            · cases hp
            · exact hp
    obtain ⟨i1, i2, i3, i4⟩ := walkS_inside hW.bts (getD_byte hB.bts 6) hp'
    have hdata := hW.win (p := t.p) (n := lenP l - t.p) (by omega)
    have hdl : bpart (bpart l 40 (lenP l)) t.p (lenP l - t.p) = (bpart l 40 (lenP l)).drop t.p := by
      have := bpart_end i2
      rwa [hwl] at this
    rw [hdl] at hdata
    have hal := hA.len
    refine ⟨h, xs, (bpart l 40 (lenP l)).drop t.p, rfl, ?_, ⟨extsAt_read (b := w.heap.size) (fun f hf => H.mem (List.mem_cons_of_mem _ hf)) hW hA i1 hn.symm (by omega), by rw [hd]; exact hdata, ?_, ?_⟩, H.restOf 0 rfl⟩
    · unfold Ip6V.d Tail6.d
      rw [hA.map_eq fun x r h => h.d, h1, h2, h3, h4, h5, h6, h7]
      rfl
    · rw [h4]; intro x hx
      have e := ipOf_back (v := 6) (l := bpart l 8 16) (bpart_len (by omega))
      rw [e] at hx
      exact (hB.bts.drop _).take _ x hx
    · rw [h5]; intro x hx
      have e := ipOf_back (v := 6) (l := bpart l 24 16) (bpart_len (by omega))
      rw [e] at hx
      exact (hB.bts.drop _).take _ x hx
theorem parse_at (hB : BytesAt w s l) (hK : Kn w) : Calls Tryd.prog 13 #[s.val] w (Parsed6 w (parsed l)) := (parse_spec hB hK).mono fun _ _ h => h.at hB
theorem ChainRead.at {next : Int} (hB : BytesAt w s l) {e : Ending} {w' : World} (h : ChainRead w s l (chainS next l) e w') : Chained6 w (chained next l) e w' := by
  obtain ⟨se, sd, xs, H, hn, hm⟩ := h
  unfold chained
  cases hp : chainS next l with
  | error er =>
    rw [hp] at hm
    obtain ⟨rfl, rfl, rfl, rfl, he⟩ := hm
    exact ⟨Sl.z, Sl.z, [], [], rfl, rfl, rfl, ExtsAt.nil _ _ _, BytesAt.nil _ _ _, H.restOf 0 rfl⟩
  | ok t =>
    rw [hp] at hm
    obtain ⟨rfl, hA, hd⟩ := hm
    have hp' : walkS l next true = .ok t ∧ (0 ≤ next ∧ next ≤ 255) := by
      unfold chainS at hp
      split at hp
      · cases hp
      · split at hp
        · cases hp
        · exact ⟨hp, by omega⟩
    have hB' := hB.ext (H.restOf 0 rfl)
    obtain ⟨i1, i2, i3, i4⟩ := walkS_inside hB.bts hp'.2 hp'.1
    have hdata := hB'.win (p := t.p) (n := l.length - t.p) (by omega)
    rw [bpart_end i2] at hdata
    have hal := hA.len
    exact ⟨se, sd, xs, l.drop t.p, rfl, hA.map_eq fun x r h => h.d, rfl, extsAt_read (b := w.heap.size) (fun f hf => H.mem (List.mem_cons_of_mem _ hf)) hB' hA i1 hn.symm (by omega), by rw [hd]; exact hdata, H.restOf 0 rfl⟩
theorem chain_at {next : Int} (hB : BytesAt w s l) (hK : Kn w) : Calls Tryd.prog 24 #[.int .i64 next, s.val] w (Chained6 w (chained next l)) := (chain_spec hB hK).mono fun _ _ h => h.at hB
/-- The document's Chain. -/
theorem refChained_spec {next : Int} (hB : BytesAt w s l) : Calls Tryd.prog 67 #[.int .i64 next, s.val] w (Chained6 w (chained next l)) := by
  refine weirref7_Chain_of next s.A s.n s.k w _ ?_
  unfold weirref7_Chain_VC
  have hl := hB.len
  have hs := hB.small
  have bad : ∀ {w' : World} {er : Int}, Ext w w' → chainS next l = .error er → Chained6 w (chained next l) (.returned (.tuple #[.slice none 0 0, .int .i64 0, .slice none 0 0, .int .i64 er])) w' := fun hE h => ⟨Sl.z, Sl.z, [], [], by unfold chained; rw [h]; rfl, by unfold chained; rw [h]; rfl, by unfold chained; rw [h], ExtsAt.nil _ _ _, BytesAt.nil _ _ _, hE⟩
  refine refOut_spec.mono ?_
  rintro _ w1 ⟨hw1, rfl⟩
  subst w1
  refine ⟨_, rfl, Br.dec (fun h => bad (Mod.refl _ _) (by unfold chainS; rw [if_pos h])) fun h => Br.dec (fun h2 => bad (Mod.refl _ _) (by unfold chainS; rw [if_neg h, if_pos (by omega)])) fun h2 => ?_⟩
  have hch : chainS next l = walkS l next true := by unfold chainS; rw [if_neg h, if_neg (by omega)]
  refine (refChain_spec (k0 := next) (p0 := 0) (top := false) hB (Nat.zero_le _)).mono ?_
  rintro e w2 ⟨se, xs, H, hf, hm⟩
  rw [List.drop_zero] at hm
  cases hh : hdrsS l false next 0 0 with
  | error er =>
    rw [hh] at hm
    obtain ⟨rfl, rfl, rfl, he⟩ := hm
    exact ⟨_, _, _, _, _, _, rfl, Br.yes he (bad (H.restOf 0 rfl) (by rw [hch]; unfold walkS; rw [Bool.not_true, hh]))⟩
  | ok r =>
    obtain ⟨es, k', q⟩ := r
    rw [hh] at hm
    obtain ⟨rfl, hd⟩ := hm
    have hin := hdrsS_inside hB.bts 8 0 next 0 es k' q (by omega) (Nat.zero_le _) hh
    refine ⟨_, _, _, _, _, _, rfl, Br.no (fun h => h rfl) (Br.dec (fun h44 => bad (H.restOf 0 rfl) ?_) fun h44 => ?_)⟩
    · rw [hch]; unfold walkS; rw [Bool.not_true, hh]; simp only; rw [if_pos h44, if_pos trivial]
    · have hz := (H.restOf 0 rfl).size
      refine (part1_spec (hB.ext (H.restOf 0 rfl)) (p := q) (k := l.length - q) (by omega) (by omega) (by omega)).mono ?_
      rintro _ w3 ⟨s', rfl, hsn, H3⟩
      have hch2 : chained next l = (es.map (EP.d l), k', l.drop q, 0) := by
        unfold chained; rw [hch]; unfold walkS; rw [Bool.not_true, hh]; simp only; rw [if_neg h44]
      rw [hch2]
      rw [bpart_end hin.2.1] at H3
      have hE3 := H3.restOf 0 rfl
      have H := H.ext hE3
      exact ⟨_, _, _, rfl, se, s', xs, l.drop q, rfl, hd, rfl, extsAt_of (b := w.heap.size) (fun f hf => H.mem (List.mem_cons_of_mem _ hf)) hf, bytesAt_of (H3.own 1 rfl) ⟨by rw [hsn]; omega, hB.bts.drop _⟩, H.restOf 0 rfl⟩
end
end N6
end Go.Proofs.YtkiogaglmjeplaaDoor
/- Chapter 7, reading: the document's Parse. -/
namespace Go.Eng
open Go Go.RowKit
end Go.Eng
namespace Go.Proofs.YtkiogaglmjeplaaDoor
namespace N6
open Go.Eng Go.RowKit
section
variable {w : World} {s : Sl} {l : List Int}
end
end N6
end Go.Proofs.YtkiogaglmjeplaaDoor
/- Chapter 7, reading: the document's Parse (the head); Canonical and Hop. -/
namespace Go.Proofs.YtkiogaglmjeplaaDoor
namespace N6
open Go.Eng Go.RowKit
section
variable {w : World} {s : Sl} {l : List Int}
end
end N6
end Go.Proofs.YtkiogaglmjeplaaDoor
