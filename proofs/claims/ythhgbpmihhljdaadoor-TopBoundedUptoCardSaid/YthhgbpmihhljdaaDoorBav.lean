/- Chapter 7, reading: options, the program's (the loop). -/
import Derived.Test.YthhgbpmihhljdaaDoorBau
import Derived.Test.YthhgbpmihhljdaaDoorBaq
import Derived.Test.YthhgbpmihhljdaaDoorProg
import Derived.Test.YthhgbpmihhljdaaDoorBae
import Derived.Test.YthhgbpmihhljdaaDoorBao
import Derived.Test.YthhgbpmihhljdaaDoorBag
import Derived.Test.YthhgbpmihhljdaaDoorBat
namespace Go.Proofs.YthhgbpmihhljdaaDoor
namespace N6
open Go.Eng Go.RowKit
section
variable {w : World} {s : Sl} {l : List Int}
/-- What a reader of options hands back. -/
def OptsRead (w : World) (s : Sl) (l : List Int) (r : Option (List OP)) (err : Int) (e : Ending) (w' : World) : Prop :=
  ∃ (so : Sl) (rs : List OptR), Sep (Fct.rest w None :: readO w.heap.size so rs) w' ∧ so.n = rs.length ∧ match r with
    | some os => e = .returned (.tuple #[so.val, .int .i64 0]) ∧ All2 (OptIs s l) os rs
    | none => e = .returned (.tuple #[so.val, .int .i64 err]) ∧ so = Sl.z ∧ rs = []
theorem map_some {α β : Type} {f : α → β} {o : Option α} {x : α} (h : o = some x) : o.map f = some (f x) := by rw [h]; rfl
set_option maxHeartbeats 4000000 in
theorem options_read (hB : BytesAt w s l) : Calls Tryd.prog 77 #[s.val] w (OptsRead w s l (optsS l 0 0) 75) := by
  refine ip6_options_of s.A s.n s.k w _ ?_
  unfold ip6_options_VC
  have hl := hB.len
  have hsm := hB.small
  refine NewVC.sep (Sep.start0 w) fun g1 w1 H => NewVC.sep H fun g2 w2 H => NewVC.sep H fun g3 w3 H => SetVC.sep H 3 rfl (show 0 < 1 by decide) fun w4 H => ?_
  refine LoopVC.of (fun st w' => ∃ (p run : Nat) (os : List OP) (rs : List OptR) (so : Sl), st = (p : Int) ∧ p ≤ l.length ∧ run ≤ p ∧ rs.length + run ≤ p ∧ optsS l 0 0 = (optsS l p run).map (os ++ ·) ∧ All2 (OptIs s l) os rs ∧ so.n = rs.length ∧
      Sep (Fct.rest w None :: (oBlks g1 g2 g3 so run ++ readO w.heap.size so rs)) w') (fun st _ => ((s.n : Int) - st).toNat)
    ⟨0, 0, [], [], Sl.z, rfl, Nat.zero_le _, Nat.le_refl _, Nat.le_refl _, by simp, .nil, rfl, H.nil _ _ _⟩ ?_
  rintro _ w5 ⟨p, run, os, rs, so, rfl, hp, hrp, hrn, ho, hA, hn, H⟩
  unfold ip6_options_L250
  have hE := H.start1
  have hne : g1 ≠ g2 := fun e => H.apart 1 2 _ _ (by decide) rfl rfl g1 rfl e
  refine Br.dec (fun hlt => ?_) fun hge => ?_
  · have hpl : p < l.length := by omega
    refine (hB.ext hE).idx (i := p) rfl (by omega) fun a x hx hx0 hx1 hc => ⟨_, hc, ?_⟩
    have hg : l.getD p 0 = x := by rw [List.getD_eq_getElem?_getD, hx]; rfl
    rw [w64 (n := x) (by omega) (by omega)]
    refine Br.dec (fun h0 => ?_) fun h0 => ?_
    · refine ⟨_, H.cell 3 rfl 0 rfl, SetVC.sep H 3 rfl (show 0 < 1 by decide) fun w6 H => ⟨rfl, ?_⟩⟩
      rw [w64 (by omega) (by omega)]
      refine ⟨⟨p + 1, run + 1, os, rs, so, by omega, by omega, by omega, by omega, ?_, hA, hn, ?_⟩, by omega⟩
      · rw [ho, optsS_zero hpl (hg.trans h0)]
      · have e : IntKind.i64.wrap ((run : Int) + 1) = ((run + 1 : Nat) : Int) := by rw [w64 (by omega) (by omega)]; omega
        rw [e] at H
        exact H
    · rcases Nat.lt_or_ge l.length (p + 2 + (l.getD (p + 1) 0).toNat) with h2 | h2
      · refine (option_no (hB.ext hE) hp h2).mono ?_
        rintro _ w7 ⟨hE7, rfl⟩
        have H := H.ext hE7
        have hb1 := H.blk 1 rfl
        have hb2 := H.blk 2 rfl
        refine leave_ret (u := .panicking cutc) rfl (fun h => by cases h) (options_catch (hb1.cell 0) (hb1.frozen 0) (hb2.cell 0) (hb2.frozen 0) hne) rfl ?_
        have hm8 := Mod.setCell w7 ⟨g1, 0, none⟩ (.slice none 0 0)
        have H8 := H.mod 1 rfl hm8 (fun k _ e => e) (Fct.blk g1 33 [.slice none 0 0]) (hb1.set 0 (.slice none 0 0)) fun k hk => .inl hk
        have hm9 := Mod.setCell (w7.setCell ⟨g1, 0, none⟩ (.slice none 0 0)) ⟨g2, 0, none⟩ (.int .i64 75)
        have H9 := H8.mod 2 rfl hm9 (fun k _ e => e) (Fct.blk g2 26 [.int .i64 75]) ((H8.blk 2 rfl).set 0 (.int .i64 75)) fun k hk => .inl hk
        refine ⟨_, _, _, H9.cell 1 rfl 0 rfl, _, H9.cell 2 rfl 0 rfl, Sl.z, [], (H9.take 1).nil _ _ _, rfl, ?_⟩
        rw [ho, optsS_none hpl (by rw [hg]; exact h0) h2]
        exact ⟨rfl, rfl, rfl⟩
      · refine (option_yes (hB.ext hE) h2).mono ?_
        rintro _ w7 ⟨hE7, rfl⟩
        have H := H.ext hE7
        refine ⟨_, rfl, Br.dec (fun h1 => ?_) fun h1 => ?_⟩
        · refine ⟨_, H.cell 3 rfl 0 rfl, SetVC.sep H 3 rfl (show 0 < 1 by decide) fun w8 H => ⟨rfl, ?_⟩⟩
          rw [w64 (by omega) (by omega)]
          refine ⟨⟨p + 2 + (l.getD (p + 1) 0).toNat, run + 2 + (l.getD (p + 1) 0).toNat, os, rs, so, by omega, by omega, by omega, by omega, ?_, hA, hn, ?_⟩, by omega⟩
          · rw [ho, optsS_pad (hg.trans h1) h2]
          · have e : IntKind.i64.wrap ((run : Int) + ((2 + (l.getD (p + 1) 0).toNat : Nat) : Int)) = ((run + 2 + (l.getD (p + 1) 0).toNat : Nat) : Int) := by rw [w64 (by omega) (by omega)]; omega
            rw [e] at H
            exact H
        · refine (flush_spec (s := s) (l := l) H hn (by omega) (by omega)).mono ?_
          rintro _ w9 ⟨rfl, so', nr, hnr, hn', H⟩
          have hE9 := H.start1
          refine ⟨rfl, ?_⟩
          obtain ⟨m, hm⟩ : ∃ m, m = (l.getD (p + 1) 0).toNat := ⟨_, rfl⟩
          rw [← hm] at h2 ⊢
          rw [w64 (n := (p : Int) + 2) (by omega) (by omega), w64 (n := ((2 + m : Nat) : Int) - 2) (by omega) (by omega)]
          have hW := Nd.window_yes (p := (p : Int) + 2) (k := ((2 + m : Nat) : Int) - 2) (hB.ext hE9).cells (by rw [List.length_map]; exact hl) hB.cap (by omega) (by omega) (by omega) (by omega)
          refine hW.mono ?_
          rintro _ w10 ⟨hE10, A', rfl, -, hA'⟩
          have H := H.ext hE10
          have e1 : (((2 + m : Nat) : Int) - 2).toNat = m := by omega
          have e2 : ((p : Int) + 2).toNat = p + 2 := by omega
          rw [e1]
          have hsl : (⟨A', m, m⟩ : Sl) = winSl s (p + 2) m := by
            unfold winSl
            rw [hA', e2]
            congr 1
            by_cases h : m = 0
            · rw [if_pos (by omega), if_pos h]
            · rw [if_neg (by omega), if_neg h]
          refine ⟨_, _, _, _, rfl, _, _, _, H.cell 1 rfl 0 rfl, NewVC.sep H fun g4 w11 H => ?_⟩
          have H := H.front
          have hsz := (H.restOf 1 rfl).size
          have hnrl := hnr.len
          have hfl : (flushS run).length ≤ run := by unfold flushS; split <;> simp; omega
          rw [List.length_append] at hn'
          refine appO (o := ⟨x, ⟨A', m, m⟩⟩) H 5 rfl (Cells.blk0 (H.blk 0 rfl)) (by omega) (by omega) fun A2 c2 w12 H hc2 => SetVC.sep H 2 rfl (show 0 < 1 by decide) fun w13 H => ⟨rfl, ?_⟩
          rw [w64 (by omega) (by omega)]
          have hnew : OptIs s l ⟨x, p + 2, m⟩ ⟨⟨x, ⟨A', m, m⟩⟩, bpart l (p + 2) m⟩ := by
            refine ⟨?_, rfl, rfl, fun _ => hsl⟩
            unfold OP.d OptR.d
            rw [if_neg h0]
          refine ⟨⟨p + 2 + m, 0, os ++ (flushS run ++ [⟨x, p + 2, m⟩]), (rs ++ nr) ++ [⟨⟨x, ⟨A', m, m⟩⟩, bpart l (p + 2) m⟩], ⟨A2, so'.n + 1, c2⟩, by omega, by omega, Nat.zero_le _, by simp only [List.length_append, List.length_singleton]; omega, ?_, ?_, by simp only [List.length_append, List.length_singleton]; omega, ?_⟩, by omega⟩
          · rw [ho, optsS_opt (by rw [hg]; exact h0) (by rw [hg]; exact h1) (by omega), ← hm, hg, Option.map_map]
            congr 1
            funext q
            simp
          · rw [List.append_assoc rs]; exact hA.append (hnr.append (.cons hnew .nil))
          · have H := H.tail
            have hp0 : padF w.heap.size ⟨⟨x, ⟨A', m, m⟩⟩, bpart l (p + 2) m⟩ = Fct.nil := by unfold padF; rw [if_neg h0]
            unfold readO rowO
            rw [List.map_append (f := padF _), List.map_append (f := fun r : OptR => r.v.cells), List.flatten_append]
            simp only [List.map_cons, List.map_nil, List.flatten_cons, List.flatten_nil, List.append_nil, hp0]
            have H := H.push (Mod.refl _ _) Fct.nil trivial (fun k hk => hk.elim)
            exact H
  · have hpe : p = l.length := by omega
    refine (flush_spec (s := s) (l := l) H hn (by omega) (by omega)).mono ?_
    rintro _ w17 ⟨rfl, so', nr, hnr, hn', H⟩
    refine ⟨rfl, _, _, _, H.cell 1 rfl 0 rfl, SetVC.sep H 1 rfl (show 0 < 1 by decide) fun w18 H => SetVC.sep H 2 rfl (show 0 < 1 by decide) fun w19 H => ?_⟩
    refine leave_ret rfl nofun options_idle rfl ?_
    refine ⟨_, _, _, H.cell 1 rfl 0 rfl, _, H.cell 2 rfl 0 rfl, so', rs ++ nr, ?_, hn', ?_⟩
    · exact H.sub (.cons_cons _ (.cons _ (.cons _ (.cons _ (List.Sublist.refl _)))))
    · rw [ho, optsS_end (by omega)]
      exact ⟨rfl, hA.append hnr⟩
end
end N6
end Go.Proofs.YthhgbpmihhljdaaDoor
/- Chapter 7, reading: cursors, one extension header, the program's. -/
namespace Go.Proofs.YthhgbpmihhljdaaDoor
namespace N6
open Go.Eng Go.RowKit
section
variable {w w0 : World} {s : Sl} {l : List Int} {Γ : List Fct}
abbrev curB (g : Nat) (s : Sl) (p : Nat) : Fct := Fct.blk g 154 [s.val, .int .i64 p]
theorem winSl_of {A' : Option Addr} {p k : Nat} (h : A' = if (k : Int) = 0 then s.A else s.A.map (·.add (p : Int).toNat)) : (⟨A', k, k⟩ : Sl) = winSl s p k := by
  unfold winSl
  rw [h, Int.toNat_natCast]
  congr 1
  by_cases h : k = 0
  · rw [if_pos (by omega), if_pos h]
  · rw [if_neg (by omega), if_neg h]
theorem curWin_yes {g p k i j : Nat} {kk : Int} (H : Sep Γ w) (h0 : Γ[j]? = some (Fct.rest w0 None)) (hi : Γ[i]? = some (curB g s p)) (hB : BytesAt w0 s l) (hk : p + k ≤ l.length) (hkk : kk = k) :
    Calls Tryd.prog 61 #[.pointer (some ⟨g, 0, none⟩), .int .i64 kk] w fun e w' => e = .returned (.tuple #[(winSl s p k).val, .int .i64 0]) ∧ Sep (Γ.set i (curB g s (p + k))) w' := by
  subst hkk
  refine Nd.view_Cursor_Window_of _ k w _ ?_
  unfold Nd.view_Cursor_Window_VC
  have hl := hB.len
  have hs := hB.small
  refine DrawVC.sep H (fun w' => Blk w' g 154 [s.val, .int .i64 p]) fun w1 H => ⟨H.blk i hi, _, rfl, _, _, _, fun w' hb => hb.cell 0, _, rfl, _, fun w' hb => hb.cell 1, ?_⟩
  refine (Nd.window_yes (p := (p : Int)) (k := (k : Int)) (hB.ext (H.restOf j h0)).cells (by rw [List.length_map]; exact hl) hB.cap (by omega) (by omega) (by omega) (by omega)).mono ?_
  rintro _ w2 ⟨hE, A', rfl, -, hA'⟩
  have H := H.ext hE
  have hsl := winSl_of hA'
  refine ⟨_, _, _, _, rfl, H.blk i hi, Br.yes rfl ⟨_, rfl, _, (H.blk i hi).cell 1, _, rfl, SetVC.sep H i hi (show 1 < 2 by decide) fun w3 H => ⟨?_, ?_⟩⟩⟩
  · rw [← hsl, Int.toNat_natCast]; rfl
  · have e : IntKind.i64.wrap ((p : Int) + (k : Int)) = ((p + k : Nat) : Int) := by rw [w64 (by omega) (by omega)]; omega
    rw [e] at H
    exact H
theorem curWin_no {g p k i j : Nat} {kk : Int} (H : Sep Γ w) (_h0 : Γ[j]? = some (Fct.rest w0 None)) (hi : Γ[i]? = some (curB g s p)) (hB : BytesAt w0 s l) (_hp : p ≤ l.length) (hk : l.length < p + k) (hkk : kk = k) :
    Calls Tryd.prog 61 #[.pointer (some ⟨g, 0, none⟩), .int .i64 kk] w fun e w' => e = .returned (.tuple #[Sl.z.val, .int .i64 10]) ∧ Sep Γ w' := by
  subst hkk
  refine Nd.view_Cursor_Window_of _ k w _ ?_
  unfold Nd.view_Cursor_Window_VC
  have hl := hB.len
  have hs := hB.small
  refine DrawVC.sep H (fun w' => Blk w' g 154 [s.val, .int .i64 p]) fun w1 H => ⟨H.blk i hi, _, rfl, _, _, _, fun w' hb => hb.cell 0, _, rfl, _, fun w' hb => hb.cell 1, ?_⟩
  refine (Nd.window_no (A := s.A) (n := s.n) (c := s.k) (p := (p : Int)) (k := (k : Int)) (by omega) (by omega)).mono ?_
  rintro _ w2 ⟨hE, rfl⟩
  have H := H.ext hE
  rw [if_neg (by omega)]
  exact ⟨_, _, _, _, rfl, H.blk i hi, Br.no (show ¬ ((10 : Int) = 0) by decide) ⟨rfl, H⟩⟩
theorem curUint_one {g p i j : Nat} (H : Sep Γ w) (h0 : Γ[j]? = some (Fct.rest w0 None)) (hi : Γ[i]? = some (curB g s p)) (hB : BytesAt w0 s l) (hk : p + 1 ≤ l.length) :
    Calls Tryd.prog 76 #[.pointer (some ⟨g, 0, none⟩), .int .i64 1] w fun e w' => e = .returned (.tuple #[.int .u64 (l.getD p 0), .int .i64 0]) ∧ Sep (Γ.set i (curB g s (p + 1))) w' := by
  refine Nd.view_Cursor_Uint_of _ 1 w _ ?_
  unfold Nd.view_Cursor_Uint_VC
  have hl := hB.len
  have hs := hB.small
  refine DrawVC.sep H (fun w' => Blk w' g 154 [s.val, .int .i64 p]) fun w1 H => ⟨H.blk i hi, _, rfl, _, _, _, fun w' hb => hb.cell 0, _, rfl, _, fun w' hb => hb.cell 1, ?_⟩
  refine (Nd.uint_spec (p := (p : Int)) (k := 1) (hB.ext (H.restOf j h0)).cells hl hB.bts (by omega)).mono ?_
  rintro _ w2 ⟨hE, rfl⟩
  have H := H.ext hE
  rw [uintS_one hk]
  refine ⟨_, _, rfl, H.blk i hi, Br.yes rfl ⟨_, rfl, _, (H.blk i hi).cell 1, _, rfl, SetVC.sep H i hi (show 1 < 2 by decide) fun w3 H => ⟨rfl, ?_⟩⟩⟩
  have e : IntKind.i64.wrap ((p : Int) + 1) = ((p + 1 : Nat) : Int) := by rw [w64 (by omega) (by omega)]; omega
  rw [e] at H
  exact H
theorem curLeft {g p i : Nat} (H : Sep Γ w) (hi : Γ[i]? = some (curB g s p)) (hl : l.length = s.n) (hs : s.n ≤ 4000000) (hp : p ≤ l.length) :
    Calls Tryd.prog 62 #[.pointer (some ⟨g, 0, none⟩)] w fun e w' => e = .returned (.int .i64 ((l.length - p : Nat) : Int)) ∧ Sep Γ w' := by
  refine Nd.view_Cursor_Left_of _ w _ ?_
  unfold Nd.view_Cursor_Left_VC
  refine DrawVC.sep H (fun w' => Blk w' g 154 [s.val, .int .i64 p]) fun w1 H => ⟨H.blk i hi, _, rfl, _, _, _, fun w' hb => hb.cell 0, _, rfl, _, fun w' hb => hb.cell 1, ?_⟩
  refine ⟨?_, H⟩
  rw [w64 (by omega) (by omega)]
  congr 3
  omega
abbrev chB (g : Nat) (c : ChnV) : Fct := Fct.blk g 121 c.cells
abbrev hdG (w0 : World) (g1 gc gk : Nat) (c : ChnV) (s : Sl) (p : Nat) (xs : List ExtR) : List Fct := Fct.rest w0 None :: chB g1 ChnV.z :: chB gc c :: curB gk s p :: readX w0.heap.size c.exts xs
/-- How reading a header ends. -/
def HdrRead (w0 : World) (g1 gc gk : Nat) (c : ChnV) (s : Sl) (l : List Int) (p : Nat) (xs : List ExtR) (e : Ending) (w' : World) : Prop :=
  (∃ err : Int, e = .returned (.int .i64 err) ∧ err ≠ 0 ∧ (∀ top, ¬ (c.next = 0 ∧ (top = false ∨ 0 < xs.length)) → hdrsS l top c.next p xs.length = .error err) ∧ Sep [Fct.rest w0 None, chB g1 ChnV.z] w') ∨
  (∃ (os : List OP) (x : ExtR) (se : Sl), e = .returned (.int .i64 0) ∧ xs.length < 8 ∧ p + 2 + lenH l p ≤ l.length ∧ inS c.next l (p + 2) (lenH l p) = some os ∧ ExtIs s l ⟨c.next, os, p + 2, lenH l p⟩ x ∧ se.n = (xs ++ [x]).length ∧
    Sep (hdG w0 g1 gc gk { c with exts := se, next := l.getD p 0 } s (p + 2 + lenH l p) (xs ++ [x])) w')
theorem sortS_43 {k : Int} (h : isH k) : sortS k = 2 ↔ k = 43 := by
  unfold isH at h
  unfold sortS
  rcases h with h | h | h <;> subst h <;> decide
set_option maxHeartbeats 4000000 in
theorem header_spec {g1 gc gk p : Nat} {c : ChnV} {xs : List ExtR} (H : Sep (hdG w0 g1 gc gk c s p xs) w) (hB : BytesAt w0 s l) (hK : Kn w0) (hp : p ≤ l.length) (hk : isH c.next) (hn : c.exts.n = xs.length) (hx8 : xs.length ≤ 8) :
    Calls Tryd.prog 60 #[.pointer (some ⟨gc, 0, none⟩), .pointer (some ⟨gk, 0, none⟩)] w (HdrRead w0 g1 gc gk c s l p xs) := by
  refine ip6_header_of _ _ w _ ?_
  unfold ip6_header_VC
  have hl := hB.len
  have hs := hB.small
  have b0 := getD_byte hB.bts p
  have b1 := getD_byte hB.bts (p + 1)
  refine ⟨_, rfl, _, _, _, H.cell 2 rfl 0 rfl, Br.dec (fun h8 => ?_) fun h8 => ?_⟩
  · exact .inl ⟨74, rfl, by decide, fun top ht => hdrsS_many hk ht (by omega), H.take 2⟩
  refine (curLeft H (i := 3) rfl hl hs hp).mono ?_
  rintro _ w1 ⟨rfl, H⟩
  refine ⟨_, rfl, Br.dec (fun hlt => ?_) fun hge => ?_⟩
  · exact .inl ⟨72, rfl, by decide, fun top ht => hdrsS_short hk ht (by omega) (.inl (by omega)), H.take 2⟩
  have hlen : lenH l p = 8 * (l.getD (p + 1) 0).toNat + 6 := rfl
  refine (curUint_one H (j := 0) rfl (i := 3) rfl hB (by omega)).mono ?_
  rintro _ w2 ⟨rfl, H⟩
  refine ⟨_, _, rfl, ?_⟩
  refine (curUint_one (p := p + 1) H (j := 0) rfl (i := 3) rfl hB (by omega)).mono ?_
  rintro _ w3 ⟨rfl, H⟩
  refine ⟨_, _, rfl, ?_⟩
  have hkk : IntKind.i64.wrap (IntKind.i64.wrap (8 * IntKind.i64.wrap (l.getD (p + 1) 0)) + 6) = ((lenH l p : Nat) : Int) := by
    rw [w64 (n := l.getD (p + 1) 0) (by omega) (by omega), w64 (n := 8 * l.getD (p + 1) 0) (by omega) (by omega), w64 (by omega) (by omega)]
    omega
  rw [hkk]
  rcases Nat.lt_or_ge l.length (p + 2 + lenH l p) with hw | hw
  · refine (curWin_no (p := p + 1 + 1) H (j := 0) rfl (i := 3) rfl hB (by omega) (by omega) rfl).mono ?_
    rintro _ w4 ⟨rfl, H⟩
    exact ⟨_, _, _, _, rfl, Br.yes (show ¬ ((10 : Int) = 0) by decide) (.inl ⟨72, rfl, by decide, fun top ht => hdrsS_short hk ht (by omega) (.inr hw), H.take 2⟩)⟩
  refine (curWin_yes (p := p + 1 + 1) (k := lenH l p) H (j := 0) rfl (i := 3) rfl hB (by omega) rfl).mono ?_
  rintro _ w4 ⟨rfl, H⟩
  refine ⟨_, _, _, _, rfl, Br.no (fun h => h rfl) ⟨_, rfl, _, H.cell 2 rfl 5 rfl, NewVC.sep H fun g5 w5 H => ?_⟩⟩
  have H := H.front
  refine Stores.sep H 0 rfl (ExtV.one ⟨c.next, Sl.z, Sl.z⟩) (Nat.le_refl _) (splice_all rfl) fun w6 H => ?_
  refine JoinVC.of (fun _ w' => ∃ (xv : ExtV) (ro : List OptR) (os : List OP), inS c.next l (p + 2) (lenH l p) = some os ∧ xv.kind = c.next ∧ All2 (OptIs (winSl s (p + 2) (lenH l p)) (bpart l (p + 2) (lenH l p))) os ro ∧ ro.length = xv.opts.n ∧ xv.data = (if c.next = 43 then winSl s (p + 2) (lenH l p) else Sl.z) ∧
      Sep (Fct.blk g5 115 xv.cells :: Fct.rest w0 None :: chB g1 ChnV.z :: chB gc c :: curB gk s (p + 2 + lenH l p) :: (readX w0.heap.size c.exts xs ++ readO w0.heap.size xv.opts ro)) w') ?_ ?_
  · refine ⟨_, rfl, _, H.cell 3 rfl 5 rfl, ?_⟩
    refine (sort_spec (k := c.next) (hK.ext (H.restOf 1 rfl))).mono ?_
    rintro _ w7 ⟨hE7, rfl⟩
    have H := H.ext hE7
    refine ⟨_, rfl, Br.dec (fun h2 => ?_) fun h2 => ?_⟩
    · have h43 : c.next = 43 := (sortS_43 hk).1 h2
      refine SetVC.sep H 0 rfl (show 2 < 3 by decide) fun w8 H => ⟨⟨c.next, Sl.z, winSl s (p + 2) (lenH l p)⟩, [], [], by unfold inS; rw [if_pos h43], rfl, .nil, rfl, by rw [if_pos h43], ?_⟩
      exact H.nil _ _ _
    · have h43 : c.next ≠ 43 := fun h => h2 ((sortS_43 hk).2 h)
      have hz7 := (H.restOf 1 rfl).size
      have hin : inS c.next l (p + 2) (lenH l p) = optsS (bpart l (p + 2) (lenH l p)) 0 0 := by unfold inS; rw [if_neg h43]
      refine (options_read ((hB.win (p := p + 2) (n := lenH l p) hw).ext (H.restOf 1 rfl))).mono ?_
      rintro e w9 ⟨so, ro, H9, hro, hm⟩
      have H9 := (AllLe.append (AllLe.refl [Fct.rest w7 None]) (readO_less hz7)).sep H9
      have H := H.mades H9
      cases ho : optsS (bpart l (p + 2) (lenH l p)) 0 0 with
      | none =>
        rw [ho] at hm
        obtain ⟨rfl, rfl, rfl⟩ := hm
        refine ⟨_, _, _, _, rfl, SetVC.sep H 0 rfl (show 1 < 3 by decide) fun w10 H => Br.yes (show ¬ ((75 : Int) = 0) by decide) (.inl ⟨75, rfl, by decide, fun top ht => hdrsS_opts hk ht (by omega) hw (hin.trans ho), ?_⟩)⟩
        exact H.tail.take 2
      | some os =>
        rw [ho] at hm
        obtain ⟨rfl, hA⟩ := hm
        refine ⟨_, _, _, _, rfl, SetVC.sep H 0 rfl (show 1 < 3 by decide) fun w10 H => Br.no (fun h => h rfl) ⟨⟨c.next, so, Sl.z⟩, ro, os, hin.trans ho, rfl, hA, hro.symm, by rw [if_neg h43], H⟩⟩
  · rintro _ w11 ⟨xv, ro, os, hin, hxk, hA, hro, hxd, H⟩
    unfold ip6_header_J511
    refine DrawVC.sep H (fun w' => Blk w' gc 121 c.cells ∧ Blk w' g5 115 xv.cells) fun w12 H => ⟨⟨H.blk 3 rfl, H.blk 0 rfl⟩, _, rfl, _, _, _, fun w' hb => hb.1.cell 0, ExtV.of xv ⟨fun w' hb => CellsAt.blk hb.2, NewVC.sep H fun g6 w13 H => ?_⟩⟩
    have H := H.front
    refine ⟨⟨H.blk 4 rfl, H.blk 1 rfl⟩, ?_⟩
    have hsz := (H.restOf 2 rfl).size
    refine appE (o := xv) H 6 rfl (Cells.blk0 (H.blk 0 rfl)) (by omega) (by omega) fun A2 c2 w14 H hc2 => ⟨⟨H.blk 4 rfl, H.blk 1 rfl⟩, _, rfl, SetVC.sep H 4 rfl (show 0 < 7 by decide) fun w15 H => ⟨_, rfl, SetVC.sep H 4 rfl (show 5 < 7 by decide) fun w16 H => ?_⟩⟩
    refine .inr ⟨os, ⟨xv, ro, if c.next = 43 then bpart l (p + 2) (lenH l p) else []⟩, ⟨A2, c.exts.n + 1, c2⟩, rfl, by omega, hw, hin, ⟨hxk, hA, hro, hxd, rfl⟩, by simp [hn], ?_⟩
    rw [w64 (n := l.getD p 0) (by omega) (by omega)] at H
    have H := H.tail.tail
    unfold hdG readX rowE readX1
    simp only [List.map_append, List.flatten_append, List.map_cons, List.map_nil, List.flatten_cons, List.flatten_nil, List.append_nil, List.flatMap_append, List.flatMap_cons, List.flatMap_nil]
    exact H
end
end N6
end Go.Proofs.YthhgbpmihhljdaaDoor
/- Chapter 7, reading: the chain of headers, the program's. -/
namespace Go.Proofs.YthhgbpmihhljdaaDoor
namespace N6
open Go.Eng Go.RowKit
section
variable {w w0 : World} {s : Sl} {l : List Int} {Γ : List Fct}
/-- What a fragment's header reads as. -/
def fragRes (s : Sl) (l : List Int) (p : Nat) (c : ChnV) : ChnV × Int :=
  if l.length < p + 8 then (ChnV.z, 72) else if fitsS (fragAt l p) (l.length - (p + 8)) = false then (ChnV.z, 76)
  else ({ c with next := l.getD p 0, frag := fragAt l p, data := winSl s (p + 8) (l.length - (p + 8)) }, 0)
theorem eight_at {p : Nat} (_h : p + 8 ≤ l.length) {j : Nat} (hj : j < 8) : (((bpart l p 8).drop 0).take 8).getD j 0 = l.getD (p + j) 0 := by
  unfold bpart
  rw [List.drop_zero, List.take_take, Nat.min_self, List.getD_eq_getElem?_getD, List.getElem?_take_of_lt hj, List.getElem?_drop, List.getD_eq_getElem?_getD]
theorem psum_wsf : psum wsf / 8 = 8 := by decide
theorem wsf_at (hB : Bts l) {p : Nat} (h : p + 8 ≤ l.length) : fieldsV (bitAt (((bpart l p 8).drop (0 : Int).toNat).take (psum wsf / 8).toNat)) 0 wsf =
    [l.getD p 0, l.getD (p + 1) 0, l.getD (p + 2) 0 * 32 + l.getD (p + 3) 0 / 8, l.getD (p + 3) 0 / 2 % 4, l.getD (p + 3) 0 % 2, ((l.getD (p + 4) 0 * 256 + l.getD (p + 5) 0) * 256 + l.getD (p + 6) 0) * 256 + l.getD (p + 7) 0] := by
  have hb : Bts (((bpart l p 8).drop 0).take 8) := (((hB.drop p).take 8).drop 0).take 8
  rw [psum_wsf, show (8 : Int).toNat = 8 from rfl, show (0 : Int).toNat = 0 from rfl, wsf_fields hb]
  have e : ∀ j, j < 8 → (((bpart l p 8).drop 0).take 8).getD j 0 = l.getD (p + j) 0 := fun j hj => eight_at h hj
  rw [e 0 (by decide), e 1 (by decide), e 2 (by decide), e 3 (by decide), e 4 (by decide), e 5 (by decide), e 6 (by decide), e 7 (by decide)]
  rfl
set_option maxHeartbeats 4000000 in
theorem fragment_spec {g1 gc gk p : Nat} {c : ChnV} {xs : List ExtR} (H : Sep (hdG w0 g1 gc gk c s p xs) w) (hB : BytesAt w0 s l) (hp : p ≤ l.length) :
    Calls Tryd.prog 59 #[c.val, .pointer (some ⟨gk, 0, none⟩)] w fun e w' => e = .returned (.tuple #[(fragRes s l p c).1.val, .int .i64 (fragRes s l p c).2]) ∧ ∃ p', Sep (hdG w0 g1 gc gk c s p' xs) w' := by
  refine ip6_fragment_of c _ w _ ?_
  unfold ip6_fragment_VC
  have hl := hB.len
  have hs := hB.small
  refine NewVC.sep H fun ga w1 H => ?_
  have H := H.front
  refine NewVC.sep H fun gb w2 H => ?_
  have H := H.front
  rcases Nat.lt_or_ge l.length (p + 8) with h8 | h8
  · refine (curWin_no (k := 8) H (j := 2) rfl (i := 5) rfl hB hp h8 rfl).mono ?_
    rintro _ w3 ⟨rfl, H⟩
    refine ⟨_, _, _, _, rfl, Br.yes (show ¬ ((10 : Int) = 0) by decide) (Stores.sep H 0 rfl (ChnV.one ChnV.z) (Nat.le_refl _) (splice_all rfl) fun w4 H => ChnV.of ChnV.z ⟨H.at 0 rfl, ?_, p, H.tail.tail⟩)⟩
    unfold fragRes; rw [if_pos h8]
  refine (curWin_yes (k := 8) H (j := 2) rfl (i := 5) rfl hB h8 rfl).mono ?_
  rintro _ w3 ⟨rfl, H⟩
  refine ⟨_, _, _, _, rfl, Br.no (fun h => h rfl) (NewVC.sep H fun gw w5 H => ?_)⟩
  have H := H.front
  have hW8 := (hB.win (p := p) (n := 8) h8).ext (H.restOf 3 rfl)
  have hws : Cells w5 (some ⟨gw, 0, none⟩) (wsf.map (.int .i64)) := Cells.blk0 (H.blk 0 rfl)
  refine (fields_yes (n := 8) (c := 8) (d := 6) (p := 0) (ws := wsf) hW8.cells hW8.len hW8.bts (Nat.le_refl _) (by decide) hws rfl wsf_ok (Int.le_refl _) (by rw [psum_wsf]; decide)).mono ?_
  rintro _ w6 ⟨hE6, A', c', rfl, hrow⟩
  rw [wsf_at hB.bts h8] at hrow
  have H := H.pushOwn hE6 hrow (Nat.le_refl _)
  have H := H.front
  obtain ⟨F, hF⟩ : ∃ F : List Int, F = [l.getD p 0, l.getD (p + 1) 0, l.getD (p + 2) 0 * 32 + l.getD (p + 3) 0 / 8, l.getD (p + 3) 0 / 2 % 4, l.getD (p + 3) 0 % 2, ((l.getD (p + 4) 0 * 256 + l.getD (p + 5) 0) * 256 + l.getD (p + 6) 0) * 256 + l.getD (p + 7) 0] := ⟨_, rfl⟩
  rw [← hF] at H
  have hFl : F.length = 6 := by rw [hF]; rfl
  have f0 : F.getD 0 0 = l.getD p 0 := by rw [hF]; rfl
  have f2 : F.getD 2 0 = l.getD (p + 2) 0 * 32 + l.getD (p + 3) 0 / 8 := by rw [hF]; rfl
  have f4 : F.getD 4 0 = l.getD (p + 3) 0 % 2 := by rw [hF]; rfl
  have f5 : F.getD 5 0 = ((l.getD (p + 4) 0 * 256 + l.getD (p + 5) 0) * 256 + l.getD (p + 6) 0) * 256 + l.getD (p + 7) 0 := by rw [hF]; rfl
  have b2 := getD_byte hB.bts (p + 2)
  have b3 := getD_byte hB.bts (p + 3)
  refine ⟨_, _, _, _, _, rfl, ?_⟩
  refine IdxVC.int (k := .i64) (xs := F) (H.cells 0 rfl) (by decide) (by decide) hFl fun a ha => ⟨_, ha, SetVC.sep H 3 rfl (show 5 < 7 by decide) fun w7 H => ?_⟩
  refine DrawVC.sep H (fun w' => Cells w' A' (F.map (.int .i64))) fun w8 H => ⟨H.cells 0 rfl, ?_⟩
  refine IdxVC.draw (k := .i64) (xs := F) (w := w8) (S := fun w' => Cells w' A' (F.map (.int .i64))) (H.cells 0 rfl) (fun w' h => h) (by decide) (by decide) hFl fun a1 ha1 => ⟨_, ha1, ?_⟩
  refine IdxVC.draw (k := .i64) (xs := F) (w := w8) (S := fun w' => Cells w' A' (F.map (.int .i64))) (H.cells 0 rfl) (fun w' h => h) (by decide) (by decide) hFl fun a2 ha2 => ⟨_, ha2, ?_⟩
  refine IdxVC.draw (k := .i64) (xs := F) (w := w8) (S := fun w' => Cells w' A' (F.map (.int .i64))) (H.cells 0 rfl) (fun w' h => h) (by decide) (by decide) hFl fun a3 ha3 => ⟨_, ha3, ?_⟩
  rw [show (4 : Int).toNat = 4 from rfl, show (5 : Int).toNat = 5 from rfl, show (2 : Int).toNat = 2 from rfl, f2, f4, f5, w64 (n := 8 * (l.getD (p + 2) 0 * 32 + l.getD (p + 3) 0 / 8)) (by omega) (by omega), Int.mul_comm 8]
  rw [show (0 : Int).toNat = 0 from rfl, f0] at H
  obtain ⟨c1, hc1⟩ : ∃ c1 : ChnV, c1 = { c with next := l.getD p 0, frag := fragAt l p } := ⟨_, rfl⟩
  refine Stores.sep H 3 rfl (FragV.one (fragAt l p)) (show 1 + 4 ≤ 7 by decide) (show _ = c1.cells by rw [hc1]; rfl) fun w9 H => ?_
  refine (curLeft H (i := 7) rfl hl hs h8).mono ?_
  rintro _ w10 ⟨rfl, H⟩
  refine ⟨_, rfl, ?_⟩
  refine (curWin_yes (p := p + 8) (k := l.length - (p + 8)) H (j := 4) rfl (i := 7) rfl hB (by omega) rfl).mono ?_
  rintro _ w11 ⟨rfl, H⟩
  obtain ⟨c2, hc2⟩ : ∃ c2 : ChnV, c2 = { c with next := l.getD p 0, frag := fragAt l p, data := winSl s (p + 8) (l.length - (p + 8)) } := ⟨_, rfl⟩
  refine ⟨_, _, _, _, rfl, SetVC.sep H 3 rfl (show 6 < 7 by decide) fun w12 H => ?_⟩
  have e2 : c1.cells.set 6 (.slice (winSl s (p + 8) (l.length - (p + 8))).A (winSl s (p + 8) (l.length - (p + 8))).n (winSl s (p + 8) (l.length - (p + 8))).k) = c2.cells := by rw [hc1, hc2]; rfl
  rw [e2] at H
  have e3 : c2.frag = fragAt l p := by rw [hc2]
  refine FragV.of c2.frag ⟨⟨H.cell 3 rfl 1 rfl, H.cell 3 rfl 2 rfl, H.cell 3 rfl 3 rfl, H.cell 3 rfl 4 rfl, trivial⟩, _, _, _, H.cell 3 rfl 6 rfl, ?_⟩
  have e4 : c2.data.n = l.length - (p + 8) := by rw [hc2]; rfl
  rw [e4, e3]
  refine (fits_spec (f := fragAt l p) (k := l.length - (p + 8)) (by omega) (by unfold fragAt; simp only; omega)).mono ?_
  rintro _ w13 ⟨hE13, rfl⟩
  have H := H.ext hE13
  refine ⟨_, rfl, ?_⟩
  cases hft : fitsS (fragAt l p) (l.length - (p + 8)) with
  | false =>
    refine Br.t rfl (Stores.sep H 2 rfl (ChnV.one ChnV.z) (Nat.le_refl _) (splice_all rfl) fun w14 H => ChnV.of ChnV.z ⟨H.at 2 rfl, ?_, _, H.tail.tail.tail.tail⟩)
    unfold fragRes; rw [if_neg (by omega), if_pos hft]
  | true =>
    refine Br.f rfl (ChnV.of c2 ⟨H.at 3 rfl, Stores.sep H 2 rfl (ChnV.one c2) (Nat.le_refl _) (splice_all rfl) fun w15 H => ChnV.of c2 ⟨H.at 2 rfl, ?_, _, H.tail.tail.tail.tail⟩⟩)
    unfold fragRes; rw [if_neg (by omega), if_neg (by rw [hft]; decide), hc2]
end
end N6
end Go.Proofs.YthhgbpmihhljdaaDoor
/- Chapter 7, reading: the walk, and Chain, the program's. -/
namespace Go.Proofs.YthhgbpmihhljdaaDoor
namespace N6
open Go.Eng Go.RowKit
section
variable {w : World} {s : Sl} {l : List Int}
/-- What the walk hands back. -/
def WalkRead (w : World) (s : Sl) (l : List Int) (r : Except Int Tail6) (e : Ending) (w' : World) : Prop :=
  ∃ (c : ChnV) (xs : List ExtR), Sep (Fct.rest w None :: readX w.heap.size c.exts xs) w' ∧ c.exts.n = xs.length ∧ match r with
    | .ok t => e = .returned (.tuple #[c.val, .int .i64 0]) ∧ All2 (ExtIs s l) t.exts xs ∧ c.frag = t.frag ∧ c.next = t.next ∧ c.data = winSl s t.p (l.length - t.p)
    | .error er => e = .returned (.tuple #[c.val, .int .i64 er]) ∧ c = ChnV.z ∧ xs = [] ∧ er ≠ 0
theorem sortS_ne {k : Int} (h : sortS k ≠ 0) : isH k ∨ k = 44 := by
  unfold sortS at h
  unfold isH
  by_cases h1 : k = 0 ∨ k = 60
  · omega
  · rw [if_neg h1] at h
    by_cases h2 : k = 43
    · omega
    · rw [if_neg h2] at h
      by_cases h3 : k = 44
      · omega
      · rw [if_neg h3] at h; exact absurd rfl h
theorem sortS_zero {k : Int} (h : sortS k = 0) : ¬ isH k ∧ k ≠ 44 := by
  refine ⟨fun hk => ?_, fun hk => ?_⟩
  · unfold isH at hk
    rcases hk with hk | hk | hk <;> subst hk <;> exact absurd h (by decide)
  · subst hk; exact absurd h (by decide)
theorem sortS_three {k : Int} (h : sortS k ≠ 0) : (sortS k = 3 → k = 44) ∧ (sortS k ≠ 3 → isH k) := by
  refine ⟨fun h3 => ?_, fun h3 => ?_⟩
  · rcases sortS_ne h with hk | hk
    · unfold isH at hk
      rcases hk with hk | hk | hk <;> subst hk <;> exact absurd h3 (by decide)
    · exact hk
  · rcases sortS_ne h with hk | hk
    · exact hk
    · subst hk; exact absurd rfl h3
theorem isH_44 : ¬ isH 44 := by unfold isH; omega
theorem walk_err {next : Int} {inner : Bool} {es : List EP} {k : Int} {p i : Nat} {err : Int} (ho : hdrsS l (!inner) next 0 0 = behind es (hdrsS l (!inner) k p i)) (h : hdrsS l (!inner) k p i = .error err) : walkS l next inner = .error err := by
  unfold walkS; rw [ho, h]; rfl
theorem walk_end {next : Int} {inner : Bool} {es : List EP} {k : Int} {p i : Nat} (ho : hdrsS l (!inner) next 0 0 = behind es (hdrsS l (!inner) k p i)) (h : ¬ isH k) :
    walkS l next inner = if k = 44 then
      (if inner = true then .error 76 else if l.length < p + 8 then .error 72
       else if fitsS (fragAt l p) (l.length - (p + 8)) = false then .error 76 else .ok ⟨es, fragAt l p, l.getD p 0, p + 8⟩)
    else .ok ⟨es, FragV.z, k, p⟩ := by
  unfold walkS
  rw [ho, hdrsS_end h]
  simp only [behind, Except.map, List.append_nil]
set_option maxHeartbeats 4000000 in
theorem walk_spec {next : Int} {inner : Bool} (hB : BytesAt w s l) (hK : Kn w) : Calls Tryd.prog 48 #[.int .i64 next, s.val, .bool inner] w (WalkRead w s l (walkS l next inner)) := by
  refine ip6_walk_of next s.A s.n s.k inner w _ ?_
  unfold ip6_walk_VC
  have hl := hB.len
  have hs := hB.small
  refine NewVC.sep (Sep.start0 w) fun g1 w1 H => NewVC.sep H fun g2 w2 H => Stores.sep H 2 rfl (ChnV.one ⟨Sl.z, FragV.z, next, Sl.z⟩) (Nat.le_refl _) (splice_all rfl) fun w3 H => ?_
  refine (Nd.At_spec (A := s.A) (n := s.n) (c := s.k)).mono ?_
  rintro _ w4 ⟨hE4, rfl, hb4⟩
  obtain ⟨gk, hgk⟩ : ∃ gk, gk = w3.heap.size := ⟨_, rfl⟩
  have H := H.pushBlk hE4 hb4 (Nat.le_refl _)
  rw [← hgk] at H ⊢
  refine ⟨_, rfl, ?_⟩
  have fin : ∀ {c : ChnV} {xs : List ExtR} {p : Nat} {w' : World}, Sep (hdG w g1 g2 gk c s p xs) w' → Sep (Fct.rest w None :: readX w.heap.size c.exts xs) w' := fun H => H.sub (.cons_cons _ (.cons _ (.cons _ (.cons _ (List.Sublist.refl _)))))
  have bad : ∀ {err : Int} {w' : World} {R : Ending → World → Prop}, (∀ e w', WalkRead w s l (.error err) e w' → R e w') → err ≠ 0 → Sep [Fct.rest w None, chB g1 ChnV.z] w' → Stores ⟨g1, 0, none⟩ 0 (ChnV.z : ChnV).cells w' fun w8 => ChnV.ex fun res => CellsAt w8 ⟨g1, 0, none⟩ 0 res.cells ∧ R (.returned (.tuple #[res.val, .int .i64 err])) w8 := by
    intro err w' R hR he H
    refine Stores.sep H 1 rfl (ChnV.one ChnV.z) (Nat.le_refl _) (splice_all rfl) fun w8 H => ChnV.of ChnV.z ⟨H.at 1 rfl, hR _ _ ⟨ChnV.z, [], (H.take 1).nil _ _ _, rfl, rfl, rfl, rfl, he⟩⟩
  refine LoopVC.of (fun st w' => ∃ (p : Nat) (c : ChnV) (es : List EP) (xs : List ExtR), st = (xs.length : Int) ∧ xs.length ≤ 8 ∧ p ≤ l.length ∧ c.frag = FragV.z ∧ c.exts.n = xs.length ∧ All2 (ExtIs s l) es xs ∧ hdrsS l (!inner) next 0 0 = behind es (hdrsS l (!inner) c.next p xs.length) ∧
      Sep (hdG w g1 g2 gk c s p xs) w') (fun st _ => (9 - st).toNat)
    ⟨0, ⟨Sl.z, FragV.z, next, Sl.z⟩, [], [], rfl, by decide, Nat.zero_le _, rfl, rfl, .nil, (behind_nil _).symm, H.nil _ _ _⟩ ?_
  rintro _ w5 ⟨p, c, es, xs, rfl, hx8, hp, hcf, hn, hA, ho, H⟩
  unfold ip6_walk_L122
  refine ⟨_, H.cell 2 rfl 5 rfl, ?_⟩
  refine (sort_spec (k := c.next) (hK.ext (H.restOf 0 rfl))).mono ?_
  rintro _ w6 ⟨hE6, rfl⟩
  have H := H.ext hE6
  refine ⟨_, rfl, Br.dec (fun hne => ?_) fun hze => ?_⟩
  · refine ⟨_, H.cell 2 rfl 5 rfl, ?_⟩
    refine (sort_spec (k := c.next) (hK.ext (H.restOf 0 rfl))).mono ?_
    rintro _ w7 ⟨hE7, rfl⟩
    have H := H.ext hE7
    refine ⟨_, rfl, Br.dec (fun h3 => ?_) fun h3 => ?_⟩
    · have h44 : c.next = 44 := (sortS_three hne).1 h3
      have hw := walk_end ho (by rw [h44]; exact isH_44)
      rw [if_pos h44] at hw
      cases inner with
      | true =>
        rw [if_pos rfl] at hw
        rw [hw]
        exact Br.t rfl (bad (fun _ _ h => h) (by decide) (H.take 2))
      | false =>
        rw [if_neg (by decide)] at hw
        rw [hw]
        refine Br.f rfl (ChnV.of c ⟨H.at 2 rfl, ?_⟩)
        refine (fragment_spec H hB hp).mono ?_
        rintro _ w9 ⟨rfl, p', H⟩
        refine onRet_is (ChnV.of (fragRes s l p c).1 ⟨_, rfl, Stores.sep H 1 rfl (ChnV.one _) (Nat.le_refl _) (splice_all rfl) fun w10 H => ChnV.of (fragRes s l p c).1 ⟨H.at 1 rfl, ?_⟩⟩)
        have H := H.sub (Γ' := Fct.rest w None :: readX w.heap.size c.exts xs) (.cons_cons _ (.cons _ (.cons _ (.cons _ (List.Sublist.refl _)))))
        unfold fragRes
        by_cases h8 : l.length < p + 8
        · rw [if_pos h8, if_pos h8]
          exact ⟨ChnV.z, [], (H.take 1).nil _ _ _, rfl, rfl, rfl, rfl, by decide⟩
        · rw [if_neg h8, if_neg h8]
          by_cases hf : fitsS (fragAt l p) (l.length - (p + 8)) = false
          · rw [if_pos hf, if_pos hf]
            exact ⟨ChnV.z, [], (H.take 1).nil _ _ _, rfl, rfl, rfl, rfl, by decide⟩
          · rw [if_neg hf, if_neg hf]
            exact ⟨{ c with next := l.getD p 0, frag := fragAt l p, data := winSl s (p + 8) (l.length - (p + 8)) }, xs, H, hn, rfl, hA, rfl, rfl, rfl⟩
    · have hH : isH c.next := (sortS_three hne).2 h3
      refine JoinVC.of (fun _ w' => Sep (hdG w g1 g2 gk c s p xs) w' ∧ ¬ (c.next = 0 ∧ ((!inner) = false ∨ 0 < xs.length))) ?_ ?_
      · refine ⟨_, H.cell 2 rfl 5 rfl, Br.dec (fun h0 => Br.dec (fun hi => ?_) fun hi => ?_) fun h0 => ⟨H, fun h => h0 h.1⟩⟩
        · rw [walk_err ho (hdrsS_first hH ⟨h0, .inr (by omega)⟩)]
          exact bad (fun _ _ h => h) (by decide) (H.take 2)
        · cases inner with
          | true =>
            rw [walk_err ho (hdrsS_first hH ⟨h0, .inl rfl⟩)]
            exact Br.t rfl (bad (fun _ _ h => h) (by decide) (H.take 2))
          | false => exact Br.f rfl ⟨H, fun h => h.2.elim (fun q => by cases q) (by omega)⟩
      rintro _ w13 ⟨H, hnf⟩
      unfold ip6_walk_J3913
      refine (header_spec H hB (hK) hp hH hn hx8).mono ?_
      rintro e w14 (⟨err, rfl, hne, herr, H⟩ | ⟨os, x, se, rfl, h8, hlen, hin, hx, hse, H⟩)
      · rw [walk_err ho (herr _ hnf)]
        exact ⟨_, rfl, Br.yes hne (bad (fun _ _ h => h) hne H)⟩
      · refine ⟨_, rfl, Br.no (fun h => h rfl) ?_⟩
        rw [w64 (by omega) (by omega)]
        refine ⟨⟨p + 2 + lenH l p, { c with exts := se, next := l.getD p 0 }, es ++ [⟨c.next, os, p + 2, lenH l p⟩], xs ++ [x], by simp, by simp; omega, hlen, hcf, hse, hA.append (.cons hx .nil), ?_, H⟩, by omega⟩
        rw [ho, hdrsS_step hH hnf h8 hlen hin, behind_map]
        simp
  · have hup := sortS_zero (Classical.byContradiction hze)
    have hw := walk_end ho hup.1
    rw [if_neg hup.2] at hw
    rw [hw]
    refine (curLeft H (i := 3) rfl hl hs hp).mono ?_
    rintro _ w16 ⟨rfl, H⟩
    refine ⟨_, rfl, ?_⟩
    refine (curWin_yes (k := l.length - p) H (j := 0) rfl (i := 3) rfl hB (by omega) rfl).mono ?_
    rintro _ w17 ⟨rfl, H⟩
    refine ⟨_, _, _, _, rfl, SetVC.sep H 2 rfl (show 6 < 7 by decide) fun w18 H => ?_⟩
    obtain ⟨c2, hc2⟩ : ∃ c2 : ChnV, c2 = { c with data := winSl s p (l.length - p) } := ⟨_, rfl⟩
    have e2 : c.cells.set 6 (.slice (winSl s p (l.length - p)).A (winSl s p (l.length - p)).n (winSl s p (l.length - p)).k) = c2.cells := by rw [hc2]; rfl
    rw [e2] at H
    refine ChnV.of c2 ⟨H.at 2 rfl, Stores.sep H 1 rfl (ChnV.one c2) (Nat.le_refl _) (splice_all rfl) fun w19 H => ChnV.of c2 ⟨H.at 1 rfl, c2, xs, ?_, by rw [hc2]; exact hn, rfl, hA, by rw [hc2]; exact hcf, by rw [hc2], by rw [hc2]⟩⟩
    rw [hc2]
    exact H.sub (.cons_cons _ (.cons _ (.cons _ (.cons _ (List.Sublist.refl _)))))
/-- What Chain hands back. -/
def ChainRead (w : World) (s : Sl) (l : List Int) (r : Except Int Tail6) (e : Ending) (w' : World) : Prop :=
  ∃ (se sd : Sl) (xs : List ExtR), Sep (Fct.rest w None :: readX w.heap.size se xs) w' ∧ se.n = xs.length ∧ match r with
    | .ok t => e = .returned (.tuple #[se.val, .int .i64 t.next, sd.val, .int .i64 0]) ∧ All2 (ExtIs s l) t.exts xs ∧ sd = winSl s t.p (l.length - t.p)
    | .error er => e = .returned (.tuple #[se.val, .int .i64 0, sd.val, .int .i64 er]) ∧ se = Sl.z ∧ sd = Sl.z ∧ xs = [] ∧ er ≠ 0
theorem chain_spec {next : Int} (hB : BytesAt w s l) (hK : Kn w) : Calls Tryd.prog 38 #[.int .i64 next, s.val] w (ChainRead w s l (chainS next l)) := by
  refine ip6_Chain_of next s.A s.n s.k w _ ?_
  unfold ip6_Chain_VC
  have hl := hB.len
  have err : ∀ {er : Int} {w' : World}, er ≠ 0 → Ext w w' → ChainRead w s l (.error er) (.returned (.tuple #[.slice none 0 0, .int .i64 0, .slice none 0 0, .int .i64 er])) w' := fun he hE => ⟨Sl.z, Sl.z, [], ((Sep.start0 w).ext hE).nil _ _ _, rfl, rfl, rfl, rfl, rfl, he⟩
  refine JoinVC.of (fun st w' => w' = w ∧ st = decide (next < 0 ∨ 255 < next)) ?_ ?_
  · refine Br.dec (fun h => ⟨rfl, (decide_eq_true (.inl h)).symm⟩) fun h => ⟨rfl, ?_⟩
    by_cases h2 : (255 : Int) < next
    · rw [decide_eq_true h2, decide_eq_true (.inr h2)]
    · rw [decide_eq_false h2, decide_eq_false (by omega)]
  rintro _ w1 ⟨hw1, rfl⟩
  subst w1
  unfold ip6_Chain_J12 chainS
  refine Br.dec (fun h => ?_) fun h => ?_
  · rw [if_pos h]; exact err (by decide) (Mod.refl _ _)
  rw [if_neg h]
  refine Br.dec (fun h2 => ?_) fun h2 => ?_
  · rw [if_pos (by omega)]; exact err (by decide) (Mod.refl _ _)
  rw [if_neg (by omega)]
  refine (walk_spec (next := next) (inner := true) hB hK).mono ?_
  rintro e w2 ⟨c, xs, H, hn, hm⟩
  cases hw : walkS l next true with
  | error er =>
    rw [hw] at hm
    obtain ⟨rfl, rfl, rfl, he⟩ := hm
    refine onRet_is (ChnV.of ChnV.z ⟨_, rfl, NewVC.sep H fun g1 w3 H => ?_⟩)
    have H := H.front
    refine Stores.sep H 0 rfl (ChnV.one _) (Nat.le_refl _) (splice_all rfl) fun w4 H => DrawVC.sep H (fun w' => Blk w' g1 121 (ChnV.z : ChnV).cells) fun w5 H => ⟨H.blk 0 rfl, _, _, _, fun w' hb => hb.cell 0, _, fun w' hb => hb.cell 5, _, _, _, fun w' hb => hb.cell 6, Sl.z, Sl.z, [], H.tail, rfl, rfl, rfl, rfl, rfl, he⟩
  | ok t =>
    rw [hw] at hm
    obtain ⟨rfl, hA, hcf, hcn, hcd⟩ := hm
    refine onRet_is (ChnV.of c ⟨_, rfl, NewVC.sep H fun g1 w3 H => ?_⟩)
    have H := H.front
    refine Stores.sep H 0 rfl (ChnV.one _) (Nat.le_refl _) (splice_all rfl) fun w4 H => DrawVC.sep H (fun w' => Blk w' g1 121 c.cells) fun w5 H => ⟨H.blk 0 rfl, _, _, _, fun w' hb => hb.cell 0, _, fun w' hb => hb.cell 5, _, _, _, fun w' hb => hb.cell 6, c.exts, c.data, xs, H.tail, hn, ?_, hA, hcd⟩
    rw [← hcn]; rfl
end
end N6
end Go.Proofs.YthhgbpmihhljdaaDoor
/- WRITTEN BY a program of this session (vc.py): for each Go function the condition that is enough for its contract, and the theorem that it is. -/
namespace Go.Proofs.YthhgbpmihhljdaaDoor
open Go.Eng
namespace N6
end N6
end Go.Proofs.YthhgbpmihhljdaaDoor
/- WRITTEN BY a program of this session (vc.py): for each Go function the condition that is enough for its contract, and the theorem that it is. -/
namespace Go.Proofs.YthhgbpmihhljdaaDoor
open Go.Eng
namespace N6
end N6
end Go.Proofs.YthhgbpmihhljdaaDoor
/- WRITTEN BY a program of this session (vc.py): for each Go function the condition that is enough for its contract, and the theorem that it is. -/
namespace Go.Proofs.YthhgbpmihhljdaaDoor
open Go.Eng
namespace N6

set_option maxRecDepth 100000 in
def bytes_Equal_VC (aA : Option Addr) (an : Nat) (ac : Nat) (bA : Option Addr) (bn : Nat) (bc : Nat) (w : World) (R : Ending → World → Prop) : Prop :=
  StrVC Tryd.prog (.slice aA an ac) w fun str =>
  StrVC Tryd.prog (.slice bA bn bc) w fun str1 =>
  R (.returned (.bool (str.toList == str1.toList))) w
def bytes_Equal_H : Hints := []
set_option maxRecDepth 100000 in
theorem bytes_Equal_of (aA : Option Addr) (an : Nat) (ac : Nat) (bA : Option Addr) (bn : Nat) (bc : Nat) (w : World) (R : Ending → World → Prop) (hvc_ : bytes_Equal_VC aA an ac bA bn bc w R) :
    Calls Tryd.prog 42 #[.slice aA an ac, .slice bA bn bc] w R :=
  calls_of_wpc callOk mixedOk (H := bytes_Equal_H) (args := [.slice aA an ac, .slice bA bn bc]) (fn := Tryd.f42) (c := bodyOf Tryd.f42) Tryd.func42 rfl (Nat.le_of_ble_eq_true rfl)
    (Eq.mp (by kernel_rfl : bytes_Equal_VC aA an ac bA bn bc w R = wpc Tryd.prog callF Tryd.f42.ntmps bytes_Equal_H 1 (bodyOf Tryd.f42) (argEnv 0 [.slice aA an ac, .slice bA bn bc]) [] w (finish Tryd.prog callF Tryd.f42.results.toList R)) hvc_)
end N6
end Go.Proofs.YthhgbpmihhljdaaDoor
