/- Chapter 7, reading: the chain of headers, the program's. -/
import Derived.Test.YthhgbpmihhljdaaGreatDoorBbd
import Derived.Test.YthhgbpmihhljdaaGreatDoorBba
namespace Go.Proofs.YthhgbpmihhljdaaGreatDoor
namespace N6
open Go.Eng Go.RowKit
section
variable {w w0 : World} {s : Sl} {l : List Int} {Γ : List Fct}
/-- What a fragment's header reads as. -/
def fragRes (s : Sl) (l : List Int) (p : Nat) (c : ChnV) : ChnV × Int :=
  if l.length < p + 8 then (ChnV.z, 72) else if fitsS (fragAt l p) (l.length - (p + 8)) = false then (ChnV.z, 76)
  else ({ c with next := l.getD p 0, frag := fragAt l p, data := winSl s (p + 8) (l.length - (p + 8)) }, 0)
theorem eight_at {p : Nat} (_h : p + 8 ≤ l.length) {j : Nat} (hj : j < 8) : (((bpart l p 8).drop 0).take 8).getD j 0 = l.getD (p + j) 0 := by
  unfold bpart
  rw [List.drop_zero, List.take_take, Nat.min_self, List.getD_eq_getElem?_getD, List.getElem?_take_of_lt hj, List.getElem?_drop, List.getD_eq_getElem?_getD]
theorem psum_wsf : psum wsf / 8 = 8 := by decide
theorem wsf_at (hB : Bts l) {p : Nat} (h : p + 8 ≤ l.length) : fieldsV (bitAt (((bpart l p 8).drop (0 : Int).toNat).take (psum wsf / 8).toNat)) 0 wsf =
    [l.getD p 0, l.getD (p + 1) 0, l.getD (p + 2) 0 * 32 + l.getD (p + 3) 0 / 8, l.getD (p + 3) 0 / 2 % 4, l.getD (p + 3) 0 % 2, ((l.getD (p + 4) 0 * 256 + l.getD (p + 5) 0) * 256 + l.getD (p + 6) 0) * 256 + l.getD (p + 7) 0] := by
  have hb : Bts (((bpart l p 8).drop 0).take 8) := (((hB.drop p).take 8).drop 0).take 8
  rw [psum_wsf, show (8 : Int).toNat = 8 from rfl, show (0 : Int).toNat = 0 from rfl, wsf_fields hb]
  have e : ∀ j, j < 8 → (((bpart l p 8).drop 0).take 8).getD j 0 = l.getD (p + j) 0 := fun j hj => eight_at h hj
  rw [e 0 (by decide), e 1 (by decide), e 2 (by decide), e 3 (by decide), e 4 (by decide), e 5 (by decide), e 6 (by decide), e 7 (by decide)]
  rfl
set_option maxHeartbeats 4000000 in
theorem fragment_spec {g1 gc gk p : Nat} {c : ChnV} {xs : List ExtR} (H : Sep (hdG w0 g1 gc gk c s p xs) w) (hB : BytesAt w0 s l) (hp : p ≤ l.length) :
    Calls Tryz.prog 89 #[c.val, .pointer (some ⟨gk, 0, none⟩)] w fun e w' => e = .returned (.tuple #[(fragRes s l p c).1.val, .int .i64 (fragRes s l p c).2]) ∧ ∃ p', Sep (hdG w0 g1 gc gk c s p' xs) w' := by
  refine ip6_fragment_of c _ w _ ?_
  unfold ip6_fragment_VC
  have hl := hB.len
  have hs := hB.small
  refine NewVC.sep H fun ga w1 H => ?_
  have H := H.front
  refine NewVC.sep H fun gb w2 H => ?_
  have H := H.front
  rcases Nat.lt_or_ge l.length (p + 8) with h8 | h8
  · refine (curWin_no (k := 8) H (j := 2) rfl (i := 5) rfl hB hp h8 rfl).mono ?_
    rintro _ w3 ⟨rfl, H⟩
    refine ⟨_, _, _, _, rfl, Br.yes (show ¬ ((10 : Int) = 0) by decide) (Stores.sep H 0 rfl (ChnV.one ChnV.z) (Nat.le_refl _) (splice_all rfl) fun w4 H => ChnV.of ChnV.z ⟨H.at 0 rfl, ?_, p, H.tail.tail⟩)⟩
    unfold fragRes; rw [if_pos h8]
  refine (curWin_yes (k := 8) H (j := 2) rfl (i := 5) rfl hB h8 rfl).mono ?_
  rintro _ w3 ⟨rfl, H⟩
  refine ⟨_, _, _, _, rfl, Br.no (fun h => h rfl) (NewVC.sep H fun gw w5 H => ?_)⟩
  have H := H.front
  have hW8 := (hB.win (p := p) (n := 8) h8).ext (H.restOf 3 rfl)
  have hws : Cells w5 (some ⟨gw, 0, none⟩) (wsf.map (.int .i64)) := Cells.blk0 (H.blk 0 rfl)
  refine (fields_yes (n := 8) (c := 8) (d := 6) (p := 0) (ws := wsf) hW8.cells hW8.len hW8.bts (Nat.le_refl _) (by decide) hws rfl wsf_ok (Int.le_refl _) (by rw [psum_wsf]; decide)).mono ?_
  rintro _ w6 ⟨hE6, A', c', rfl, hrow⟩
  rw [wsf_at hB.bts h8] at hrow
  have H := H.pushOwn hE6 hrow (Nat.le_refl _)
  have H := H.front
  obtain ⟨F, hF⟩ : ∃ F : List Int, F = [l.getD p 0, l.getD (p + 1) 0, l.getD (p + 2) 0 * 32 + l.getD (p + 3) 0 / 8, l.getD (p + 3) 0 / 2 % 4, l.getD (p + 3) 0 % 2, ((l.getD (p + 4) 0 * 256 + l.getD (p + 5) 0) * 256 + l.getD (p + 6) 0) * 256 + l.getD (p + 7) 0] := ⟨_, rfl⟩
  rw [← hF] at H
  have hFl : F.length = 6 := by rw [hF]; rfl
  have f0 : F.getD 0 0 = l.getD p 0 := by rw [hF]; rfl
  have f2 : F.getD 2 0 = l.getD (p + 2) 0 * 32 + l.getD (p + 3) 0 / 8 := by rw [hF]; rfl
  have f4 : F.getD 4 0 = l.getD (p + 3) 0 % 2 := by rw [hF]; rfl
  have f5 : F.getD 5 0 = ((l.getD (p + 4) 0 * 256 + l.getD (p + 5) 0) * 256 + l.getD (p + 6) 0) * 256 + l.getD (p + 7) 0 := by rw [hF]; rfl
  have b2 := getD_byte hB.bts (p + 2)
  have b3 := getD_byte hB.bts (p + 3)
  refine ⟨_, _, _, _, _, rfl, ?_⟩
  refine IdxVC.int (k := .i64) (xs := F) (H.cells 0 rfl) (by decide) (by decide) hFl fun a ha => ⟨_, ha, SetVC.sep H 3 rfl (show 5 < 7 by decide) fun w7 H => ?_⟩
  refine DrawVC.sep H (fun w' => Cells w' A' (F.map (.int .i64))) fun w8 H => ⟨H.cells 0 rfl, ?_⟩
  refine IdxVC.draw (k := .i64) (xs := F) (w := w8) (S := fun w' => Cells w' A' (F.map (.int .i64))) (H.cells 0 rfl) (fun w' h => h) (by decide) (by decide) hFl fun a1 ha1 => ⟨_, ha1, ?_⟩
  refine IdxVC.draw (k := .i64) (xs := F) (w := w8) (S := fun w' => Cells w' A' (F.map (.int .i64))) (H.cells 0 rfl) (fun w' h => h) (by decide) (by decide) hFl fun a2 ha2 => ⟨_, ha2, ?_⟩
  refine IdxVC.draw (k := .i64) (xs := F) (w := w8) (S := fun w' => Cells w' A' (F.map (.int .i64))) (H.cells 0 rfl) (fun w' h => h) (by decide) (by decide) hFl fun a3 ha3 => ⟨_, ha3, ?_⟩
  rw [show (4 : Int).toNat = 4 from rfl, show (5 : Int).toNat = 5 from rfl, show (2 : Int).toNat = 2 from rfl, f2, f4, f5, w64 (n := 8 * (l.getD (p + 2) 0 * 32 + l.getD (p + 3) 0 / 8)) (by omega) (by omega), Int.mul_comm 8]
  rw [show (0 : Int).toNat = 0 from rfl, f0] at H
  obtain ⟨c1, hc1⟩ : ∃ c1 : ChnV, c1 = { c with next := l.getD p 0, frag := fragAt l p } := ⟨_, rfl⟩
  refine Stores.sep H 3 rfl (FragV.one (fragAt l p)) (show 1 + 4 ≤ 7 by decide) (show _ = c1.cells by rw [hc1]; rfl) fun w9 H => ?_
  refine (curLeft H (i := 7) rfl hl hs h8).mono ?_
  rintro _ w10 ⟨rfl, H⟩
  refine ⟨_, rfl, ?_⟩
  refine (curWin_yes (p := p + 8) (k := l.length - (p + 8)) H (j := 4) rfl (i := 7) rfl hB (by omega) rfl).mono ?_
  rintro _ w11 ⟨rfl, H⟩
  obtain ⟨c2, hc2⟩ : ∃ c2 : ChnV, c2 = { c with next := l.getD p 0, frag := fragAt l p, data := winSl s (p + 8) (l.length - (p + 8)) } := ⟨_, rfl⟩
  refine ⟨_, _, _, _, rfl, SetVC.sep H 3 rfl (show 6 < 7 by decide) fun w12 H => ?_⟩
  have e2 : c1.cells.set 6 (.slice (winSl s (p + 8) (l.length - (p + 8))).A (winSl s (p + 8) (l.length - (p + 8))).n (winSl s (p + 8) (l.length - (p + 8))).k) = c2.cells := by rw [hc1, hc2]; rfl
  rw [e2] at H
  have e3 : c2.frag = fragAt l p := by rw [hc2]
  refine FragV.of c2.frag ⟨⟨H.cell 3 rfl 1 rfl, H.cell 3 rfl 2 rfl, H.cell 3 rfl 3 rfl, H.cell 3 rfl 4 rfl, trivial⟩, _, _, _, H.cell 3 rfl 6 rfl, ?_⟩
  have e4 : c2.data.n = l.length - (p + 8) := by rw [hc2]; rfl
  rw [e4, e3]
  refine (fits_spec (f := fragAt l p) (k := l.length - (p + 8)) (by omega) (by unfold fragAt; simp only; omega)).mono ?_
  rintro _ w13 ⟨hE13, rfl⟩
  have H := H.ext hE13
  refine ⟨_, rfl, ?_⟩
  cases hft : fitsS (fragAt l p) (l.length - (p + 8)) with
  | false =>
    refine Br.t rfl (Stores.sep H 2 rfl (ChnV.one ChnV.z) (Nat.le_refl _) (splice_all rfl) fun w14 H => ChnV.of ChnV.z ⟨H.at 2 rfl, ?_, _, H.tail.tail.tail.tail⟩)
    unfold fragRes; rw [if_neg (by omega), if_pos hft]
  | true =>
    refine Br.f rfl (ChnV.of c2 ⟨H.at 3 rfl, Stores.sep H 2 rfl (ChnV.one c2) (Nat.le_refl _) (splice_all rfl) fun w15 H => ChnV.of c2 ⟨H.at 2 rfl, ?_, _, H.tail.tail.tail.tail⟩⟩)
    unfold fragRes; rw [if_neg (by omega), if_neg (by rw [hft]; decide), hc2]
end
end N6
end Go.Proofs.YthhgbpmihhljdaaGreatDoor
/- Chapter 7, reading: the walk, and Chain, the program's. -/
namespace Go.Proofs.YthhgbpmihhljdaaGreatDoor
namespace N6
open Go.Eng Go.RowKit
section
variable {w : World} {s : Sl} {l : List Int}
/-- What the walk hands back. -/
def WalkRead (w : World) (s : Sl) (l : List Int) (r : Except Int Tail6) (e : Ending) (w' : World) : Prop :=
  ∃ (c : ChnV) (xs : List ExtR), Sep (Fct.rest w None :: readX w.heap.size c.exts xs) w' ∧ c.exts.n = xs.length ∧ match r with
    | .ok t => e = .returned (.tuple #[c.val, .int .i64 0]) ∧ All2 (ExtIs s l) t.exts xs ∧ c.frag = t.frag ∧ c.next = t.next ∧ c.data = winSl s t.p (l.length - t.p)
    | .error er => e = .returned (.tuple #[c.val, .int .i64 er]) ∧ c = ChnV.z ∧ xs = [] ∧ er ≠ 0
theorem sortS_ne {k : Int} (h : sortS k ≠ 0) : isH k ∨ k = 44 := by
  unfold sortS at h
  unfold isH
  by_cases h1 : k = 0 ∨ k = 60
  · omega
  · rw [if_neg h1] at h
    by_cases h2 : k = 43
    · omega
    · rw [if_neg h2] at h
      by_cases h3 : k = 44
      · omega
      · rw [if_neg h3] at h; exact absurd rfl h
theorem sortS_zero {k : Int} (h : sortS k = 0) : ¬ isH k ∧ k ≠ 44 := by
  refine ⟨fun hk => ?_, fun hk => ?_⟩
  · unfold isH at hk
    rcases hk with hk | hk | hk <;> subst hk <;> exact absurd h (by decide)
  · subst hk; exact absurd h (by decide)
theorem sortS_three {k : Int} (h : sortS k ≠ 0) : (sortS k = 3 → k = 44) ∧ (sortS k ≠ 3 → isH k) := by
  refine ⟨fun h3 => ?_, fun h3 => ?_⟩
  · rcases sortS_ne h with hk | hk
    · unfold isH at hk
      rcases hk with hk | hk | hk <;> subst hk <;> exact absurd h3 (by decide)
    · exact hk
  · rcases sortS_ne h with hk | hk
    · exact hk
    · subst hk; exact absurd rfl h3
theorem isH_44 : ¬ isH 44 := by unfold isH; omega
theorem walk_err {next : Int} {inner : Bool} {es : List EP} {k : Int} {p i : Nat} {err : Int} (ho : hdrsS l (!inner) next 0 0 = behind es (hdrsS l (!inner) k p i)) (h : hdrsS l (!inner) k p i = .error err) : walkS l next inner = .error err := by
  unfold walkS; rw [ho, h]; rfl
theorem walk_end {next : Int} {inner : Bool} {es : List EP} {k : Int} {p i : Nat} (ho : hdrsS l (!inner) next 0 0 = behind es (hdrsS l (!inner) k p i)) (h : ¬ isH k) :
    walkS l next inner = if k = 44 then
      (if inner = true then .error 76 else if l.length < p + 8 then .error 72
       else if fitsS (fragAt l p) (l.length - (p + 8)) = false then .error 76 else .ok ⟨es, fragAt l p, l.getD p 0, p + 8⟩)
    else .ok ⟨es, FragV.z, k, p⟩ := by
  unfold walkS
  rw [ho, hdrsS_end h]
  simp only [behind, Except.map, List.append_nil]
set_option maxHeartbeats 4000000 in
theorem walk_spec {next : Int} {inner : Bool} (hB : BytesAt w s l) (hK : Kn w) : Calls Tryz.prog 76 #[.int .i64 next, s.val, .bool inner] w (WalkRead w s l (walkS l next inner)) := by
  refine ip6_walk_of next s.A s.n s.k inner w _ ?_
  unfold ip6_walk_VC
  have hl := hB.len
  have hs := hB.small
  refine NewVC.sep (Sep.start0 w) fun g1 w1 H => NewVC.sep H fun g2 w2 H => Stores.sep H 2 rfl (ChnV.one ⟨Sl.z, FragV.z, next, Sl.z⟩) (Nat.le_refl _) (splice_all rfl) fun w3 H => ?_
  refine (Nd.At_spec (A := s.A) (n := s.n) (c := s.k)).mono ?_
  rintro _ w4 ⟨hE4, rfl, hb4⟩
  obtain ⟨gk, hgk⟩ : ∃ gk, gk = w3.heap.size := ⟨_, rfl⟩
  have H := H.pushBlk hE4 hb4 (Nat.le_refl _)
  rw [← hgk] at H ⊢
  refine ⟨_, rfl, ?_⟩
  have fin : ∀ {c : ChnV} {xs : List ExtR} {p : Nat} {w' : World}, Sep (hdG w g1 g2 gk c s p xs) w' → Sep (Fct.rest w None :: readX w.heap.size c.exts xs) w' := fun H => H.sub (.cons_cons _ (.cons _ (.cons _ (.cons _ (List.Sublist.refl _)))))
  have bad : ∀ {err : Int} {w' : World} {R : Ending → World → Prop}, (∀ e w', WalkRead w s l (.error err) e w' → R e w') → err ≠ 0 → Sep [Fct.rest w None, chB g1 ChnV.z] w' → Stores ⟨g1, 0, none⟩ 0 (ChnV.z : ChnV).cells w' fun w8 => ChnV.ex fun res => CellsAt w8 ⟨g1, 0, none⟩ 0 res.cells ∧ R (.returned (.tuple #[res.val, .int .i64 err])) w8 := by
    intro err w' R hR he H
    refine Stores.sep H 1 rfl (ChnV.one ChnV.z) (Nat.le_refl _) (splice_all rfl) fun w8 H => ChnV.of ChnV.z ⟨H.at 1 rfl, hR _ _ ⟨ChnV.z, [], (H.take 1).nil _ _ _, rfl, rfl, rfl, rfl, he⟩⟩
  refine LoopVC.of (fun st w' => ∃ (p : Nat) (c : ChnV) (es : List EP) (xs : List ExtR), st = (xs.length : Int) ∧ xs.length ≤ 8 ∧ p ≤ l.length ∧ c.frag = FragV.z ∧ c.exts.n = xs.length ∧ All2 (ExtIs s l) es xs ∧ hdrsS l (!inner) next 0 0 = behind es (hdrsS l (!inner) c.next p xs.length) ∧
      Sep (hdG w g1 g2 gk c s p xs) w') (fun st _ => (9 - st).toNat)
    ⟨0, ⟨Sl.z, FragV.z, next, Sl.z⟩, [], [], rfl, by decide, Nat.zero_le _, rfl, rfl, .nil, (behind_nil _).symm, H.nil _ _ _⟩ ?_
  rintro _ w5 ⟨p, c, es, xs, rfl, hx8, hp, hcf, hn, hA, ho, H⟩
  unfold ip6_walk_L122
  refine ⟨_, H.cell 2 rfl 5 rfl, ?_⟩
  refine (sort_spec (k := c.next) (hK.ext (H.restOf 0 rfl))).mono ?_
  rintro _ w6 ⟨hE6, rfl⟩
  have H := H.ext hE6
  refine ⟨_, rfl, Br.dec (fun hne => ?_) fun hze => ?_⟩
  · refine ⟨_, H.cell 2 rfl 5 rfl, ?_⟩
    refine (sort_spec (k := c.next) (hK.ext (H.restOf 0 rfl))).mono ?_
    rintro _ w7 ⟨hE7, rfl⟩
    have H := H.ext hE7
    refine ⟨_, rfl, Br.dec (fun h3 => ?_) fun h3 => ?_⟩
    · have h44 : c.next = 44 := (sortS_three hne).1 h3
      have hw := walk_end ho (by rw [h44]; exact isH_44)
      rw [if_pos h44] at hw
      cases inner with
      | true =>
        rw [if_pos rfl] at hw
        rw [hw]
        exact Br.t rfl (bad (fun _ _ h => h) (by decide) (H.take 2))
      | false =>
        rw [if_neg (by decide)] at hw
        rw [hw]
        refine Br.f rfl (ChnV.of c ⟨H.at 2 rfl, ?_⟩)
        refine (fragment_spec H hB hp).mono ?_
        rintro _ w9 ⟨rfl, p', H⟩
        refine onRet_is (ChnV.of (fragRes s l p c).1 ⟨_, rfl, Stores.sep H 1 rfl (ChnV.one _) (Nat.le_refl _) (splice_all rfl) fun w10 H => ChnV.of (fragRes s l p c).1 ⟨H.at 1 rfl, ?_⟩⟩)
        have H := H.sub (Γ' := Fct.rest w None :: readX w.heap.size c.exts xs) (.cons_cons _ (.cons _ (.cons _ (.cons _ (List.Sublist.refl _)))))
        unfold fragRes
        by_cases h8 : l.length < p + 8
        · rw [if_pos h8, if_pos h8]
          exact ⟨ChnV.z, [], (H.take 1).nil _ _ _, rfl, rfl, rfl, rfl, by decide⟩
        · rw [if_neg h8, if_neg h8]
          by_cases hf : fitsS (fragAt l p) (l.length - (p + 8)) = false
          · rw [if_pos hf, if_pos hf]
            exact ⟨ChnV.z, [], (H.take 1).nil _ _ _, rfl, rfl, rfl, rfl, by decide⟩
          · rw [if_neg hf, if_neg hf]
            exact ⟨{ c with next := l.getD p 0, frag := fragAt l p, data := winSl s (p + 8) (l.length - (p + 8)) }, xs, H, hn, rfl, hA, rfl, rfl, rfl⟩
    · have hH : isH c.next := (sortS_three hne).2 h3
      refine JoinVC.of (fun _ w' => Sep (hdG w g1 g2 gk c s p xs) w' ∧ ¬ (c.next = 0 ∧ ((!inner) = false ∨ 0 < xs.length))) ?_ ?_
      · refine ⟨_, H.cell 2 rfl 5 rfl, Br.dec (fun h0 => Br.dec (fun hi => ?_) fun hi => ?_) fun h0 => ⟨H, fun h => h0 h.1⟩⟩
        · rw [walk_err ho (hdrsS_first hH ⟨h0, .inr (by omega)⟩)]
          exact bad (fun _ _ h => h) (by decide) (H.take 2)
        · cases inner with
          | true =>
            rw [walk_err ho (hdrsS_first hH ⟨h0, .inl rfl⟩)]
            exact Br.t rfl (bad (fun _ _ h => h) (by decide) (H.take 2))
          | false => exact Br.f rfl ⟨H, fun h => h.2.elim (fun q => by cases q) (by omega)⟩
      rintro _ w13 ⟨H, hnf⟩
      unfold ip6_walk_J3913
      refine (header_spec H hB (hK) hp hH hn hx8).mono ?_
      rintro e w14 (⟨err, rfl, hne, herr, H⟩ | ⟨os, x, se, rfl, h8, hlen, hin, hx, hse, H⟩)
      · rw [walk_err ho (herr _ hnf)]
        exact ⟨_, rfl, Br.yes hne (bad (fun _ _ h => h) hne H)⟩
      · refine ⟨_, rfl, Br.no (fun h => h rfl) ?_⟩
        rw [w64 (by omega) (by omega)]
        refine ⟨⟨p + 2 + lenH l p, { c with exts := se, next := l.getD p 0 }, es ++ [⟨c.next, os, p + 2, lenH l p⟩], xs ++ [x], by simp, by simp; omega, hlen, hcf, hse, hA.append (.cons hx .nil), ?_, H⟩, by omega⟩
        rw [ho, hdrsS_step hH hnf h8 hlen hin, behind_map]
        simp
  · have hup := sortS_zero (Classical.byContradiction hze)
    have hw := walk_end ho hup.1
    rw [if_neg hup.2] at hw
    rw [hw]
    refine (curLeft H (i := 3) rfl hl hs hp).mono ?_
    rintro _ w16 ⟨rfl, H⟩
    refine ⟨_, rfl, ?_⟩
    refine (curWin_yes (k := l.length - p) H (j := 0) rfl (i := 3) rfl hB (by omega) rfl).mono ?_
    rintro _ w17 ⟨rfl, H⟩
    refine ⟨_, _, _, _, rfl, SetVC.sep H 2 rfl (show 6 < 7 by decide) fun w18 H => ?_⟩
    obtain ⟨c2, hc2⟩ : ∃ c2 : ChnV, c2 = { c with data := winSl s p (l.length - p) } := ⟨_, rfl⟩
    have e2 : c.cells.set 6 (.slice (winSl s p (l.length - p)).A (winSl s p (l.length - p)).n (winSl s p (l.length - p)).k) = c2.cells := by rw [hc2]; rfl
    rw [e2] at H
    refine ChnV.of c2 ⟨H.at 2 rfl, Stores.sep H 1 rfl (ChnV.one c2) (Nat.le_refl _) (splice_all rfl) fun w19 H => ChnV.of c2 ⟨H.at 1 rfl, c2, xs, ?_, by rw [hc2]; exact hn, rfl, hA, by rw [hc2]; exact hcf, by rw [hc2], by rw [hc2]⟩⟩
    rw [hc2]
    exact H.sub (.cons_cons _ (.cons _ (.cons _ (.cons _ (List.Sublist.refl _)))))
/-- What Chain hands back. -/
def ChainRead (w : World) (s : Sl) (l : List Int) (r : Except Int Tail6) (e : Ending) (w' : World) : Prop :=
  ∃ (se sd : Sl) (xs : List ExtR), Sep (Fct.rest w None :: readX w.heap.size se xs) w' ∧ se.n = xs.length ∧ match r with
    | .ok t => e = .returned (.tuple #[se.val, .int .i64 t.next, sd.val, .int .i64 0]) ∧ All2 (ExtIs s l) t.exts xs ∧ sd = winSl s t.p (l.length - t.p)
    | .error er => e = .returned (.tuple #[se.val, .int .i64 0, sd.val, .int .i64 er]) ∧ se = Sl.z ∧ sd = Sl.z ∧ xs = [] ∧ er ≠ 0
theorem chain_spec {next : Int} (hB : BytesAt w s l) (hK : Kn w) : Calls Tryz.prog 54 #[.int .i64 next, s.val] w (ChainRead w s l (chainS next l)) := by
  refine ip6_Chain_of next s.A s.n s.k w _ ?_
  unfold ip6_Chain_VC
  have hl := hB.len
  have err : ∀ {er : Int} {w' : World}, er ≠ 0 → Ext w w' → ChainRead w s l (.error er) (.returned (.tuple #[.slice none 0 0, .int .i64 0, .slice none 0 0, .int .i64 er])) w' := fun he hE => ⟨Sl.z, Sl.z, [], ((Sep.start0 w).ext hE).nil _ _ _, rfl, rfl, rfl, rfl, rfl, he⟩
  refine JoinVC.of (fun st w' => w' = w ∧ st = decide (next < 0 ∨ 255 < next)) ?_ ?_
  · refine Br.dec (fun h => ⟨rfl, (decide_eq_true (.inl h)).symm⟩) fun h => ⟨rfl, ?_⟩
    by_cases h2 : (255 : Int) < next
    · rw [decide_eq_true h2, decide_eq_true (.inr h2)]
    · rw [decide_eq_false h2, decide_eq_false (by omega)]
  rintro _ w1 ⟨hw1, rfl⟩
  subst w1
  unfold ip6_Chain_J12 chainS
  refine Br.dec (fun h => ?_) fun h => ?_
  · rw [if_pos h]; exact err (by decide) (Mod.refl _ _)
  rw [if_neg h]
  refine Br.dec (fun h2 => ?_) fun h2 => ?_
  · rw [if_pos (by omega)]; exact err (by decide) (Mod.refl _ _)
  rw [if_neg (by omega)]
  refine (walk_spec (next := next) (inner := true) hB hK).mono ?_
  rintro e w2 ⟨c, xs, H, hn, hm⟩
  cases hw : walkS l next true with
  | error er =>
    rw [hw] at hm
    obtain ⟨rfl, rfl, rfl, he⟩ := hm
    refine onRet_is (ChnV.of ChnV.z ⟨_, rfl, NewVC.sep H fun g1 w3 H => ?_⟩)
    have H := H.front
    refine Stores.sep H 0 rfl (ChnV.one _) (Nat.le_refl _) (splice_all rfl) fun w4 H => DrawVC.sep H (fun w' => Blk w' g1 142 (ChnV.z : ChnV).cells) fun w5 H => ⟨H.blk 0 rfl, _, _, _, fun w' hb => hb.cell 0, _, fun w' hb => hb.cell 5, _, _, _, fun w' hb => hb.cell 6, Sl.z, Sl.z, [], H.tail, rfl, rfl, rfl, rfl, rfl, he⟩
  | ok t =>
    rw [hw] at hm
    obtain ⟨rfl, hA, hcf, hcn, hcd⟩ := hm
    refine onRet_is (ChnV.of c ⟨_, rfl, NewVC.sep H fun g1 w3 H => ?_⟩)
    have H := H.front
    refine Stores.sep H 0 rfl (ChnV.one _) (Nat.le_refl _) (splice_all rfl) fun w4 H => DrawVC.sep H (fun w' => Blk w' g1 142 c.cells) fun w5 H => ⟨H.blk 0 rfl, _, _, _, fun w' hb => hb.cell 0, _, fun w' hb => hb.cell 5, _, _, _, fun w' hb => hb.cell 6, c.exts, c.data, xs, H.tail, hn, ?_, hA, hcd⟩
    rw [← hcn]; rfl
end
end N6
end Go.Proofs.YthhgbpmihhljdaaGreatDoor
/- Chapter 11: what Put walks with. -/
namespace Go.Eng
open Go Go.RowKit
section
variable {off to hi : Int} {d : List Int}
theorem newN_app : ∀ (a b : List (Int × Int)), newN off to (a ++ b) = newN off to a + newN off to b
  | [], b => by simp [newN]
  | g :: a, b => by simp only [List.cons_append, newN, newN_app a b]; omega
theorem bufN_app (x : List Int) : ∀ (a b : List (Int × Int)), bufN off to d x (a ++ b) = bufN off to d (bufN off to d x a) b
  | [], _ => rfl
  | g :: a, b => by simp only [List.cons_append, bufN, bufN_app _ a b]
theorem bufN_behind {x : List Int} : ∀ {gs : List (Int × Int)}, (∀ g ∈ gs, to ≤ g.1) → bufN off to d x gs = x
  | [], _ => rfl
  | g :: r, h => by
    have : buf1 off to d x g = x := by unfold buf1; rw [if_pos (h g (by simp))]
    simp only [bufN, this]
    exact bufN_behind fun y hy => h y (by simp [hy])
theorem cuts_behind : ∀ {gs : List (Int × Int)}, (∀ g ∈ gs, to ≤ g.1) → gs.flatMap (cutG off to) = gs
  | [], _ => rfl
  | g :: r, h => by
    have : cutG off to g = [g] := by unfold cutG; rw [if_pos (h g (by simp))]
    rw [List.flatMap_cons, this, cuts_behind fun y hy => h y (by simp [hy])]
    rfl
theorem Gs.drop {gs : List (Int × Int)} {g : Int × Int} : ∀ {l : List (Int × Int)} {lo : Int} {i : Nat}, Gs lo hi l → l[i]? = some g → to ≤ g.1 → ∀ x ∈ l.drop i, to ≤ x.1
  | [], _, i, _, h, _ => by simp at h
  | y :: l, lo, 0, hG, h, ht => by
    simp at h; subst h
    intro x hx
    rcases List.mem_cons.1 hx with rfl | hx
    · exact ht
    · have := hG.2.2.2.mem hx
      have := hG.2.1
      omega
  | y :: l, lo, i + 1, hG, h, ht => by
    rw [List.drop_succ_cons]
    exact Gs.drop (gs := gs) hG.2.2.2 (by simpa using h) ht
theorem lay1_cells (x d : List Int) (lo : Nat) : splice (x.map (Value.int .u8)) lo (d.map (Value.int .u8)) = (lay1 x lo d).map (Value.int .u8) := by
  unfold splice lay1
  simp [List.map_take, List.map_drop]
end
theorem Cells.from_ {w : World} {A : Option Addr} {vs : List Value} (h : Cells w A vs) (k : Nat) : Cells w (A.map (·.add k)) (vs.drop k) := by
  intro i v hv
  rw [List.getElem?_drop] at hv
  obtain ⟨a, rfl, hc⟩ := h _ v hv
  exact ⟨a.add k, rfl, by rw [add_add]; exact hc⟩
end Go.Eng
namespace Go.Proofs.YthhgbpmihhljdaaGreatDoor
namespace N6
open Go Go.Eng Go.RowKit
section
variable {w : World} {Γ : List Fct} {r : HolR}
theorem seen_find (p : PcV) : ∀ (l : List PcV) (i : Nat), (findS PcV.beq p (seenK l) i).isSome = l.any (PcV.beq p)
  | [], _ => rfl
  | x :: l, i => by
    show (if PcV.beq p x then some (i, Value.agg #[]) else findS PcV.beq p (seenK l) (i + 1)).isSome = (PcV.beq p x || l.any (PcV.beq p))
    cases PcV.beq p x with
    | true => rfl
    | false => simpa using seen_find p l (i + 1)
theorem seen_get (p : PcV) (l : List PcV) : (mget PcV.beq p (seenK l)).getD (.agg #[]) = .agg #[] ∧ (mget PcV.beq p (seenK l)).isSome = l.any (PcV.beq p) := by
  have h := seen_find p l 0
  unfold mget
  cases hf : findS PcV.beq p (seenK l) 0 with
  | none => rw [hf] at h; exact ⟨rfl, h⟩
  | some q =>
    rw [hf] at h
    obtain ⟨k, y, _, hy, _, _⟩ := findS_at (show findS PcV.beq p (seenK l) 0 = some (q.1, q.2) from hf)
    unfold seenK at hy
    rw [List.getElem?_map] at hy
    cases hl : l[k]? with
    | none => rw [hl] at hy; cases hy
    | some z =>
      rw [hl] at hy
      injection hy with hy
      injection hy with _ hy
      exact ⟨by show q.2 = _; exact hy.symm, h⟩
theorem seen_set (p : PcV) (l : List PcV) : mset PcV.beq p (.agg #[]) (seenK l) = seenK (addSeen l p) := by
  have h := seen_find p l 0
  unfold mset addSeen
  cases hf : findS PcV.beq p (seenK l) 0 with
  | none =>
    rw [hf] at h
    rw [← h, if_neg (by simp)]
    simp [seenK]
  | some q =>
    rw [hf] at h
    rw [← h]
    simp only [Option.isSome_some, if_true]
    obtain ⟨k, y, hk, hy, he, _⟩ := findS_at (show findS PcV.beq p (seenK l) 0 = some (q.1, q.2) from hf)
    have hp := pcv_beq.1 he
    subst hp
    show (seenK l).set q.1 (p, .agg #[]) = seenK l
    rw [show q.1 = k by omega]
    apply List.ext_getElem?
    intro m
    rw [List.getElem?_set]
    by_cases hm : k = m
    · subst hm
      rw [if_pos rfl, hy, if_pos (List.getElem?_eq_some_iff.1 hy).1]
      unfold seenK at hy
      rw [List.getElem?_map] at hy
      cases hl : l[k]? with
      | none => rw [hl] at hy; cases hy
      | some z => rw [hl] at hy; injection hy with hy; injection hy with h1 h2; rw [← h2]
    · rw [if_neg hm]
/-- Bytes are copied into a part of a row of the call's own. -/
theorem copyB (H : Sep Γ w) (i : Nat) {b n c c' lo m : Nat} {A A' : Option Addr} {xs ys : List Int} {F : Int → World → Prop} (hi : Γ[i]? = some (ownB b (.slice A n c) n xs)) (h0 : 0 < m) (hfit : lo + m ≤ n)
    (hs : Cells w A' (ys.map (.int .u8))) (hl : ys.length = m)
    (h : ∀ w', Sep (Γ.set i (ownB b (.slice A n c) n (lay1 xs lo ys))) w' → F m w') :
    CopyVC Tryz.prog #[28, 28] 3 (.slice (if c = lo then A else A.map (·.add (lo * 1))) m (c - lo)) (.slice A' m c') w F := by
  have ho := H.own i hi
  have hn : A ≠ none := by
    rintro rfl
    rcases ho.2 with ⟨_, h1⟩ | ⟨g, cap, cur, hv, _⟩
    · omega
    · cases hv
  obtain ⟨g, cs, rfl, hbg, ht, hcl, hm, hnc, H⟩ := H.ownBlk i hi hn
  rw [if_neg (by omega), Option.map_some, addr_add, Nat.zero_add, Nat.mul_one]
  have hlt : i < Γ.length := (List.getElem?_eq_some_iff.1 hi).1
  have hset : ∀ x, (Γ.set i x)[i]? = some x := fun x => by rw [List.getElem?_set]; simp [hlt]
  have hset2 : ∀ x y, ((Γ.set i x).set i y)[i]? = some y := fun x y => by rw [List.getElem?_set]; simp [hlt]
  refine CopyVC.sep H i Tryz.underlying28 (by kernel_rfl) (hset _) hs (by simpa using hl) (Nat.le_refl _) (by omega) (ints_one _ _) fun w' H => h w' ?_
  have hsl : (splice cs lo (ys.map (Value.int .u8))).length = c * 1 := by rw [splice_len (by simp; omega), hcl]
  have H := H.blkOwn' i (b := b) (size := 1) (n := n) (c := c) (hset2 _ _) hbg hsl hnc hm
  rw [List.set_set, List.set_set] at H
  have e : (splice cs lo (ys.map (Value.int .u8))).take (n * 1) = (lay1 xs lo ys).map (.int .u8) := by
    rw [← lay1_cells, ← ht]
    unfold splice
    rw [Nat.mul_one]
    simp only [List.length_map, hl]
    rw [List.take_append, List.take_append, List.take_take, List.take_take, List.length_take, List.length_map, hl, hcl, List.drop_take, show min n lo = lo by omega, show min lo n = lo by omega, List.take_of_length_le (l := ys.map (Value.int .u8)) (by simp; omega)]
    congr 2
    simp; congr 1; omega
  rw [e] at H
  exact H
/-- Gaps are laid behind a row of the call's own. -/
theorem appG (H : Sep Γ w) (i : Nat) {b n c m c' : Nat} {A A' : Option Addr} {xs ys : List (Int × Int)} {F : Option Addr → Nat → Nat → World → Prop} (hi : Γ[i]? = some (rowG b ⟨A, n, c⟩ xs)) (hs : Cells w A' (gapC ys)) (hl : ys.length = m) (hb : n + m ≤ 1000000000) (hbase : b ≤ w.heap.size)
    (h : ∀ A2 c2 w', Sep (Γ.set i (rowG b ⟨A2, n + m, c2⟩ (xs ++ ys))) w' → n + m ≤ c2 → F A2 (n + m) c2 w') :
    AppVC Tryz.prog #[122, 122] 122 (.slice A n c) (.slice A' m c') w F :=
  AppVC.sep H i Tryz.underlying122 tG rfl (by decide) hi hs (by rw [gapC_len, hl]) (gapC_one _) (by omega) (by decide) hbase fun A2 c2 w' H hc => h A2 c2 w' (by
    have : rowG b ⟨A2, n + m, c2⟩ (xs ++ ys) = Fct.own b 145 2 (.slice A2 (n + m) c2) (n + m) (gapC xs ++ gapC ys) := by rw [← gapC_app]; rfl
    rw [this]; exact H) hc
end
end N6
end Go.Proofs.YthhgbpmihhljdaaGreatDoor
/- Chapter 11: Put. -/
namespace Go.Proofs.YthhgbpmihhljdaaGreatDoor
namespace N6
open Go Go.Eng Go.RowKit
section
variable {w : World} {r : HolR}
/-- The parts while a piece is laid in: the rest, what is held, its bytes, its gaps, what was seen, the answer's cell, the answer. -/
def putG (w : World) (M : Nat → Prop) (g m g1 g2 : Nat) (bufA gapA : Sl) (held : Int) (s : HolS) (fit : FitV) : List Fct :=
  [Fct.rest w M, Fct.blk g 125 (HolR.cells ⟨g, m, bufA, gapA, held, s⟩), rowB 0 bufA s.buf, rowG 0 gapA s.gaps, seenF m s.seen, Fct.blk g1 84 (FitV.z : FitV).cells, Fct.blk g2 84 fit.cells]
theorem equalB {s t : Sl} {xs ys : List Int} (hx : BytesAt w s xs) (hy : BytesAt w t ys) : Calls Tryz.prog 78 #[s.val, t.val] w fun e w' => w' = w ∧ e = .returned (.bool (decide (xs = ys))) := by
  refine bytes_Equal_of s.A s.n s.k t.A t.n t.k w _ ?_
  unfold bytes_Equal_VC
  rw [← hx.len, ← hy.len]
  refine StrVC.of hx.cells (StrVC.of hy.cells ⟨rfl, ?_⟩)
  rw [str_eq xs ys hx.bts hy.bts]
/-- Its end: how many are held, the answer, what was seen. -/
theorem put_end {M : Nat → Prop} {g m g1 g2 : Nat} {bufA gapA S : Sl} {held new off : Int} {s : HolS} {d : List Int} {more : Bool} {w1 : World} {R : Ending → World → Prop} (h0 : 0 ≤ off) (h1 : off + d.length ≤ 65535) (hb : off + d.length ≤ s.buf.length) (hbt : Bts s.buf)
    (hn0 : 0 ≤ new) (hn1 : new ≤ d.length) (hS : ∀ w', Mod M w w' → BytesAt w' S d) (H : Sep (putG w M g m g1 g2 bufA gapA held s ⟨new, 0, false⟩) w1)
    (hR : ∀ (held' : Int) (w' : World), Sep (Fct.rest w M :: holFs ⟨g, m, bufA, gapA, held', { s with seen := addSeen s.seen ⟨off, d.length, more⟩ }⟩) w' →
      R (.returned (.tuple #[(⟨new, d.length - new, s.seen.any (PcV.beq ⟨off, d.length, more⟩) && decide (bpart s.buf off.toNat d.length = d)⟩ : FitV).val, .int .i64 0])) w') :
    hole_Holes_Put_J1791 R (some ⟨g, 0, none⟩) off S.A S.n S.k more g1 g2 w1 := by
  unfold hole_Holes_Put_J1791
  have hlen : S.n = d.length := by have := (hS w (Mod.refl _ _)).len; omega
  have hw : IntKind.i64.wrap (off + (S.n : Int)) = off + d.length := by rw [w64 (by omega) (by omega)]; omega
  refine DrawVC.sep H (fun w' => Blk w' g 125 (HolR.cells ⟨g, m, bufA, gapA, held, s⟩) ∧ Blk w' g2 84 (⟨new, 0, false⟩ : FitV).cells) fun w2 H => ⟨⟨H.blk 1 rfl, H.blk 6 rfl⟩, ?_⟩
  refine ⟨_, rfl, _, fun w' hb => hb.1.cell 4, _, fun w' hb => hb.2.cell 0, _, rfl, SetVC.sep H 1 (k := 4) rfl (show 4 < 6 by decide) fun w3 H => ⟨_, H.cell 6 rfl 0 rfl, SetVC.sep H 6 (k := 1) rfl (show 1 < 3 by decide) fun w4 H => NewVC.sep H fun g9 w5 H => Stores.sep H 7 rfl (PcV.one _) (Nat.le_refl _) (splice_all rfl) fun w6 H => ?_⟩⟩
  rw [w64 (n := (S.n : Int) - new) (by omega) (by omega)] at H
  obtain ⟨held', hh⟩ : ∃ h' : Int, h' = IntKind.i64.wrap (held + new) := ⟨_, rfl⟩
  rw [← hh] at H
  have hd' : (S.n : Int) - new = d.length - new := by omega
  rw [hd'] at H
  have hp : (⟨off, (S.n : Int), more⟩ : PcV) = ⟨off, d.length, more⟩ := by rw [hlen]
  rw [hp] at H
  obtain ⟨p, hpe⟩ : ∃ p : PcV, p = ⟨off, d.length, more⟩ := ⟨_, rfl⟩
  rw [← hpe] at H hR
  have H : Sep [Fct.rest w M, Fct.blk g 125 (HolR.cells ⟨g, m, bufA, gapA, held', s⟩), rowB 0 bufA s.buf, rowG 0 gapA s.gaps, seenF m s.seen, Fct.blk g1 84 (FitV.z : FitV).cells, Fct.blk g2 84 (⟨new, d.length - new, false⟩ : FitV).cells, Fct.blk g9 148 p.cells] w6 := H
  have hsg := seen_get p s.seen
  refine DrawVC.sep H (fun w' => Blk w' g 125 (HolR.cells ⟨g, m, bufA, gapA, held', s⟩) ∧ Blk w' g9 148 p.cells ∧ MapAt w' m (kvs PcV.val (seenK s.seen))) fun w7 H => ?_
  refine ⟨⟨H.blk 1 rfl, H.blk 7 rfl, H.yes 4 _ rfl⟩, _, rfl, _, fun w' hb => hb.1.cell 5, PcV.of p ⟨fun w' hb => CellsAt.blk hb.2.1, s.seen.any (PcV.beq p), fun w' hb => ?_, ?_⟩⟩
  · have := run_look pcv_key Tryz.underlying123 (z := .agg #[]) (by kernel_rfl) p true hb.2.2
    rw [hsg.1, hsg.2] at this
    exact this
  refine NewVC.sep H fun g10 w8 H => ?_
  have hS1 : Blk w8 g 125 (HolR.cells ⟨g, m, bufA, gapA, held', s⟩) ∧ Blk w8 g9 148 p.cells ∧ MapAt w8 m (kvs PcV.val (seenK s.seen)) := ⟨H.blk 1 rfl, H.blk 7 rfl, H.yes 4 _ rfl⟩
  refine ⟨hS1, hS1, ?_⟩
  have H := H.take 8
  have fin : ∀ (b : Bool) (w9 : World), b = (s.seen.any (PcV.beq p) && decide (bpart s.buf off.toNat d.length = d)) →
      Sep [Fct.rest w M, Fct.blk g 125 (HolR.cells ⟨g, m, bufA, gapA, held', s⟩), rowB 0 bufA s.buf, rowG 0 gapA s.gaps, seenF m s.seen, Fct.blk g1 84 (FitV.z : FitV).cells, Fct.blk g2 84 (⟨new, d.length - new, b⟩ : FitV).cells, Fct.blk g9 148 p.cells] w9 →
      DrawVC w9 fun S8 w50 => NilVC (some ⟨g, 0, none⟩) fun p22 => ∃ x24 : Option Nat, (∀ w' : World, S8 w' → w'.cell? (p22.add 5) = some (.map x24)) ∧ PcV.ex fun h4 => (∀ w' : World, S8 w' → CellsAt w' ⟨g9, 0, none⟩ 0 h4.cells) ∧
        MapSetVC Tryz.prog 123 (.map x24) (h4.val) (.agg #[]) w50 fun w51 => FitV.ex fun h5 => CellsAt w51 ⟨g2, 0, none⟩ 0 h5.cells ∧ Stores ⟨g1, 0, none⟩ 0 h5.cells w51 fun w52 => FitV.ex fun res1 => CellsAt w52 ⟨g1, 0, none⟩ 0 res1.cells ∧ R (.returned (.tuple #[res1.val, .int .i64 0])) w52 := by
    intro b w9 hb H
    refine DrawVC.sep H (fun w' => Blk w' g 125 (HolR.cells ⟨g, m, bufA, gapA, held', s⟩) ∧ Blk w' g9 148 p.cells) fun w10 H => ⟨⟨H.blk 1 rfl, H.blk 7 rfl⟩, _, rfl, _, fun w' hb => hb.1.cell 5, PcV.of p ⟨fun w' hb => CellsAt.blk hb.2, ?_⟩⟩
    refine MapSetVC.sep H 4 pcv_key Tryz.underlying123 rfl p (.agg #[]) fun w11 H => ?_
    rw [seen_set] at H
    refine FitV.of ⟨new, d.length - new, b⟩ ⟨H.at 6 rfl, Stores.sep H 5 rfl (FitV.one _) (Nat.le_refl _) (splice_all rfl) fun w12 H => FitV.of ⟨new, d.length - new, b⟩ ⟨H.at 5 rfl, ?_⟩⟩
    rw [hb]
    exact hR held' w12 (H.take 5)
  refine Br.intro (fun hb => ?_) fun hb => ?_
  · have ho := H.own 2 rfl
    have hbn : bufA.n = s.buf.length := by have := ho.1; simpa using this.symm
    have hcap := own_le ho
    refine ⟨_, rfl, bufA.A, bufA.n, bufA.k, (H.blk 1 rfl).cell 1, h0, by rw [hw]; omega, by rw [hw]; omega, ?_⟩
    rw [hw]
    have hx : BytesAt w8 ⟨if bufA.k = off.toNat then bufA.A else bufA.A.map (·.add (off.toNat * 1)), (off + d.length).toNat - off.toNat, bufA.k - off.toNat⟩ (bpart s.buf off.toNat d.length) := by
      refine ⟨by rw [bpart_len (by omega)]; show _ = (off + (d.length : Int)).toNat - off.toNat; omega, by show (off + (d.length : Int)).toNat - off.toNat ≤ bufA.k - off.toNat; omega, by show (off + (d.length : Int)).toNat - off.toNat ≤ 4000000; omega, fun x hx => hbt x (List.mem_of_mem_drop (List.mem_of_mem_take hx)), ?_⟩
      have hc := own_cells (A := bufA.A) (c := bufA.k) ho
      unfold bpart
      rw [List.map_take, List.map_drop]
      refine Cells.take ?_ _
      exact hc.drop off.toNat (c := bufA.k) (by simp; omega) 1 (.inl rfl)
    refine (equalB hx (hS w8 (H.restOf 0 rfl))).mono ?_
    rintro _ w9 ⟨rfl, rfl⟩
    refine ⟨_, rfl, SetVC.sep H 6 (k := 2) rfl (show 2 < 3 by decide) fun w10 H => ?_⟩
    exact fin (decide (bpart s.buf off.toNat d.length = d)) w10 (by rw [hb, Bool.true_and]) H
  · refine SetVC.sep H 6 (k := 2) rfl (show 2 < 3 by decide) fun w10 H => fin false w10 (by rw [hb, Bool.false_and]) H
end
end N6
end Go.Proofs.YthhgbpmihhljdaaGreatDoor
/- Chapter 11: Put, from its new gaps on. -/
namespace Go.Proofs.YthhgbpmihhljdaaGreatDoor
namespace N6
open Go Go.Eng Go.RowKit
section
variable {w : World} {r : HolR}
theorem gapC_set (l : List (Int × Int)) (g : Int × Int) (x : Int) : (gapC (l ++ [g])).set (l.length * 2 + 1) (.int .i64 x) = gapC (l ++ [(g.1, x)]) := by
  rw [gapC_app, gapC_app, List.set_append_right _ _ (by rw [gapC_len]; omega), gapC_len]
  rw [show l.length * 2 + 1 - l.length * 2 = 1 by omega]
  rfl
theorem put_mid {M : Nat → Prop} {g m g1 g2 : Nat} {bufA gapA left S : Sl} {held new off : Int} {s : HolS} {d : List Int} {more : Bool} {lg : List (Int × Int)} {w1 : World} {R : Ending → World → Prop} (h0 : 0 ≤ off) (h1 : off + d.length ≤ 65535) (hb : off + d.length ≤ s.buf.length) (hbt : Bts s.buf)
    (hn0 : 0 ≤ new) (hn1 : new ≤ d.length) (hS : ∀ w', Mod M w w' → BytesAt w' S d) (hlg : lg.length ≤ 1000000)
    (H : Sep (putG w M g m g1 g2 bufA gapA held s ⟨new, 0, false⟩ ++ [rowG 0 left lg]) w1)
    (hR : ∀ (gapA' : Sl) (held' : Int) (w' : World), Sep (Fct.rest w M :: holFs ⟨g, m, bufA, gapA', held', ⟨s.max, s.buf, if more = false ∧ s.fin < 0 then endG lg s.max (off + d.length) else lg, if more = false ∧ s.fin < 0 then off + d.length else s.fin, addSeen s.seen ⟨off, d.length, more⟩⟩⟩) w' →
      R (.returned (.tuple #[(⟨new, d.length - new, s.seen.any (PcV.beq ⟨off, d.length, more⟩) && decide (bpart s.buf off.toNat d.length = d)⟩ : FitV).val, .int .i64 0])) w') :
    hole_Holes_Put_J447 R (some ⟨g, 0, none⟩) off S.A S.n S.k more g1 g2 left.A left.n left.k w1 := by
  unfold hole_Holes_Put_J447
  have hlen : S.n = d.length := by have := (hS w (Mod.refl _ _)).len; omega
  have hw : IntKind.i64.wrap (off + (S.n : Int)) = off + d.length := by rw [w64 (by omega) (by omega)]; omega
  refine ⟨_, rfl, SetVC.sep H 1 (k := 2) rfl (show 2 < 6 by decide) fun w2 H => ?_⟩
  have key : ∀ (a b c d e f g : Fct), [a, b, c, g, d, e, f].Perm [a, b, c, d, e, f, g] := fun a b c d e f g => perm_cn fun c o h1 h2 h3 => by simp only [h2, h3]; omega
  have H : Sep (putG w M g m g1 g2 bufA left held { s with gaps := lg } ⟨new, 0, false⟩) w2 := (H.del 3).perm (key _ _ _ _ _ _ _)
  obtain ⟨gaps', hg'⟩ : ∃ x, x = if more = false ∧ s.fin < 0 then endG lg s.max (off + d.length) else lg := ⟨_, rfl⟩
  obtain ⟨fin', hf'⟩ : ∃ x, x = if more = false ∧ s.fin < 0 then off + (d.length : Int) else s.fin := ⟨_, rfl⟩
  rw [← hg', ← hf'] at hR
  refine JoinVC.of (fun _ w' => ∃ gapA', Sep (putG w M g m g1 g2 bufA gapA' held ⟨s.max, s.buf, gaps', fin', s.seen⟩ ⟨new, 0, false⟩) w') ?_ ?_
  case refine_2 =>
    rintro _ w9 ⟨gapA', H⟩
    exact put_end (s := ⟨s.max, s.buf, gaps', fin', s.seen⟩) h0 h1 hb hbt hn0 hn1 hS H fun held' w' H' => hR gapA' held' w' H'
  refine JoinVC.of (fun b w' => b = decide (more = false ∧ s.fin < 0) ∧ Sep (putG w M g m g1 g2 bufA left held { s with gaps := lg } ⟨new, 0, false⟩) w') ?_ ?_
  · cases more with
    | true => exact Br.f rfl ⟨(decide_eq_false fun h => by cases h.1).symm, H⟩
    | false => exact Br.t rfl ⟨_, rfl, _, (H.blk 1 rfl).cell 3, decide_eq_decide.2 ⟨fun h => ⟨rfl, h⟩, fun h => h.2⟩, H⟩
  rintro _ w3 ⟨rfl, H⟩
  unfold hole_Holes_Put_J3582
  refine Br.dec (fun hc => ?_) fun hc => ?_
  case refine_2 =>
    rw [if_neg hc] at hg' hf'
    subst hg'; subst hf'
    exact ⟨left, H⟩
  rw [if_pos hc] at hg' hf'
  rw [hw]
  refine ⟨_, rfl, SetVC.sep H 1 (k := 3) rfl (show 3 < 6 by decide) fun w4 H => ?_⟩
  rw [← hf'] at H
  have H : Sep (putG w M g m g1 g2 bufA left held ⟨s.max, s.buf, lg, fin', s.seen⟩ ⟨new, 0, false⟩) w4 := H
  have hln : left.n = lg.length := by have : (gapC lg).length = left.n * 2 := (H.own 3 rfl).1; rw [gapC_len] at this; omega
  have hlk : left.n ≤ left.k := own_le (H.own 3 rfl)
  refine ⟨_, rfl, left.A, left.n, left.k, (H.blk 1 rfl).cell 2, ?_⟩
  refine JoinVC.of (fun b w' => Sep (putG w M g m g1 g2 bufA left held ⟨s.max, s.buf, lg, fin', s.seen⟩ ⟨new, 0, false⟩) w' ∧ ((b = true ∧ ∃ l x, lg = l ++ [x] ∧ x.2 = s.max) ∨ (b = false ∧ gaps' = lg))) ?_ ?_
  · refine DrawVC.sep H (fun w' => Blk w' g 125 (HolR.cells ⟨g, m, bufA, left, held, ⟨s.max, s.buf, lg, fin', s.seen⟩⟩) ∧ Cells w' left.A (gapC lg)) fun w5 H => ⟨⟨H.blk 1 rfl, own_cells (A := left.A) (c := left.k) (H.own 3 rfl)⟩, ?_⟩
    refine Br.dec (fun hp => ?_) fun hp => ⟨H, .inr ⟨rfl, ?_⟩⟩
    · obtain ⟨l, x, hlx⟩ : ∃ l x, lg = l ++ [x] := by
        rcases List.eq_nil_or_concat lg with h | ⟨l, x, h⟩
        · rw [h] at hln; exact absurd hln (by simp; omega)
        · exact ⟨l, x, by simpa using h⟩
      have hll : lg.length = l.length + 1 := by rw [hlx]; simp
      have hx : lg[l.length]? = some x := by rw [hlx]; simp
      refine ⟨_, rfl, left.A, left.n, left.k, fun w' hb => hb.1.cell 2, gap_idx (own_cells (A := left.A) (c := left.k) (H.own 3 rfl)) (i := l.length) (by rw [w64 (by omega) (by omega)]; omega) (by omega) hx fun a hca => ?_⟩
      refine ⟨a, rfl, by decide, by decide, x.2, fun w' hb => (hca w' hb.2).2.1, _, rfl, s.max, fun w' hb => hb.1.cell 0, H, ?_⟩
      by_cases he : x.2 = s.max
      · exact .inl ⟨decide_eq_true he, l, x, hlx, he⟩
      · refine .inr ⟨decide_eq_false he, ?_⟩
        rw [hg']
        unfold endG
        rw [hlx, List.getLast?_concat]
        simp only
        rw [if_neg he]
    · rw [hg']
      unfold endG
      have : lg = [] := List.eq_nil_of_length_eq_zero (by omega)
      rw [this]; rfl
  rintro _ w5 ⟨H, ⟨rfl, l, x, hlx, hx2⟩ | ⟨rfl, hgl⟩⟩
  case inr =>
    subst hgl
    exact Br.f rfl ⟨left, H⟩
  unfold hole_Holes_Put_J57323
  have hll : lg.length = l.length + 1 := by rw [hlx]; simp
  have hi : IntKind.i64.wrap ((left.n : Int) - 1) = (l.length : Int) := by rw [w64 (by omega) (by omega)]; omega
  rw [hi, hw]
  have hne : left.A ≠ none := by
    intro he
    rcases (H.own 3 rfl).2 with ⟨_, h⟩ | ⟨q, cap, cur, hv, _⟩
    · omega
    · have hv : Value.slice left.A left.n left.k = .slice (some ⟨q, 0, none⟩) left.n cap := hv
      injection hv with hv; rw [he] at hv; cases hv
  obtain ⟨q, cs, hA, _, ht, hcl, hm, _, H⟩ := H.ownBlk (i := 3) (A := left.A) (n := left.n) (c := left.k) rfl hne
  have ht : cs.take (left.n * 2) = gapC lg := ht
  refine Br.t rfl ⟨_, rfl, left.A, left.n, left.k, (H.blk 1 rfl).cell 2, ⟨q, 0, none⟩, hA, by omega, by omega, _, rfl, by decide, by decide, ?_⟩
  have ea : (((⟨q, 0, none⟩ : Addr).add (((l.length : Nat) : Int).toNat * 2)).add (Int.toNat 1 * 1)) = ⟨q, l.length * 2 + 1, none⟩ := by
    rw [addr_add, addr_add, Int.toNat_natCast]; congr 1; show 0 + l.length * 2 + 1 * 1 = _; omega
  have ea0 : (((⟨q, 0, none⟩ : Addr).add (((l.length : Nat) : Int).toNat * 2)).add (Int.toNat 0 * 1)) = ⟨q, l.length * 2, none⟩ := by
    rw [addr_add, addr_add, Int.toNat_natCast]; congr 1; show 0 + l.length * 2 + 0 * 1 = _; omega
  rw [ea]
  have hcells : (cs.set (l.length * 2 + 1) (.int .i64 (off + d.length))).take (left.n * 2) = gapC (l ++ [(x.1, off + (d.length : Int))]) := by
    rw [← gapC_set, ← hlx, ← ht, List.take_set]
  refine SetVC.sep H 3 (k := l.length * 2 + 1) rfl (by omega) fun w6 H => ?_
  refine ⟨_, rfl, left.A, left.n, left.k, (H.blk 1 rfl).cell 2, ⟨q, 0, none⟩, hA, by omega, by omega, _, rfl, by decide, by decide, x.1, ?_, ?_⟩
  · rw [ea0]
    rw [(H.blk 3 rfl).cell]
    have h12 := gapC_get (l := l ++ [(x.1, off + (d.length : Int))]) (i := l.length) (g := (x.1, off + d.length)) (by simp)
    rw [← hcells, List.getElem?_take, if_pos (by omega)] at h12
    exact h12.1
  have H := H.blkOwn' 3 rfl (b := 0) (size := 2) (n := left.n) (c := left.k) (Nat.zero_le _) (by rw [List.length_set]; exact hcl) hlk hm
  rw [hcells] at H
  have hend : gaps' = if off + (d.length : Int) ≤ x.1 then l else l ++ [(x.1, off + d.length)] := by
    rw [hg']
    unfold endG
    rw [hlx, List.getLast?_concat]
    simp only [List.dropLast_concat]
    rw [if_pos hx2]
  refine Br.dec (fun hle => ?_) fun hle => ?_
  · rw [if_pos hle] at hend
    refine ⟨_, rfl, left.A, left.n, left.k, (H.blk 1 rfl).cell 2, by omega, by omega, _, rfl, ?_⟩
    refine SetVC.sep H 1 (k := 2) rfl (show 2 < 6 by decide) fun w7 H => ⟨⟨left.A, l.length, left.k⟩, ?_⟩
    have ho := H.own 3 rfl
    have H := H.weaken 3 rfl (f' := rowG 0 ⟨left.A, l.length, left.k⟩ gaps') (by
      rcases ho.2 with ⟨hv, _⟩ | ⟨q', cap, cur, hv, h2, h3, h4, h5, h6, h7⟩
      · cases hv
      · injection hv with e1 _ e3
        injection e1 with e1; injection e1 with e1
        subst e1; subst e3
        refine ⟨by rw [gapC_len, hend], .inr ⟨q, left.k, cur, by show Value.slice left.A _ _ = _; rw [hA], Nat.zero_le _, h3, Nat.le_trans (by omega : l.length ≤ left.n) h4, h5, h6, ?_⟩⟩
        show cur.toList.take (l.length * 2) = _
        have h8 := congrArg (List.take (l.length * 2)) h7
        rw [List.take_take, show min (l.length * 2) (left.n * 2) = l.length * 2 by omega, gapC_take, List.take_left] at h8
        rw [h8, hend]) fun k hk => by
      have hk : (Value.slice left.A l.length left.k).ownBlock = some k := hk
      rw [hA] at hk
      exact hk
    rw [hw, Int.toNat_natCast] at *
    exact H
  · rw [if_neg hle] at hend
    refine ⟨left, ?_⟩
    rw [hend]
    have e : Fct.own 0 145 2 (.slice (some ⟨q, 0, none⟩) left.n left.k) left.n (gapC (l ++ [(x.1, off + (d.length : Int))])) = rowG 0 left (l ++ [(x.1, off + (d.length : Int))]) := by
      show _ = Fct.own 0 _ 2 (.slice left.A left.n left.k) left.n _
      rw [hA]
    rw [e] at H
    exact H
end
end N6
end Go.Proofs.YthhgbpmihhljdaaGreatDoor
