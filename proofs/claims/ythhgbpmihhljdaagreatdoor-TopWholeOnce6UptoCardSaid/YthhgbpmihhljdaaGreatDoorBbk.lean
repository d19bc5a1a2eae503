/- TopWholeOnce6: the play. -/
import Derived.Test.YthhgbpmihhljdaaGreatDoorBbj
namespace Go.Proofs.YthhgbpmihhljdaaGreatDoor
namespace N6
open Go Go.Eng Go.RowKit
theorem L6At.ext' {w w' : World} {s : Sl} {rs : List R6} (h : L6At w s rs) (hE : Ext w w') : L6At w' s rs := { h with recs := h.recs.ext hE, each := fun r hr => (h.each r hr).ext hE }
section
variable {w w0 : World} {T : TabR} {d : Ip6D} {id : Int} {xs : List (Nat × Nat)} {h : Ip6V} {es : List ExtR} {data : List Int} {sp so sw : Sl} {rs : List Ip6R} {ro : List R6} {way : List Nat} {g g1 : Nat} {R : Ending → World → Prop}
/-- What is given for the play. -/
structure Given (w0 : World) (d : Ip6D) (id : Int) (xs : List (Nat × Nat)) (h : Ip6V) (es : List ExtR) (data : List Int) (sp : Sl) (rs : List Ip6R) (so : Sl) (ro : List R6) (way : List Nat) (g1 : Nat) : Prop where
  hd : h.d es data = d
  hA : Ip6At w0 h es data
  hK : Kn w0
  hP : Pd d id xs
  hn : xs.length ≤ 1024
  hps : Ip6sAt w0 sp rs
  hrs : rs.map Ip6R.d = xs.map (piece6 d id)
  ho : L6At w0 so ro
  hno : so.n ≤ 100
  hg1 : Blk w0 g1 30 h.cells
  hw1 : ∀ i ∈ way, i < xs.length
  hw2 : ∀ i, i < xs.length → i ∈ way
  hwl : way.length ≤ 1300
  hB : Bts (rest6 d)
abbrev Γw (w0 : World) (sw : Sl) (way : List Nat) (ss : Sl) (seen : List Nat) : List Fct := [Fct.rest w0 None, rowN sw way, rowN ss seen]
structure Pl (w0 : World) (d : Ip6D) (id : Int) (xs : List (Nat × Nat)) (sw : Sl) (way : List Nat) (g : Nat) (T : TabR) (ss : Sl) (seen : List Nat) (m : Nat) (b : Int) (w : World) : Prop where
  at_ : AtT d id xs T seen m
  g : T.g = g
  begun : T.begun ≤ b
  sep : Sep (Γw w0 sw way ss seen ++ tabFs T) w
theorem Pl.ext {ss : Sl} {seen : List Nat} {m : Nat} {b : Int} (h : Pl w0 d id xs sw way g T ss seen m b w) : Ext w0 w := h.sep.restOf 0 rfl
set_option maxHeartbeats 4000000 in
theorem other_step (G : Given w0 d id xs h es data sp rs so ro way g1) {ss : Sl} {seen : List Nat} {i : Nat} {J : Unit → World → Prop}
    (hT : Pl w0 d id xs sw way g T ss seen (min i so.n) (2 * i) w) (hi : i ≤ 1300) (hJ : ∀ T' w', Pl w0 d id xs sw way g T' ss seen (min (i + 1) so.n) (2 * i + 1) w' → J () w') :
    JoinVC (S := Bool) (fun J261960 =>
          DrawVC w fun S1 w12 =>
          Br (decide ((i : Int) < (so.n : Int)))
            (IdxVC so.A so.n 44 (i : Int) fun a1 =>
            IPV.ex fun h8 => (∀ w' : World, S1 w' → CellsAt w' (a1.add 3) 0 h8.cells) ∧
            IPV.ex fun h9 => (∀ w' : World, S1 w' → CellsAt w' ⟨g1, 3, none⟩ 0 h9.cells) ∧
            Br (!((IPV.beq h8 h9)))
              (J261960 true w12)
              (IdxVC so.A so.n 44 (i : Int) fun a2 =>
              IPV.ex fun h10 => (∀ w' : World, S1 w' → CellsAt w' (a2.add 20) 0 h10.cells) ∧
              IPV.ex fun h11 => (∀ w' : World, S1 w' → CellsAt w' ⟨g1, 20, none⟩ 0 h11.cells) ∧
              Br (!((IPV.beq h10 h11)))
                (J261960 true w12)
                (IdxVC so.A so.n 44 (i : Int) fun a3 =>
                ∃ x5 : Int, (∀ w' : World, S1 w' → w'.cell? ((a3.add 38).add 2) = some (.int .i64 x5)) ∧
                J261960 (decide (x5 ≠ id)) w12)))
            (J261960 false w12))
        (fun s_ w13 => weirtop_TopWholeOnce6_J261960 R so.A so.n (some ⟨g, 0, none⟩) (i : Int) J s_ w13) := by
  refine JoinVC.of (fun b w' => Pl w0 d id xs sw way g T ss seen (min i so.n) (2 * i) w' ∧ (b = true → ∃ r, ro[i]? = some r ∧ key6 r.v ≠ keyD d id)) ?_ ?_
  · refine DrawVC.sep hT.sep (fun w' => L6At w' so ro ∧ Blk w' g1 30 h.cells) fun w1 H1 => ⟨⟨G.ho.ext' (H1.restOf 0 rfl), G.hg1.ext (H1.restOf 0 rfl)⟩, ?_⟩
    have hT1 : Pl w0 d id xs sw way g T ss seen (min i so.n) (2 * i) w1 := ⟨hT.at_, hT.g, hT.begun, H1⟩
    have hS : L6At w1 so ro ∧ Blk w1 g1 30 h.cells := ⟨G.ho.ext' (H1.restOf 0 rfl), G.hg1.ext (H1.restOf 0 rfl)⟩
    have hlen := G.ho.len
    refine Br.dec (fun hlt => ?_) fun _ => ⟨hT1, fun h => by cases h⟩
    obtain ⟨r, hr⟩ : ∃ r, ro[i]? = some r := ⟨_, List.getElem?_eq_getElem (by omega)⟩
    have idx : ∀ {F : Addr → Prop}, (∀ a, (∀ w', (L6At w' so ro ∧ Blk w' g1 30 h.cells) → CellsAt w' a 0 r.v.cells) → F a) → IdxVC so.A so.n 44 (i : Int) F := fun hF =>
      IdxVC.recD (fun w' => L6At w' so ro ∧ Blk w' g1 30 h.cells) hS (fun w' h => h.1.recs) (by rw [List.length_map]; exact hlen) (cs := r.v.cells) (by rw [List.getElem?_map, hr]; rfl) hF
    have hsr : h.src = d.src := congrArg (fun q : Ip6D => q.src) G.hd
    have hds : h.dst = d.dst := congrArg (fun q : Ip6D => q.dst) G.hd
    refine idx fun a1 ha1 => IPV.of r.v.src ⟨fun w' hs => cells_sub (r.v.cells.take 3) r.v.src.cells (r.v.cells.drop 20) (ha1 w' hs), IPV.of h.src ⟨fun w' hs => ip6_src hs.2, ipv_br (fun hne => ?_) fun he1 => ?_⟩⟩
    · exact ⟨hT1, fun _ => ⟨r, hr, fun he => hne (by have := congrArg KeyV.src he; rw [hsr]; exact this)⟩⟩
    refine idx fun a2 ha2 => IPV.of r.v.dst ⟨fun w' hs => cells_sub (r.v.cells.take 20) r.v.dst.cells (r.v.cells.drop 37) (ha2 w' hs), IPV.of h.dst ⟨fun w' hs => ip6_dst hs.2, ipv_br (fun hne => ?_) fun he2 => ?_⟩⟩
    · exact ⟨hT1, fun _ => ⟨r, hr, fun he => hne (by have := congrArg KeyV.dst he; rw [hds]; exact this)⟩⟩
    refine idx fun a3 ha3 => ⟨r.v.frag.id, fun w' hs => ?_, hT1, fun hb => ⟨r, hr, fun he => of_decide_eq_true hb (congrArg KeyV.id he)⟩⟩
    have := cellsAt_get (ha3 w' hs) 40 (.int .i64 r.v.frag.id) rfl
    rw [add_add]
    exact this
  rintro b w1 ⟨hT1, hb⟩
  unfold weirtop_TopWholeOnce6_J261960
  have hmin : min i so.n ≤ 100 := by have := G.hno; omega
  cases b with
  | false =>
    have h0 := hT1.at_
    refine Br.f rfl (hJ T w1 ⟨⟨h0.ok, h0.max, h0.nodup, h0.lt, h0.none, h0.some, ?_⟩, hT1.g, by have := hT1.begun; omega, hT1.sep⟩)
    have := h0.len
    omega
  | true =>
    obtain ⟨r, hr, hk⟩ := hb rfl
    have hlen := G.ho.len
    have hlt := (List.getElem?_eq_some_iff.1 hr).1
    have hO := G.ho.ext' hT1.ext
    refine Br.t rfl (IdxVC.recD (fun w' => w' = w1) rfl (fun w' e => by subst e; exact hO.recs) (by rw [List.length_map]; exact hlen) (cs := r.v.cells) (by rw [List.getElem?_map, hr]; rfl) fun a ha => ?_)
    refine Ip6V.of r.v ⟨ha w1 rfl, ?_⟩
    have hat : ∀ {w' : World}, Ext w0 w' → Ip6At w' r.v r.exts r.data := fun hE => (G.ho.each r (List.mem_of_getElem? hr)).ext hE
    rw [← hT1.g]
    refine (step6 hT1.sep hT1.at_.ok (by have := hT1.begun; omega) (fun w' H => hat (H.restOf 0 rfl)) fun w' H => G.hK.ext (H.restOf 0 rfl)).mono ?_
    rintro _ w2 ⟨T2, res, n, o, er, od, rfl, hout, H2, _, hfs⟩
    refine onRet_at (Ip6V.of res ⟨_, _, _, rfl, ?_⟩)
    have hst := hout.weak hfs hT1.at_.ok (hat hT1.ext).src (hat hT1.ext).dst
    obtain ⟨_, q1, _, _, _, _, q6⟩ := hst.ok hT1.at_.ok
    have h2 := hT1.at_.other (by omega) hst hk
    rw [show min i so.n + 1 = min (i + 1) so.n by omega] at h2
    exact hJ T2 w2 ⟨h2, q1.trans hT1.g, by have := hT1.begun; omega, H2⟩
end
end N6
end Go.Proofs.YthhgbpmihhljdaaGreatDoor
/- TopWholeOnce6: a piece is offered. -/
namespace Go.Proofs.YthhgbpmihhljdaaGreatDoor
namespace N6
open Go Go.Eng Go.RowKit
section
variable {w w0 : World} {T : TabR} {d : Ip6D} {id : Int} {xs : List (Nat × Nat)} {h : Ip6V} {es : List ExtR} {data : List Int} {sp so sw : Sl} {rs : List Ip6R} {ro : List R6} {way : List Nat} {g g1 : Nat} {R : Ending → World → Prop}
set_option maxHeartbeats 4000000 in
theorem piece_play (G : Given w0 d id xs h es data sp rs so ro way g1) {ss : Sl} {seen : List Nat} {i j : Nat} {K : (Option Addr × Nat × Nat) × Int → World → Prop} (hj : way[i]? = some j)
    (hT : Pl w0 d id xs sw way g T ss seen (min (i + 1) so.n) (2 * i + 1) w)
    (hK : ∀ T' ss' seen' w', Pl w0 d id xs sw way g T' ss' seen' (min (i + 1) so.n) (2 * ((i + 1 : Nat) : Int)) w' → (∀ k ∈ seen, k ∈ seen') → j ∈ seen' → K ((ss'.A, ss'.n, ss'.k), ((i + 1 : Nat) : Int)) w') :
    weirtop_TopWholeOnce6_J130980 R id g1 sp.A sp.n (some ⟨g, 0, none⟩) sw.A sw.n ss.A ss.n ss.k (i : Int) K w := by
  unfold weirtop_TopWholeOnce6_J130980
  have hil := (List.getElem?_eq_some_iff.1 hj).1
  have hwl := G.hwl
  have hjx := G.hw1 j (List.mem_of_getElem? hj)
  have hrl : rs.length = xs.length := by have := congrArg List.length G.hrs; simpa using this
  have hspn : sp.n = xs.length := by rw [← hrl]; exact G.hps.len.symm
  obtain ⟨x, hx⟩ : ∃ x, xs[j]? = some x := ⟨_, List.getElem?_eq_getElem hjx⟩
  obtain ⟨r, hr⟩ : ∃ r, rs[j]? = some r := ⟨_, List.getElem?_eq_getElem (by omega)⟩
  have hrd : r.v.d r.exts r.data = piece6 d id x := by
    have := congrArg (fun l : List Ip6D => l[j]?) G.hrs
    simp only [List.getElem?_map, hr, hx, Option.map_some] at this
    exact Option.some.inj this
  have hmin : min (i + 1) so.n ≤ 200 := by have := G.hno; omega
  have hseen : seen.length = ss.n := rowN_len (hT.sep.own 2 rfl)
  have hsl := few_of _ _ hT.at_.nodup hT.at_.lt
  have hn := G.hn
  have hway : way.length = sw.n := rowN_len (hT.sep.own 1 rfl)
  have e : (way.map fun i : Nat => (i : Int)).getD (i : Int).toNat 0 = (j : Int) := by rw [Int.toNat_natCast, List.getD_eq_getElem?_getD, List.getElem?_map, hj]; rfl
  have wc : ∀ {w' : World} {ss' : Sl} {seen' : List Nat} {Δ : List Fct}, Sep (Γw w0 sw way ss' seen' ++ Δ) w' → Cells w' sw.A ((way.map fun i : Nat => (i : Int)).map (.int .i64)) := fun H => cells_nat (own_cells (A := sw.A) (c := sw.k) (H.own 1 rfl))
  have rd : ∀ {w' : World} {ss' : Sl} {seen' : List Nat} {Δ : List Fct} {F : Addr → Prop}, Sep (Γw w0 sw way ss' seen' ++ Δ) w' → (∀ a, w'.cell? a = some (.int .i64 (j : Int)) → F a) → IdxVC sw.A sw.n 1 (i : Int) F := fun H hF =>
    IdxVC.int (wc H) (by omega) (by omega) (by rw [List.length_map]; exact hway) fun a ha => hF a (by rw [e] at ha; exact ha)
  have hwi : IntKind.i64.wrap ((i : Int) + 1) = ((i + 1 : Nat) : Int) := by rw [w64 (by omega) (by omega)]; omega
  refine rd hT.sep fun a ha => ⟨_, ha, ?_⟩
  refine (comes_spec (s := ss) (seen := seen) (n := sp.n) (j := j) (cells_nat (own_cells (A := ss.A) (c := ss.k) (hT.sep.own 2 rfl))) hseen (by omega)).mono ?_
  rintro _ _ ⟨rfl, rfl⟩
  refine ⟨_, _, rfl, rd hT.sep fun a ha => ⟨_, ha, ?_⟩⟩
  have hpa := G.hps.ext hT.ext
  refine Ip6sAt.idx hpa hr fun a ha => Ip6V.of r.v ⟨ha, ?_⟩
  have hat : ∀ {w' : World}, Ext w0 w' → Ip6At w' r.v r.exts r.data := fun hE => (G.hps.each r (List.mem_of_getElem? hr)).ext hE
  rw [← hT.g]
  refine (step6 hT.sep hT.at_.ok (by have := hT.begun; omega) (fun w' H => hat (H.restOf 0 rfl)) fun w' H => G.hK.ext (H.restOf 0 rfl)).mono ?_
  rintro _ w2 ⟨T2, res, n, o, er, od, rfl, hout, H2, hb6, hfs⟩
  have hst := hout.weak hfs hT.at_.ok (hat hT.ext).src (hat hT.ext).dst
  obtain ⟨q0, q1, _, q3, _, _, q6⟩ := hst.ok hT.at_.ok
  have hstep := piece_step G.hP G.hn G.hB hT.at_ hmin hx hrd q0 hout q3
  have hbg : T2.begun ≤ 2 * ((i + 1 : Nat) : Int) := by have := hT.begun; omega
  refine onRet_at (Ip6V.of res ⟨_, _, _, rfl, NewVC.blk fun g3 w3 hg3 hz3 hE3 hb3 => Stores.blk hb3 (Ip6V.one _) (Nat.le_refl _) fun w4 hz4 hm4 hb4 => ?_⟩)
  have hE24 : Ext w2 w4 := Mod.set hE3 hm4 (by omega)
  have hb4 : Blk w4 g3 30 res.cells := by
    have e1 : splice (Ip6V.z : Ip6V).cells.toArray.toList (0 + 0) res.cells = res.cells := splice_all rfl
    rw [e1] at hb4; exact hb4
  have H4 := H2.ext hE24
  have hPl : ∀ {seen' : List Nat}, AtT d id xs T2 seen' (min (i + 1) so.n) → ∀ {ss' : Sl} {w' : World}, Sep (Γw w0 sw way ss' seen' ++ tabFs T2) w' → Pl w0 d id xs sw way g T2 ss' seen' (min (i + 1) so.n) (2 * ((i + 1 : Nat) : Int)) w' := fun h _ _ H => ⟨h, q1.trans hT.g, hbg, H⟩
  have grow : ∀ {w' : World}, Sep (Γw w0 sw way ss seen ++ tabFs T2) w' → AtT d id xs T2 (seen ++ [j]) (min (i + 1) so.n) → IdxVC sw.A sw.n 1 (i : Int) fun a => ∃ x9 : Int, w'.cell? a = some (.int .i64 x9) ∧
      NewVC w' (.cells #[.int .i64 x9] 3) fun g4 w21 =>
      AppVC Tryz.prog #[31, 31] 31 (.slice ss.A ss.n ss.k) (.slice (some ⟨g4, 0, none⟩) 1 1) w21 fun lA ln lc w22 => K ((lA, ln, lc), IntKind.i64.wrap ((i : Int) + 1)) w22 := by
    intro w' H hat2
    refine rd H fun a ha => ⟨_, ha, NewVC.sep H fun g4 w5 H5 => ?_⟩
    have H5 := H5.front
    refine appN (x := j) H5 3 rfl (Cells.blk0 (H5.blk 0 rfl)) (by omega) fun A2 c2 w6 H6 => ?_
    have H6 : Sep (Γw w0 sw way ⟨A2, ss.n + 1, c2⟩ (seen ++ [j]) ++ tabFs T2) w6 := H6.tail
    rw [hwi]
    exact hK T2 ⟨A2, ss.n + 1, c2⟩ (seen ++ [j]) w6 (hPl hat2 H6) (fun k hk => List.mem_append_left _ hk) (by simp)
  have hcs : ∀ {a b : Int}, comesS seen sp.n j = (a, b) → (comesS seen sp.n j).1 = a ∧ (comesS seen sp.n j).2 = b := fun h => by rw [h]; exact ⟨rfl, rfl⟩
  rcases hstep with ⟨h1, rfl, rfl, h4⟩ | ⟨h1, h2, rfl, rfl, h4⟩ | ⟨h1, h2, rfl, h3, h4⟩
  · obtain ⟨k1, k2⟩ := hcs (a := 0) (b := 125) (by unfold comesS; rw [if_pos (by omega)])
    rw [k1, k2]
    refine Br.f rfl (Br.f rfl (Br.f rfl (Br.f rfl ?_)))
    rw [hwi]
    refine hK T2 ss seen w4 (hPl h4 H4) (fun k hk => hk) ?_
    exact (all_of hT.at_.nodup hT.at_.lt).1 h1 j hjx
  · obtain ⟨k1, k2⟩ := hcs (a := 0) (b := 121) (by unfold comesS; rw [if_neg (by omega), if_pos h2])
    rw [k1, k2]
    refine Br.f rfl (Br.f rfl (Br.f rfl (Br.f rfl ?_)))
    rw [hwi]
    exact hK T2 ss seen w4 (hPl h4 H4) (fun k hk => hk) h2
  · rcases h3 with ⟨h5, rfl, rfl, rfl⟩ | ⟨h5, rfl⟩
    · obtain ⟨k1, k2⟩ := hcs (a := 1) (b := 0) (by unfold comesS; rw [if_neg (by omega), if_neg h2, if_pos (by omega)])
      rw [k1, k2]
      refine Br.f rfl (Br.f rfl (Br.t rfl (Br.f (decide_eq_false fun h => h rfl) ?_)))
      obtain ⟨es', data', hb, hbd⟩ := hb6 d rfl
      have hg1 := G.hg1.ext (H4.restOf 0 rfl)
      refine Ip6V.of res ⟨CellsAt.blk hb4, Ip6V.of h ⟨CellsAt.blk hg1, ?_⟩⟩
      refine (same6_eq (hb.ext hE24) (G.hA.ext (H4.restOf 0 rfl)) (hbd.trans G.hd.symm)).mono ?_
      rintro _ w5 ⟨rfl, hE5⟩
      exact ⟨_, rfl, Br.f rfl (Br.t rfl (grow (H4.ext hE5) h4))⟩
    · obtain ⟨k1, k2⟩ := hcs (a := 2) (b := 0) (by unfold comesS; rw [if_neg (by omega), if_neg h2, if_neg (by omega)])
      rw [k1, k2]
      exact Br.f rfl (Br.f rfl (Br.f rfl (Br.t rfl (grow H4 h4))))
set_option maxHeartbeats 4000000 in
theorem play_loop (G : Given w0 d id xs h es data sp rs so ro way g1) (hT : Pl w0 d id xs sw way g T ⟨none, 0, 0⟩ [] 0 0 w) (hR : ∀ w', Ext w0 w' → R (.returned (.bool true)) w') :
    LoopVC (S := (Option Addr × Nat × Nat) × Int) (fun s_ w11 K8186 => weirtop_TopWholeOnce6_L8186 R id so.A so.n g1 sp.A sp.n (some ⟨g, 0, none⟩) sw.A sw.n s_.1.1 s_.1.2.1 s_.1.2.2 s_.2 w11 K8186) ((none, 0, 0), 0) w := by
  refine LoopVC.of (fun st w' => ∃ (i : Nat) (T' : TabR) (seen : List Nat), st.2 = i ∧ i ≤ way.length ∧ (∀ k ∈ way.take i, k ∈ seen) ∧ Pl w0 d id xs sw way g T' ⟨st.1.1, st.1.2.1, st.1.2.2⟩ seen (min i so.n) (2 * (i : Int)) w') (fun st _ => way.length - st.2.toNat)
    ⟨0, T, [], rfl, Nat.zero_le _, (fun k hk => by simp at hk), by rw [Nat.zero_min]; exact hT⟩ ?_
  rintro ⟨⟨A1, n1, c1⟩, _⟩ w1 ⟨i, T', seen, rfl, hi, hall, hP⟩
  have hway : way.length = sw.n := rowN_len (hP.sep.own 1 rfl)
  have hwl := G.hwl
  have hrl : rs.length = xs.length := by have := congrArg List.length G.hrs; simpa using this
  have hspn : sp.n = xs.length := by rw [← hrl]; exact G.hps.len.symm
  show weirtop_TopWholeOnce6_L8186 R id so.A so.n g1 sp.A sp.n (some ⟨g, 0, none⟩) sw.A sw.n A1 n1 c1 (i : Int) w1 _
  unfold weirtop_TopWholeOnce6_L8186
  refine Br.dec (fun hlt => ?_) fun hge => ?_
  · have hlt : i < way.length := by omega
    obtain ⟨j, hj⟩ : ∃ j, way[i]? = some j := ⟨_, List.getElem?_eq_getElem hlt⟩
    refine JoinVC.of (fun _ w' => ∃ T2, Pl w0 d id xs sw way g T2 ⟨A1, n1, c1⟩ seen (min (i + 1) so.n) (2 * (i : Int) + 1) w') ?_ ?_
    · exact other_step (ss := ⟨A1, n1, c1⟩) G hP (by omega) fun T2 w' h2 => ⟨T2, h2⟩
    rintro _ w2 ⟨T2, hP2⟩
    refine piece_play (ss := ⟨A1, n1, c1⟩) G hj hP2 fun T3 ss' seen' w' hP3 hsub hjs => ⟨⟨i + 1, T3, seen', rfl, by omega, fun k hk => ?_, hP3⟩, by simp only [Int.toNat_natCast]; omega⟩
    rw [List.take_add_one, hj] at hk
    rcases List.mem_append.1 hk with hk | hk
    · exact hsub k (hall k hk)
    · simp at hk; rw [hk]; exact hjs
  · have hil : i = way.length := by omega
    have hfull : seen.length = xs.length := (all_of hP.at_.nodup hP.at_.lt).2 fun k hk => hall k (by rw [hil, List.take_length]; exact G.hw2 k hk)
    have hn1 : seen.length = n1 := rowN_len (s := ⟨A1, n1, c1⟩) (hP.sep.own 2 rfl)
    have htwo := G.hP.cut.two
    refine Br.t (decide_eq_true (by omega)) ?_
    rw [← hP.g]
    refine (stepF hP.sep hP.at_.ok (by have := hP.begun; omega)).mono ?_
    rintro _ w2 ⟨rfl, H2⟩
    have hne : seen ≠ [] := fun h => by rw [h] at hfull; simp at hfull; omega
    obtain ⟨c, hc, hX⟩ := hP.at_.some hne
    have hmem : c ∈ T'.cs.filter (selS 1) := List.mem_filter.2 ⟨hc, by unfold selS; rw [hX.done hfull]; rfl⟩
    have hpos := List.length_pos_of_mem hmem
    refine ⟨_, rfl, ?_⟩
    rw [decide_eq_true (show (1 : Int) ≤ ((T'.cs.filter (selS 1)).length : Int) by omega)]
    exact hR w2 (H2.restOf 0 rfl)
end
end N6
end Go.Proofs.YthhgbpmihhljdaaGreatDoor
