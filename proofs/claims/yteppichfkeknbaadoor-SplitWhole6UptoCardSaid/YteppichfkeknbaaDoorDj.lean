/- WRITTEN BY a program of this session (vc.py): for each Go function the condition that is enough for its contract, and the theorem that it is. -/
import Derived.Test.YteppichfkeknbaaDoorProg
import Derived.Test.YteppichfkeknbaaDoorBq
import Derived.Test.YteppichfkeknbaaDoorBn
import Derived.Test.YteppichfkeknbaaDoorDg
import Derived.Test.YteppichfkeknbaaDoorBe
import Derived.Test.YteppichfkeknbaaDoorDi
import Derived.Test.YteppichfkeknbaaDoorDh
import Derived.Test.YteppichfkeknbaaDoorDf
namespace Go.Proofs.YteppichfkeknbaaDoor
open Go.Eng
namespace N6

set_option maxRecDepth 100000 in
def weirlaw13_SplitWhole6_L65530 (R : Ending → World → Prop) (g1 : Nat) (x0n : Nat) (x0A1 : Option Addr) (x0n1 : Nat) (lA2 : Option Addr) (ln2 : Nat) (lc2 : Nat) (i1 : Int) (w25 : World) (K65530 : (Int → World → Prop)) : Prop :=
  Br (decide (i1 < (x0n1 : Int)))
    (IdxVC x0A1 x0n1 3 i1 fun a9 =>
  ∃ x12 : Int, w25.cell? a9 = some (.int .i64 x12) ∧
  Br (decide (x12 = 43))
    (R (.returned (.bool false)) w25)
    (K65530 (IntKind.i64.wrap (i1 + 1)) w25))
    (Calls Tryd.prog 14 #[] w25 (onRet (fun r_9 w26 => ∃ x13 : Bool, r_9 = .bool x13 ∧
  Br x13
    (Br (decide ((1 : Int) < (x0n : Int)))
      (∃ (xA5 : Option Addr) (xn5 xc5 : Nat), w26.cell? ⟨g1, 37, none⟩ = some (.slice xA5 xn5 xc5) ∧
      Calls Tryd.prog 43 #[.slice lA2 ln2 lc2, .slice xA5 xn5 xc5] w26 (onRet (fun r_10 w27 => ∃ x14 : Bool, r_10 = .bool x14 ∧
      R (.returned (.bool x14)) w27)
        (fun ch10 w27 => R (.panicked ch10) w27)))
      (R (.returned (.bool false)) w26))
    (R (.returned (.bool false)) w26))
    (fun ch9 w26 => R (.panicked ch9) w26)))
set_option maxRecDepth 100000 in
def weirlaw13_SplitWhole6_L1018 (R : Ending → World → Prop) (id : Int) (g1 : Nat) (x0A : Option Addr) (x0n : Nat) (allA : Option Addr) (alln : Nat) (allc : Nat) (i : Int) (w10 : World) (K1018 : ((Option Addr × Nat × Nat) × Int → World → Prop)) : Prop :=
  Br (decide (i < (x0n : Int)))
    (Ip6V.ex fun h6 => CellsAt w10 ⟨g1, 0, none⟩ 0 h6.cells ∧
  NewVC w10 (.cells (Ip6V.z : Ip6V).cells.toArray 44) fun g2 w11 =>
  Stores ⟨g2, 0, none⟩ 0 h6.cells w11 fun w12 =>
  IdxVC x0A x0n 44 0 fun a2 =>
  ∃ (xA : Option Addr) (xn xc : Nat), w12.cell? (a2.add 37) = some (.slice xA xn xc) ∧
  SetVC w12 ⟨g2, 37, none⟩ (.slice xA xn xc) fun w13 =>
  IdxVC x0A x0n 44 0 fun a3 =>
  ∃ x5 : Int, w13.cell? (a3.add 42) = some (.int .i64 x5) ∧
  SetVC w13 ⟨g2, 42, none⟩ (.int .i64 x5) fun w14 =>
  IdxVC x0A x0n 44 i fun a4 =>
  ∃ (xA1 : Option Addr) (xn1 xc1 : Nat), w14.cell? (a4.add 43) = some (.slice xA1 xn1 xc1) ∧
  SetVC w14 ⟨g2, 43, none⟩ (.slice xA1 xn1 xc1) fun w15 =>
  Stores ⟨g2, 38, none⟩ 0 [.bool true, .bool (decide (IntKind.i64.wrap (i + 1) < (x0n : Int))), .int .i64 id, .int .i64 (alln : Int)] w15 fun w16 =>
  DrawVC w16 fun S3 w17 =>
  IdxVC x0A x0n 44 i fun a5 =>
  Ip6V.ex fun h7 => (∀ w' : World, S3 w' → CellsAt w' a5 0 h7.cells) ∧
  Ip6V.ex fun h8 => (∀ w' : World, S3 w' → CellsAt w' ⟨g2, 0, none⟩ 0 h8.cells) ∧
  Calls Tryd.prog 25 #[h7.val, h8.val] w17 (onRet (fun r_5 w18 => ∃ x6 : Bool, r_5 = .bool x6 ∧
  S3 w18 ∧
  Br (!x6)
    (R (.returned (.bool false)) w18)
    (IdxVC x0A x0n 44 i fun a6 =>
  ∃ (xA2 : Option Addr) (xn2 xc2 : Nat), w18.cell? (a6.add 43) = some (.slice xA2 xn2 xc2) ∧
  AppVC Tryd.prog #[26, 26] 26 (.slice allA alln allc) (.slice xA2 xn2 xc2) w18 fun lA ln lc w19 =>
  K1018 ((lA, ln, lc), IntKind.i64.wrap (i + 1)) w19))
    (fun _ _ => False)))
    (IdxVC x0A x0n 44 0 fun a7 =>
  ∃ x7 : Int, w10.cell? (a7.add 42) = some (.int .i64 x7) ∧
  Calls Tryd.prog 42 #[.int .i64 x7, .slice allA alln allc] w10 (onRet (fun r_6 w20 => ∃ (x0A1 : Option Addr) (x0n1 x0c1 : Nat), ∃ x11 : Int, ∃ (x2A : Option Addr) (x2n x2c : Nat), ∃ x31 : Int, r_6 = .tuple #[.slice x0A1 x0n1 x0c1, .int .i64 x11, .slice x2A x2n x2c, .int .i64 x31] ∧
  Calls Tryd.prog 13 #[.int .i64 x31] w20 (onRet (fun r_7 w21 => ∃ x8 : Int, r_7 = .int .i64 x8 ∧
  Br (decide (x8 ≠ 0))
    (R (.returned (.bool false)) w21)
    (∃ x9 : Int, w21.cell? ⟨g1, 42, none⟩ = some (.int .i64 x9) ∧
    Br (decide (x11 ≠ x9))
      (R (.returned (.bool false)) w21)
      (∃ (xA3 : Option Addr) (xn3 xc3 : Nat), w21.cell? ⟨g1, 43, none⟩ = some (.slice xA3 xn3 xc3) ∧
      Calls Tryd.prog 17 #[.slice x2A x2n x2c, .slice xA3 xn3 xc3] w21 (onRet (fun r_8 w22 => ∃ x10 : Bool, r_8 = .bool x10 ∧
      Br (!x10)
    (R (.returned (.bool false)) w22)
    (IdxVC x0A x0n 44 0 fun a8 =>
  ∃ (xA4 : Option Addr) (xn4 xc4 : Nat), w22.cell? (a8.add 37) = some (.slice xA4 xn4 xc4) ∧
  AppVC Tryd.prog #[40, 40] 40 (.slice none 0 0) (.slice xA4 xn4 xc4) w22 fun lA1 ln1 lc1 w23 =>
  AppVC Tryd.prog #[40, 40] 40 (.slice lA1 ln1 lc1) (.slice x0A1 x0n1 x0c1) w23 fun lA2 ln2 lc2 w24 =>
  LoopVC (S := Int) (fun s_ w25 K65530 => weirlaw13_SplitWhole6_L65530 R g1 x0n x0A1 x0n1 lA2 ln2 lc2 s_ w25 K65530) 0 w24))
        (fun ch8 w22 => R (.panicked ch8) w22)))))
    (fun ch7 w21 => R (.panicked ch7) w21)))
    (fun ch6 w20 => R (.panicked ch6) w20)))
set_option maxRecDepth 100000 in
def weirlaw13_SplitWhole6_J62 (R : Ending → World → Prop) (id : Int) (g1 : Nat) (x0A : Option Addr) (x0n : Nat) (t43_ : Bool) (w6 : World) : Prop :=
  Br t43_
    (DrawVC w6 fun S2 w7 =>
    Calls Tryd.prog 14 #[] w7 (onRet (fun r_3 w8 => ∃ x3 : Bool, r_3 = .bool x3 ∧
    S2 w8 ∧
    Br x3
      (IdxVC x0A x0n 44 0 fun a1 =>
      Ip6V.ex fun h4 => (∀ w' : World, S2 w' → CellsAt w' a1 0 h4.cells) ∧
      Ip6V.ex fun h5 => (∀ w' : World, S2 w' → CellsAt w' ⟨g1, 0, none⟩ 0 h5.cells) ∧
      Calls Tryd.prog 25 #[h4.val, h5.val] w8 (onRet (fun r_4 w9 => ∃ x4 : Bool, r_4 = .bool x4 ∧
      S2 w9 ∧
      R (.returned (.bool x4)) w9)
        (fun _ _ => False)))
      (R (.returned (.bool false)) w8))
      (fun _ _ => False)))
    (LoopVC (S := (Option Addr × Nat × Nat) × Int) (fun s_ w10 K1018 => weirlaw13_SplitWhole6_L1018 R id g1 x0A x0n s_.1.1 s_.1.2.1 s_.1.2.2 s_.2 w10 K1018) ((none, 0, 0), 0) w6)
set_option maxRecDepth 100000 in
def weirlaw13_SplitWhole6_VC (h : Ip6V) (mtu : Int) (id : Int) (w : World) (R : Ending → World → Prop) : Prop :=
  NewVC w (.cells h.cells.toArray 44) fun g1 w1 =>
  Ip6V.ex fun h1 => CellsAt w1 ⟨g1, 0, none⟩ 0 h1.cells ∧
  Calls Tryd.prog 20 #[h1.val, .int .i64 mtu, .int .i64 id] w1 (onRet (fun r_ w2 => ∃ (x0A : Option Addr) (x0n x0c : Nat), ∃ x1 : Int, r_ = .tuple #[.slice x0A x0n x0c, .int .i64 x1] ∧
  Calls Tryd.prog 13 #[.int .i64 x1] w2 (onRet (fun r_1 w3 => ∃ x : Int, r_1 = .int .i64 x ∧
  Br (decide (x ≠ 0))
    (Calls Tryd.prog 14 #[] w3 (onRet (fun r_2 w4 => ∃ x2 : Bool, r_2 = .bool x2 ∧
    R (.returned (.bool x2)) w4)
      (fun ch2 w4 => R (.panicked ch2) w4)))
    (Br (decide ((x0n : Int) = 0))
    (R (.returned (.bool false)) w3)
    (JoinVC (S := Bool) (fun J62 =>
      DrawVC w3 fun S1 w5 =>
      Br (decide ((x0n : Int) = 1))
        (IdxVC x0A x0n 44 0 fun a =>
        FragV.ex fun h2 => (∀ w' : World, S1 w' → CellsAt w' (a.add 38) 0 h2.cells) ∧
        FragV.ex fun h3 => (∀ w' : World, S1 w' → CellsAt w' ⟨g1, 38, none⟩ 0 h3.cells) ∧
        J62 (FragV.beq h2 h3) w5)
        (J62 false w5))
    (fun s_ w6 => weirlaw13_SplitWhole6_J62 R id g1 x0A x0n s_ w6))))
    (fun ch1 w3 => R (.panicked ch1) w3)))
    (fun ch w2 => R (.panicked ch) w2))
def weirlaw13_SplitWhole6_H : Hints := [(62, [(43, .bool)]), (1018, [(9, .slice), (10, .int .i64)]), (65530, [(17, .int .i64)])]
set_option maxRecDepth 100000 in
theorem weirlaw13_SplitWhole6_of (h : Ip6V) (mtu : Int) (id : Int) (w : World) (R : Ending → World → Prop) (hvc_ : weirlaw13_SplitWhole6_VC h mtu id w R) :
    Calls Tryd.prog 11 #[h.val, .int .i64 mtu, .int .i64 id] w R :=
  calls_of_wpc callOk mixedOk (H := weirlaw13_SplitWhole6_H) (args := [h.val, .int .i64 mtu, .int .i64 id]) (fn := Tryd.f11) (c := bodyOf Tryd.f11) Tryd.func11 rfl (Nat.le_of_ble_eq_true rfl)
    (Eq.mp (by kernel_rfl : weirlaw13_SplitWhole6_VC h mtu id w R = wpc Tryd.prog callF Tryd.f11.ntmps weirlaw13_SplitWhole6_H 1 (bodyOf Tryd.f11) (argEnv 0 [h.val, .int .i64 mtu, .int .i64 id]) [] w (finish Tryd.prog callF Tryd.f11.results.toList R)) hvc_)
end N6
end Go.Proofs.YteppichfkeknbaaDoor
/- SplitWhole6: the parts are bytes of which Chain reads the headers that were not kept, Next and Data. -/
namespace Go.Proofs.YteppichfkeknbaaDoor
namespace N6
open Go.Eng Go.RowKit
def Chained6 (w : World) (r : List ExtD × Int × List Int × Int) (e : Ending) (w' : World) : Prop := ∃ (se sd : Sl) (xs : List ExtR) (data : List Int), e = .returned (.tuple #[se.val, .int .i64 r.2.1, sd.val, .int .i64 r.2.2.2]) ∧ xs.map ExtR.d = r.1 ∧ data = r.2.2.1 ∧
    ExtsAt w' se xs ∧ BytesAt w' sd data ∧ Ext w w'
section
variable {w : World} {s : Sl} {l : List Int}
theorem ChainRead.at {next : Int} (hB : BytesAt w s l) {e : Ending} {w' : World} (h : ChainRead w s l (chainS next l) e w') : Chained6 w (chained next l) e w' := by
  obtain ⟨se, sd, xs, H, hn, hm⟩ := h
  unfold chained
  cases hp : chainS next l with
  | error er =>
    rw [hp] at hm
    obtain ⟨rfl, rfl, rfl, rfl, he⟩ := hm
    exact ⟨Sl.z, Sl.z, [], [], rfl, rfl, rfl, ExtsAt.nil _ _ _, BytesAt.nil _ _ _, H.restOf 0 rfl⟩
  | ok t =>
    rw [hp] at hm
    obtain ⟨rfl, hA, hd⟩ := hm
    have hp' : walkS l next true = .ok t ∧ (0 ≤ next ∧ next ≤ 255) := by
      unfold chainS at hp
      split at hp
      · cases hp
      · split at hp
        · cases hp
        · exact ⟨hp, by omega⟩
    have hB' := hB.ext (H.restOf 0 rfl)
    obtain ⟨i1, i2, i3, i4⟩ := walkS_inside hB.bts hp'.2 hp'.1
    have hdata := hB'.win (p := t.p) (n := l.length - t.p) (by omega)
    rw [bpart_end i2] at hdata
    have hal := hA.len
    exact ⟨se, sd, xs, l.drop t.p, rfl, hA.map_eq fun x r h => h.d, rfl, extsAt_read (b := w.heap.size) (fun f hf => H.mem (List.mem_cons_of_mem _ hf)) hB' hA i1 hn.symm (by omega), by rw [hd]; exact hdata, H.restOf 0 rfl⟩
theorem chain_at {next : Int} (hB : BytesAt w s l) (hK : Kn w) : Calls Tryd.prog 42 #[.int .i64 next, s.val] w (Chained6 w (chained next l)) := (chain_spec hB hK).mono fun _ _ h => h.at hB
end
section
variable {w : World} {Γ : List Fct}
theorem appEs (H : Sep Γ w) (i : Nat) {b n c m : Nat} {A A' : Option Addr} {xs : List Value} {rs : List ExtR} {c' : Nat} (hi : Γ[i]? = some (Fct.own b 80 3 (.slice A n c) n xs)) (hs : Cells w A' (rs.map fun r => r.v.cells).flatten) (hl : rs.length = m) (hn : n + m ≤ 1000000000) (hb : b ≤ w.heap.size)
    {F : Option Addr → Nat → Nat → World → Prop} (h : ∀ A2 c2 w', Sep (Γ.set i (Fct.own b 80 3 (.slice A2 (n + m) c2) (n + m) (xs ++ (rs.map fun r => r.v.cells).flatten))) w' → n + m ≤ c2 → F A2 (n + m) c2 w') :
    AppVC Tryd.prog #[40, 40] 40 (.slice A n c) (.slice A' m c') w F :=
  AppVC.sep H i Tryd.underlying40 tE rfl (by decide) hi hs (by
    subst hl
    clear hs h hn
    induction rs with
    | nil => rfl
    | cons x l ih => simp only [List.map_cons, List.flatten_cons, List.length_append, ih, List.length_cons]; show 3 + _ = _; omega) (fun u hu => by
    obtain ⟨cs, hcs, hu⟩ := List.mem_flatten.1 hu
    obtain ⟨r, _, rfl⟩ := List.mem_map.1 hcs
    exact r.v.one u hu) (by omega) (by decide) hb h
theorem exts_cells {s : Sl} {rs : List ExtR} (h : ExtsAt w s rs) : Cells w s.A (rs.map fun r => r.v.cells).flatten := Recs.cells (size := 3) (fun r hr => by
  obtain ⟨x, _, rfl⟩ := List.mem_map.1 hr; rfl) h.recs
theorem exts_row {b : Nat} {s : Sl} {rs : List ExtR} (ho : w.ownsRow b 80 3 s.val s.n (rs.map fun r => r.v.cells).flatten) (hl : rs.length = s.n) (hs : s.n ≤ 4000000) (h1 : ∀ r ∈ rs, OptsAt w r.v.opts r.opts) (h2 : ∀ r ∈ rs, BytesAt w r.v.data r.data) : ExtsAt w s rs := by
  refine ⟨hl, own_le (s := s) ho, hs, Recs.of_cells (by decide) (fun r hr => ?_) (own_cells (A := s.A) (c := s.k) ho), h1, h2⟩
  obtain ⟨x, _, rfl⟩ := List.mem_map.1 hr; rfl
end
section
variable {w : World}
set_option maxHeartbeats 4000000 in
theorem whole6_tail {h : Ip6V} {es : List ExtR} {data : List Int} {d : Ip6D} {s : Sl} {rs : List Ip6R} {r0 : Ip6R} {A1 : Option Addr} {c1 g1 : Nat} {w2 w5 : World} {K : (Option Addr × Nat × Nat) × Int → World → Prop} {id i : Int} (hd : d = h.d es data) (hA : Ip6At w2 h es data) (hK : Kn w2) (hat : Ip6sAt w2 s rs) (hr0 : rs[0]? = some r0) (h2 : 2 ≤ s.n)
    (he : r0.exts.map ExtR.d = d.exts.take (keptS d.exts)) (hn : r0.v.next = firstR d) (hc : chained (firstR d) (rest6 d) = (d.exts.drop (keptS d.exts), d.next, d.data, 0)) (hR : Bts (rest6 d)) (hRn : (rest6 d).length ≤ 65535) (hb1 : Blk w2 g1 44 h.cells) (hE0 : Ext w w2) (hge : ¬ i < (s.n : Int))
    (H : Sep [Fct.rest w2 None, ownB w2.heap.size (.slice A1 (rest6 d).length c1) (rest6 d).length (rest6 d)] w5) :
    weirlaw13_SplitWhole6_L1018 (fun e w' => e = .returned (.bool true) ∧ Ext w w') id g1 s.A s.n A1 (rest6 d).length c1 i w5 K := by
  unfold weirlaw13_SplitWhole6_L1018
  refine Br.no hge ?_
  refine (hat.ext (H.restOf 0 rfl)).idx hr0 fun a7 ha7 => ⟨_, cells_get ha7 42 rfl, ?_⟩
  have hrow : BytesAt w5 ⟨A1, (rest6 d).length, c1⟩ (rest6 d) := bytesAt_of (s := ⟨A1, (rest6 d).length, c1⟩) (b := w2.heap.size) (H.own 1 rfl) ⟨by show (rest6 d).length ≤ 4000000; omega, hR⟩
  rw [hn]
  refine (chain_at (next := firstR d) hrow (hK.ext (H.restOf 0 rfl))).mono ?_
  rintro _ w20 ⟨se, sd, xs, dt, rfl, hxs, hdt, hX, hD, hE20⟩
  rw [hc] at hxs hdt
  have H := H.ext hE20
  rw [hc]
  refine ⟨_, _, _, _, _, _, _, _, rfl, ?_⟩
  refine num_spec.mono ?_
  rintro _ w21 ⟨hw21, rfl⟩
  subst w21
  refine ⟨_, rfl, Br.no (fun x => x rfl) ⟨_, (hb1.ext (H.restOf 0 rfl)).cell 42, Br.no (fun x => x (by rw [hd]; rfl)) ⟨_, _, _, (hb1.ext (H.restOf 0 rfl)).cell 43, ?_⟩⟩⟩
  refine (alike7_spec (s := sd) (t := h.data) hD (hA.data.ext (H.restOf 0 rfl))).mono ?_
  rintro _ w22 ⟨hw22, rfl⟩
  subst w22
  have hdd : dt = data := by rw [hdt, hd]; rfl
  rw [decide_eq_true hdd]
  refine ⟨_, rfl, Br.f rfl ((hat.ext (H.restOf 0 rfl)).idx hr0 fun a8 ha8 => ⟨_, _, _, cells_get ha8 37 rfl, ?_⟩)⟩
  have hr0A := (hat.ext (H.restOf 0 rfl)).each r0 (List.mem_of_getElem? hr0)
  have l0 := hr0A.exts.len
  have s0 := hr0A.exts.small
  have l1 := hX.len
  have s1 := hX.small
  have hdl : d.exts.length = es.length := by rw [hd]; show (es.map ExtR.d).length = _; rw [List.length_map]
  have hel := hA.exts.len
  have hes := hA.exts.small
  have htot : r0.exts.length + xs.length = es.length := by
    have e1 := congrArg List.length he
    have e2 := congrArg List.length hxs
    have := keptS_le d.exts
    simp only [List.length_map, List.length_take, List.length_drop] at e1 e2
    omega
  have K := (Sep.start0 w20).nil w20.heap.size 80 3
  refine appEs K 1 rfl (exts_cells hr0A.exts) l0 (by omega) (Nat.le_refl _) fun A2 c2 w23 K _ => ?_
  have hE23 := K.restOf 0 rfl
  refine appEs K 1 rfl (exts_cells (hX.ext hE23)) l1 (by omega) hE23.size fun A3 c3 w24 K _ => ?_
  have hE24 := K.restOf 0 rfl
  have hcat : ExtsAt w24 ⟨A3, 0 + r0.v.exts.n + se.n, c3⟩ (r0.exts ++ xs) := by
    refine exts_row (b := w20.heap.size) (s := ⟨A3, 0 + r0.v.exts.n + se.n, c3⟩) ?_ (by rw [List.length_append]; show _ = 0 + r0.v.exts.n + se.n; omega) (by show 0 + r0.v.exts.n + se.n ≤ 4000000; omega) (fun r hr => ?_) fun r hr => ?_
    · have := K.own 1 rfl
      rw [List.map_append, List.flatten_append]
      exact this
    · rcases List.mem_append.1 hr with hr | hr
      · exact (hr0A.exts.opts r hr).ext hE24
      · exact (hX.opts r hr).ext hE24
    · rcases List.mem_append.1 hr with hr | hr
      · exact (hr0A.exts.data r hr).ext hE24
      · exact (hX.data r hr).ext hE24
  have hX24 := hX.ext hE24
  have hA24 := (hA.ext (H.restOf 0 rfl)).ext hE24
  have hb24 := (hb1.ext (H.restOf 0 rfl)).ext hE24
  have hW24 := ((H.restOf 0 rfl)).trans hE24
  refine LoopVC.of (fun st w' => w' = w24 ∧ ∃ j : Nat, st = (j : Int) ∧ j ≤ se.n) (fun st _ => ((se.n : Int) - st).toNat) ⟨rfl, 0, rfl, Nat.zero_le _⟩ ?_
  rintro _ w25 ⟨hw25, j, rfl, hj⟩
  subst w25
  unfold weirlaw13_SplitWhole6_L65530
  refine Br.dec (fun hlt => ?_) fun hge => ?_
  · have hjl : j < xs.length := by omega
    have hxj : xs[j]? = some xs[j] := List.getElem?_eq_getElem hjl
    refine ExtsAt.idxD (S := fun w' => w' = w24) (s := se) rfl (fun w' e => by subst e; exact hX24) hxj fun a ha => ⟨_, c0 (ha w24 rfl), Br.no (fun h43 => ?_) ?_⟩
    · refine keptS_drop d.exts xs[j].d ?_ h43
      have hm : xs[j].d ∈ xs.map ExtR.d := List.mem_map.2 ⟨_, List.getElem_mem hjl, rfl⟩
      rw [hxs] at hm
      exact hm
    · rw [w64 (by omega) (by omega)]
      exact ⟨⟨rfl, j + 1, by omega, by omega⟩, by omega⟩
  · refine (started_spec (hK.ext hW24)).mono ?_
    rintro _ w26 ⟨hE26, rfl⟩
    refine ⟨_, rfl, Br.t rfl (Br.yes (by omega) ⟨_, _, _, (hb24.ext hE26).cell 37, ?_⟩)⟩
    refine (sameExts7_spec (s := ⟨A3, 0 + r0.v.exts.n + se.n, c3⟩) (t := h.exts) (hcat.ext hE26) (hA24.exts.ext hE26)).mono ?_
    rintro _ w27 ⟨x, rfl, hx, hE27⟩
    have hxt := hx.2 (by
      rw [List.map_append, he, hxs, List.take_append_drop, hd]; rfl)
    subst hxt
    exact ⟨_, rfl, rfl, hE0.trans (hW24.trans (hE26.trans hE27))⟩
set_option maxHeartbeats 4000000 in
theorem whole6_law {h : Ip6V} {es : List ExtR} {data : List Int} {mtu id : Int} (hA : Ip6At w h es data) (hK : Kn w) : Calls Tryd.prog 11 #[h.val, .int .i64 mtu, .int .i64 id] w fun e w' => e = .returned (.bool true) ∧ Ext w w' := by
  refine weirlaw13_SplitWhole6_of h mtu id w _ ?_
  unfold weirlaw13_SplitWhole6_VC
  refine NewVC.sep (Sep.start0 w) fun g1 w1 H => Ip6V.of h ⟨H.at 1 rfl, ?_⟩
  refine (split6_spec (mtu := mtu) (id := id) (hA.ext (H.restOf 0 rfl)) (hK.ext (H.restOf 0 rfl))).mono ?_
  intro e w2 hc
  obtain ⟨s, rs, rfl, hrs, hat, hE2⟩ := hc.at
  have H := H.ext hE2
  have hE0 := H.restOf 0 rfl
  have hb1 := H.blk 1 rfl
  refine ⟨_, _, _, _, rfl, ?_⟩
  refine num_spec.mono ?_
  rintro _ w3 ⟨hw3, rfl⟩
  subst w3
  have hsn := hat.len
  have hsm := hat.small
  refine ⟨_, rfl, Br.dec (fun hne => ?_) fun heq => ?_⟩
  · refine (started_spec (hK.ext hE0)).mono ?_
    rintro _ w4 ⟨hE4, rfl⟩
    exact ⟨_, rfl, rfl, hE0.trans hE4⟩
  have heq : (split6S (h.d es data) mtu id).2 = 0 := by omega
  obtain ⟨d, hd⟩ : ∃ d : Ip6D, d = h.d es data := ⟨_, rfl⟩
  rw [← hd] at heq hrs
  obtain ⟨f1, m1, m2, i1, i2, hsp⟩ := split6_fit heq
  have hA2 := hA.ext hE0
  rcases hsp with ⟨_, hsp⟩ | ⟨hfr, hlong, hhd, hsp, hfit, hne⟩
  · rw [hsp] at hrs
    obtain ⟨r0, rfl, hr0⟩ := one_of hrs
    have hr0 : r0.v.d r0.exts r0.data = d := hr0
    have hs1 : s.n = 1 := hat.len.symm
    have hfrag : r0.v.frag = h.frag := by
      have := congrArg Ip6D.frag hr0
      rw [hd] at this; exact this
    refine Br.no (by omega) (JoinVC.of (fun st w' => st = true ∧ Ext w2 w') ?_ ?_)
    · refine DrawVC.of (fun w' => Ip6sAt w' s [r0] ∧ Blk w' g1 44 h.cells) fun w5 hE5 _ => ⟨⟨hat.ext hE5, hb1.ext hE5⟩, Br.yes (by omega) ?_⟩
      refine Ip6sAt.idxD (S := fun w' => Ip6sAt w' s [r0] ∧ Blk w' g1 44 h.cells) ⟨hat.ext hE5, hb1.ext hE5⟩ (fun w' h => h.1) (i := 0) (r := r0) rfl fun a ha => ?_
      exact FragV.of r0.v.frag ⟨fun w' hs => cells_part (ha w' hs) 38 4 rfl, FragV.of h.frag ⟨fun w' hs => cells_part (a := ⟨g1, 0, none⟩) (CellsAt.blk hs.2) 38 4 rfl, frag_beq.2 hfrag, hE5⟩⟩
    rintro _ w6 ⟨rfl, hE6⟩
    unfold weirlaw13_SplitWhole6_J62
    refine Br.t rfl (DrawVC.of (fun w' => Ip6sAt w' s [r0] ∧ Blk w' g1 44 h.cells) fun w7 hE7 _ => ⟨⟨hat.ext (hE6.trans hE7), hb1.ext (hE6.trans hE7)⟩, ?_⟩)
    have hE7 := hE6.trans hE7
    refine (started_spec (hK.ext (hE0.trans hE7))).mono ?_
    rintro _ w8 ⟨hE8, rfl⟩
    have hE8 := hE7.trans hE8
    have hS : Ip6sAt w8 s [r0] ∧ Blk w8 g1 44 h.cells := ⟨hat.ext hE8, hb1.ext hE8⟩
    refine ⟨_, rfl, hS, Br.t rfl ?_⟩
    refine Ip6sAt.idxD (S := fun w' => Ip6sAt w' s [r0] ∧ Blk w' g1 44 h.cells) hS (fun w' h => h.1) (i := 0) (r := r0) rfl fun a ha => Ip6V.of r0.v ⟨ha, Ip6V.of h ⟨fun w' hs => CellsAt.blk hs.2, ?_⟩⟩
    refine (same6_spec (hS.1.each r0 (by simp)) (hA2.ext hE8)).mono ?_
    rintro _ w9 ⟨x, rfl, hx, hE9⟩
    have hxt := hx.2 (hr0.trans hd)
    subst hxt
    exact ⟨_, rfl, ⟨hat.ext (hE8.trans hE9), hb1.ext (hE8.trans hE9)⟩, rfl, hE0.trans (hE8.trans hE9)⟩
  obtain ⟨xs, hxs⟩ : ∃ xs, xs = parts (hd6 d) (hd6 d) mtu.toNat (rest6 d).length 0 := ⟨_, rfl⟩
  rw [hsp] at hrs
  rw [← hxs] at hrs hfit hne
  have hrs : rs.map Ip6R.d = xs.map (piece6 d id) := hrs
  have hlen : rs.length = xs.length := by have := congrArg List.length hrs; simpa using this
  have h2 := two6 f1 hfr hlong m1 hhd hfit hne
  obtain ⟨hRn, _, hchain⟩ := whole6 f1 hfr
  have hrAll : ∀ i (hi : i < rs.length), rs[i].d = piece6 d id (xs[i]'(by omega)) := fun i hi => by
    have := congrArg (·[i]?) hrs
    simpa [List.getElem?_map, List.getElem?_eq_getElem hi, List.getElem?_eq_getElem (show i < xs.length by omega)] using this
  have h0l : 0 < rs.length := by omega
  have hr0 : rs[0]? = some rs[0] := List.getElem?_eq_getElem h0l
  have hr0d := hrAll 0 h0l
  have he0 : rs[0].exts.map ExtR.d = d.exts.take (keptS d.exts) := congrArg Ip6D.exts hr0d
  have hn0 : rs[0].v.next = firstR d := congrArg Ip6D.next hr0d
  have hRb : Bts (rest6 d) := by
    rw [hd]
    unfold rest6
    refine Bts.append (headersS_bts fun x hx => ?_) hA.data.bts
    obtain ⟨y, hy, rfl⟩ := List.mem_map.1 (List.mem_of_mem_drop hx)
    exact ⟨(hA.exts.data y hy).bts, fun o ho => by
      obtain ⟨z, hz, rfl⟩ := List.mem_map.1 ho
      exact ((hA.exts.opts y hy).each z hz).bts⟩
  refine Br.no (by omega) (JoinVC.of (fun st w' => st = false ∧ Ext w2 w') ?_ ?_)
  · exact DrawVC.of (fun w' => True) fun w5 hE5 _ => ⟨trivial, Br.no (by omega) ⟨rfl, hE5⟩⟩
  rintro _ w6 ⟨rfl, hE6⟩
  unfold weirlaw13_SplitWhole6_J62
  refine Br.f rfl ?_
  refine LoopVC.of (fun st w' => ∃ (i p : Nat), st.2 = i ∧ i ≤ xs.length ∧ Fit (hd6 d) (hd6 d) mtu.toNat (rest6 d).length p (xs.drop i) ∧ p ≤ (rest6 d).length ∧ st.1.2.1 = p ∧ Sep [Fct.rest w2 None, ownB w2.heap.size (.slice st.1.1 st.1.2.1 st.1.2.2) st.1.2.1 ((rest6 d).take p)] w') (fun st _ => ((xs.length : Int) - st.2).toNat)
    ⟨0, 0, rfl, Nat.zero_le _, hfit, Nat.zero_le _, rfl, ((Sep.start0 w2).ext hE6).nil _ _ _⟩ ?_
  rintro ⟨⟨A1, n1, c1⟩, _⟩ w10 ⟨i, p, rfl, hi, hF, hp, hn1, H⟩
  simp only at hn1
  subst hn1
  show weirlaw13_SplitWhole6_L1018 _ id g1 s.A s.n A1 n1 c1 (i : Int) w10 _
  rcases Nat.lt_or_ge i xs.length with hlt | hge
  · unfold weirlaw13_SplitWhole6_L1018
    refine Br.yes (by omega) ?_
    have hri : rs[i]? = some rs[i] := List.getElem?_eq_getElem (by omega)
    have hrd := hrAll i (by omega)
    rw [List.drop_eq_getElem_cons hlt] at hF
    obtain ⟨k1, k2, k3, k4, k5, k6, k7, k8⟩ := hF
    have hdata : rs[i].data = ((rest6 d).drop n1).take xs[i].2 := by
      have := congrArg Ip6D.data hrd
      rw [← k1]; exact this
    have hrAt := hat.each rs[i] (List.getElem_mem _)
    have hrl : rs[i].v.data.n = xs[i].2 := by
      rw [← hrAt.data.len, hdata, List.length_take, List.length_drop]; omega
    have hi1 : IntKind.i64.wrap ((i : Int) + 1) = ((i + 1 : Nat) : Int) := by rw [w64 (by omega) (by omega)]; omega
    refine Ip6V.of h ⟨CellsAt.blk (hb1.ext (H.restOf 0 rfl)), NewVC.sep H fun g2 w11 H => ?_⟩
    have H := H.front
    refine Stores.sep H 0 rfl (Ip6V.one _) (Nat.le_refl _) (splice_all rfl) fun w12 H => ?_
    refine (hat.ext (H.restOf 1 rfl)).idx hr0 fun a2 ha2 => ⟨_, _, _, cells_get ha2 37 rfl, SetVC.sep H 0 rfl (show 37 < 44 by decide) fun w13 H => ?_⟩
    refine (hat.ext (H.restOf 1 rfl)).idx hr0 fun a3 ha3 => ⟨_, cells_get ha3 42 rfl, SetVC.sep H 0 rfl (show 42 < 44 by decide) fun w14 H => ?_⟩
    refine (hat.ext (H.restOf 1 rfl)).idx hri fun a4 ha4 => ⟨_, _, _, cells_get ha4 43 rfl, SetVC.sep H 0 rfl (show 43 < 44 by decide) fun w15 H => ?_⟩
    rw [hi1]
    obtain ⟨hq, hhq⟩ : ∃ hq : Ip6V, hq = { h with exts := rs[0].v.exts, next := rs[0].v.next, data := rs[i].v.data, frag := ⟨true, decide (((i + 1 : Nat) : Int) < (s.n : Int)), id, n1⟩ } := ⟨_, rfl⟩
    refine Stores.sep H 0 rfl (cs' := hq.cells) (FragV.one ⟨true, decide (((i + 1 : Nat) : Int) < (s.n : Int)), id, n1⟩) (show 38 + 4 ≤ 44 by decide) (by rw [hhq]; rfl) fun w16 H => ?_
    have H : Sep [Fct.blk g2 44 hq.cells, Fct.rest w2 None, ownB w2.heap.size (.slice A1 n1 c1) n1 ((rest6 d).take n1)] w16 := H
    refine DrawVC.sep H (fun w' => Ip6sAt w' s rs ∧ Blk w' g2 44 hq.cells) fun w17 H => ?_
    have hS : Ip6sAt w17 s rs ∧ Blk w17 g2 44 hq.cells := ⟨hat.ext (H.restOf 1 rfl), H.blk 0 rfl⟩
    refine ⟨hS, Ip6sAt.idxD (S := fun w' => Ip6sAt w' s rs ∧ Blk w' g2 44 hq.cells) hS (fun w' h => h.1) hri fun a5 ha5 => Ip6V.of rs[i].v ⟨ha5, Ip6V.of hq ⟨fun w' h => CellsAt.blk h.2, ?_⟩⟩⟩
    have hqA : Ip6At w17 hq rs[0].exts rs[i].data := by
      rw [hhq]
      exact ⟨(hS.1.each rs[0] (List.getElem_mem _)).exts, (hS.1.each rs[i] (List.getElem_mem _)).data, hA.src, hA.dst⟩
    have hmore : decide (xs[i].1 + xs[i].2 < (rest6 d).length) = decide (((i + 1 : Nat) : Int) < (s.n : Int)) := by
      rcases Nat.lt_or_ge (i + 1) xs.length with hl | hl
      · have := k7 (fun e => by have := congrArg List.length e; rw [List.length_drop] at this; simp at this; omega)
        rw [decide_eq_true (by omega), decide_eq_true (by omega)]
      · have := k6 (List.drop_of_length_le hl)
        rw [decide_eq_false (by omega), decide_eq_false (by omega)]
    have hqd : rs[i].v.d rs[i].exts rs[i].data = hq.d rs[0].exts rs[i].data := by
      have e1 : rs[i].v.cls = d.cls := congrArg Ip6D.cls hrd
      have e2 : rs[i].v.flow = d.flow := congrArg Ip6D.flow hrd
      have e3 : rs[i].v.hop = d.hop := congrArg Ip6D.hop hrd
      have e4 : rs[i].v.src = d.src := congrArg Ip6D.src hrd
      have e5 : rs[i].v.dst = d.dst := congrArg Ip6D.dst hrd
      have e6 : rs[i].exts.map ExtR.d = d.exts.take (keptS d.exts) := congrArg Ip6D.exts hrd
      have e7 : rs[i].v.frag = ⟨true, decide (xs[i].1 + xs[i].2 < (rest6 d).length), id, xs[i].1⟩ := congrArg Ip6D.frag hrd
      have e8 : rs[i].v.next = firstR d := congrArg Ip6D.next hrd
      rw [hd] at e1 e2 e3 e4 e5
      rw [hmore, k1] at e7
      rw [ip6_key, hhq]
      exact ⟨e1, e2, e3, e4, e5, e6.trans he0.symm, e7, e8.trans hn0.symm, rfl⟩
    refine (same6_spec (hS.1.each _ (List.getElem_mem _)) hqA).mono ?_
    rintro _ w18 ⟨x, rfl, hx, hE18⟩
    have hxt := hx.2 hqd
    subst hxt
    have H := H.ext hE18
    refine ⟨_, rfl, ⟨hat.ext (H.restOf 1 rfl), H.blk 0 rfl⟩, Br.f rfl ((hat.ext (H.restOf 1 rfl)).idx hri fun a6 ha6 => ⟨_, _, _, cells_get ha6 43 rfl, ?_⟩)⟩
    have hz := (H.restOf 1 rfl).size
    refine appB (m := rs[i].v.data.n) (ys := rs[i].data) H 2 rfl ((hrAt.ext (H.restOf 1 rfl)).data.cells) hrAt.data.len (show n1 + rs[i].v.data.n ≤ 140737488355328 by omega) (by omega) fun A2 c2 w19 H hc2 => ?_
    refine ⟨⟨i + 1, n1 + rs[i].v.data.n, rfl, by omega, by rw [hrl]; exact k8, by omega, rfl, ?_⟩, by show ((xs.length : Int) - ((i + 1 : Nat) : Int)).toNat < ((xs.length : Int) - (i : Int)).toNat; omega⟩
    have H := H.sub (Γ' := [Fct.rest w2 None, ownB w2.heap.size (.slice A2 (n1 + rs[i].v.data.n) c2) (n1 + rs[i].v.data.n) ((rest6 d).take n1 ++ rs[i].data)]) (.cons _ (.cons_cons _ (.cons_cons _ .slnil)))
    rw [hdata, hrl, ← List.take_add] at H
    rw [hrl]
    exact H
  · have hin : i = xs.length := by omega
    subst hin
    rw [List.drop_length] at hF
    have hF : n1 = (rest6 d).length := hF
    subst hF
    rw [List.take_length] at H
    exact whole6_tail hd hA2 (hK.ext hE0) hat hr0 (by omega) he0 hn0 hchain hRb hRn hb1 hE0 (by omega) H
end
end N6
end Go.Proofs.YteppichfkeknbaaDoor
