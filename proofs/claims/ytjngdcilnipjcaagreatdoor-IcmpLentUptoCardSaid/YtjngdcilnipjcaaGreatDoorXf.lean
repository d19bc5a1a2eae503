/- IcmpLent: bytes and messages that were handed out, asked for twice and left as they were. -/
import Derived.Test.YtjngdcilnipjcaaGreatDoorXe
import Derived.Test.YtjngdcilnipjcaaGreatDoorBz
import Derived.Test.YtjngdcilnipjcaaGreatDoorXc
import Derived.Test.YtjngdcilnipjcaaGreatDoorBm
namespace Go.Proofs.YtjngdcilnipjcaaGreatDoor
namespace N6
open Go.Eng Go.RowKit
abbrev rowL (b : Nat) (s : Sl) (L : List Int) : Fct := Fct.row b 5 1 s.A s.k s.n (L.map (.int .u8))
section
variable {w w' w0 : World} {Γ : List Fct} {b : Nat}
theorem own_push {A : Option Addr} {n k : Nat} {L : List Int} (H : Sep Γ w) (hE : Ext w w') (ho : w'.ownsRow w.heap.size 5 1 (.slice A n k) n (L.map (.int .u8))) (hb : b ≤ w.heap.size) : Sep (rowL b ⟨A, n, k⟩ L :: Γ) w' :=
 (H.push hE (rowL b ⟨A, n, k⟩ L) ((Row.of_own ho).low hb) fun _ hk => (Row.of_own ho).lt hk).front
def pIcm (n : NDV) (s : Sl) : IcmV := if putE n = 0 then ⟨6, 134 + n.kind, 0, restND n, s⟩ else ⟨0, 0, 0, 0, s⟩
theorem putM_val (n : NDV) (A : Option Addr) (k : Nat) : (putM n A k).val = (pIcm n ⟨A, (putD n).length, k⟩).val := by
 unfold putM pIcm putD
 by_cases h : putE n = 0
 ·simp only [h, if_true]; rfl
 ·simp only [h, if_false]; rfl
theorem pIcm_data (n : NDV) (s : Sl) : (pIcm n s).data = s := by unfold pIcm; split <;> rfl
theorem pIcm_same (n : NDV) (s s' : Sl) : (pIcm n s).v = (pIcm n s').v ∧ (pIcm n s).t = (pIcm n s').t ∧ (pIcm n s).c = (pIcm n s').c ∧ (pIcm n s).r = (pIcm n s').r := by unfold pIcm; split <;> exact ⟨rfl, rfl, rfl, rfl⟩
theorem putD_len (n : NDV) : (putD n).length ≤ 24 := by
 unfold putD
 split
 ·rw [dataND_len]; split <;> decide
 ·exact Nat.zero_le _
theorem sameI_spec {m n : IcmV} {L : List Int} (h : m.v = n.v ∧ m.t = n.t ∧ m.c = n.c ∧ m.r = n.r) (hL : Cells w m.data.A (L.map (.int .u8))) (hK : Cells w n.data.A (L.map (.int .u8))) (lL : L.length = m.data.n) (lK : L.length = n.data.n) (h1 : L.length ≤ 100000) :
  Calls Tryz.prog 20 #[m.val, n.val] w fun e w' => Ext w w' ∧ e = .returned (.bool true) := by
 refine (Go.Proofs.YtjngdcilnipjcaaGreatDoor.same8_spec (a := ⟨m.v, m.t, m.c, m.r, m.data.A, m.data.n, m.data.k⟩) (b := ⟨n.v, n.t, n.c, n.r, n.data.A, n.data.n, n.data.k⟩) (da := L) (db := L) hL hK lL lK (by show m.data.n ≤ _; omega)).mono ?_
 rintro _ w' ⟨hE, rfl⟩
 exact ⟨hE, by rw [decide_eq_true ⟨h.1, h.2.1, h.2.2.1, h.2.2.2, rfl⟩]⟩
theorem RComp.row {v : Int} {r : Option (Int × Int × Int × List Int)} {e : Ending} (h : RComp v w r e w') (H : Sep Γ w) (hb : b ≤ w.heap.size) :
  ∃ (m : IcmV) (L : List Int), e = .returned (.tuple #[m.val, .bool r.isSome]) ∧ IsMsg v r m L ∧ L.length = m.data.n ∧ Sep (rowL b m.data L :: Γ) w' := by
 obtain ⟨m, L, he, hm, hl, H, -⟩ := h.uni H hb
 exact ⟨m, L, he, hm, hl, H.winRow 0 rfl⟩
theorem shorter_spec {A : Option Addr} {n c : Nat} {bs : List Int} (hb : Cells w A (bs.map (.int .u8))) (hl : bs.length = n) (hc : n ≤ c) :
  Calls Tryz.prog 8 #[.slice A n c] w fun e w' => w' = w ∧ ∃ n', e = .returned (.slice A n' c) ∧ (bs.take 66000).length = n' ∧ Cells w A ((bs.take 66000).map (.int .u8)) := by
 refine weirlaw8_shorter_of A n c w _ ?_
 unfold weirlaw8_shorter_VC
 have h1 : Cells w A ((bs.take 66000).map (.int .u8)) := by have := hb.take 66000; rwa [← List.map_take] at this
 refine Br.dec (fun h => ⟨by omega, by omega, rfl, 66000, rfl, by rw [List.length_take]; omega, h1⟩) fun h => ⟨rfl, n, rfl, by rw [List.length_take]; omega, h1⟩
structure LentC where
 g1 : Nat
 g2 : Nat
 g3 : Nat
 g4 : Nat
 g5 : Nat
 g6 : Nat
 g7 : Nat
 g8 : Nat
 g9 : Nat
 g10 : Nat
 src : IPV
 dst : IPV
 m : IcmV
 t : TrbV
 h : Ip4V
 g : Ip6V
 n : NDV
 dL : List Int
 sS : Sl
 sL : List Int
 a : IcmV
 aL : List Int
 b : IcmV
 bL : List Int
 c : IcmV
 os : List OptR
 l4 : List Int
 es : List ExtR
 l6 : List Int
def LentC.fs (C : LentC) (b : Nat) : List Fct :=
  [Fct.blk C.g1 24 C.src.cells, Fct.blk C.g2 24 C.dst.cells, Fct.blk C.g3 27 C.m.cells, Fct.blk C.g4 29 C.t.cells, Fct.blk C.g5 32 C.h.cells, Fct.blk C.g6 37 C.g.cells, Fct.blk C.g7 41 C.n.cells,
   rowL b C.m.data C.dL, rowL b C.sS C.sL, rowL b C.a.data C.aL, Fct.blk C.g8 27 C.a.cells, rowL b C.b.data C.bL, Fct.blk C.g9 27 C.b.cells, rowL b C.c.data (putD C.n), Fct.blk C.g10 27 C.c.cells]
def IsNd (n : NDV) (m : IcmV) : Prop := m = pIcm n m.data ∧ m.data.n = (putD n).length
theorem IsNd.same {n : NDV} {m m' : IcmV} (h : IsNd n m) (h' : IsNd n m') : m.v = m'.v ∧ m.t = m'.t ∧ m.c = m'.c ∧ m.r = m'.r := by
 rw [h.1, h'.1]; exact pIcm_same _ _ _
theorem nd_row {n : NDV} {A : Option Addr} {k : Nat} (H : Sep Γ w) (hE : Ext w w') (ho : w'.ownsRow w.heap.size 5 1 (.slice A (putD n).length k) (putD n).length ((putD n).map (.int .u8))) (hb : b ≤ w.heap.size) :
  ∃ m : IcmV, (putM n A k).val = m.val ∧ IsNd n m ∧ Sep (rowL b m.data (putD n) :: Γ) w' := by
 refine ⟨pIcm n ⟨A, (putD n).length, k⟩, putM_val n A k, ⟨by rw [pIcm_data], by rw [pIcm_data]⟩, ?_⟩
 rw [pIcm_data]
 exact own_push H hE ho hb
def grOf (s : Sl) (L : List Int) : GR := ⟨s.A, s.n, s.k, L.map (.int .u8)⟩
structure LentOk (w0 : World) (C : LentC) : Prop where
 src : Bts C.src.bytes
 dst : Bts C.dst.bytes
 bts : Bts C.dL
 len : C.dL.length = C.m.data.n
 small : C.m.data.n ≤ 66000
 sS : C.sS.n = C.sL.length
 ser : C.sL = (serS ⟨C.m.v, C.m.t, C.m.c, C.m.r, C.m.data.A, C.m.data.n, C.m.data.k⟩ C.src C.dst C.dL).1
 slen : C.sL.length ≤ 70000
 four : Ip4At w0 C.h C.os C.l4
 fm : IsMsg 4 (comp4S C.t (C.h.d C.os C.l4)) C.a C.aL
 six : Ip6At w0 C.g C.es C.l6
 sm : IsMsg 6 (comp6S C.t (C.g.d C.es C.l6)) C.b C.bL
 alen : C.aL.length = C.a.data.n
 blen : C.bL.length = C.b.data.n
 nd : IsNd C.n C.c
 np : Bts C.n.p.bytes
 nm : Bts C.n.mac
 nk : -9223372036854775808 ≤ C.n.kind ∧ C.n.kind ≤ 9223372036854775807
 tb : Tb w0
 tab : Nd.Tab w0
 wd : Wd w0
 kn : Kn w0
theorem perm_rev {X Z : List Fct} : (Z ++ X.reverse).Perm (X ++ Z) := ((List.reverse_perm X).append_left Z).trans List.perm_append_comm
def LentAt (w0 : World) (C : LentC) (lA : Option Addr) (ln lc : Nat) (gs : List GR) (w : World) : Prop :=
 Sep (Fct.own w0.heap.size 25 1 (.slice lA ln lc) ln (gs.map GR.val) :: Fct.rest w0 None :: (C.fs w0.heap.size ++ gs.map (rawR w0.heap.size 5 1))) w
set_option maxHeartbeats 16000000 in
theorem lent_body {C : LentC} {x11 x110 : Int} {x12 x13 : Bool} {lA : Option Addr} {ln lc i : Nat} {gs : List GR} {K : (Option Addr × Nat × Nat) × Int → World → Prop} (ok : LentOk w0 C) (e11 : x11 = (serS ⟨C.m.v, C.m.t, C.m.c, C.m.r, C.m.data.A, C.m.data.n, C.m.data.k⟩ C.src C.dst C.dL).2)
  (hx12 : x12 = (comp4S C.t (C.h.d C.os C.l4)).isSome) (hx13 : x13 = (comp6S C.t (C.g.d C.es C.l6)).isSome) (e110 : x110 = putE C.n)
  (hi : i < 2) (hln : ln = 8 * i) (H : LentAt w0 C lA ln lc gs w)
  (hK : ∀ (A2 : Option Addr) (c2 : Nat) (gs' : List GR) (w' : World), gs'.length = 8 → (∀ r ∈ gs', r.n ≤ 100000) → LentAt w0 C A2 (ln + 8) c2 (gs ++ gs') w' → K ((A2, ln + 8, c2), ((i + 1 : Nat) : Int)) w') :
  weirlaw8_IcmpLent_L4090 (fun e w' => e = .returned (.bool true) ∧ Ext w0 w') C.g1 C.g2 C.g3 C.g4 C.g5 C.g6 C.g7 C.sS.A C.sS.n C.sS.k x11 x12 C.g8 x13 C.g9 x110 C.g10 lA ln lc (i : Int) w K := by
 unfold weirlaw8_IcmpLent_L4090
 unfold LentAt at H
 have hA4 := ok.four
 have hma := ok.fm
 have hA6 := ok.six
 have hmb := ok.sm
 have hlen4 := fun {m L} (h : IsMsg 4 (comp4S C.t (C.h.d C.os C.l4)) m L) => comp4_len h
 have hlen6 := fun {m L} (h : IsMsg 6 (comp6S C.t (C.g.d C.es C.l6)) m L) => comp6_len h
 obtain ⟨r4, hr4⟩ : ∃ r4, r4 = comp4S C.t (C.h.d C.os C.l4) := ⟨_, rfl⟩
 obtain ⟨r6, hr6⟩ : ∃ r6, r6 = comp6S C.t (C.g.d C.es C.l6) := ⟨_, rfl⟩
 rw [← hr4] at hma hx12
 rw [← hr6] at hmb hx13
 have hsm := ok.small
 have hslen := ok.slen
 have hput := putD_len C.n
 have e1 : IntKind.i64.wrap ((i : Int) + 1) = ((i + 1 : Nat) : Int) := by rw [w64 (by omega) (by omega)]; omega
 refine Br.yes (show (i : Int) < 2 by omega) ?_
 refine IPV.of C.src ⟨H.at 2 rfl, IPV.of C.dst ⟨H.at 3 rfl, IcmV.of C.m ⟨H.at 4 rfl, ?_⟩⟩⟩
 refine (Go.Proofs.YtjngdcilnipjcaaGreatDoor.serialise_spec (m := ⟨C.m.v, C.m.t, C.m.c, C.m.r, C.m.data.A, C.m.data.n, C.m.data.k⟩) (src := C.src) (dst := C.dst) (data := C.dL) (H.rowCells 9 rfl) ok.len ok.bts (by show C.m.data.n ≤ _; omega) ok.src ok.dst).mono ?_
 rintro _ w25 ⟨hE25, W, wc, rfl, ho⟩
 rw [← ok.ser] at ho ⊢
 have H := own_push H hE25 ho (H.restOf 1 rfl).size
 refine ⟨_, _, _, _, rfl, TrbV.of C.t ⟨H.at 6 rfl, Ip4V.of C.h ⟨H.at 7 rfl, ?_⟩⟩⟩
 have hE := H.restOf 2 rfl
 refine (Complain4_spec (t := C.t) (hA4.ext hE) (ok.tb.ext hE) (ok.tab.ext hE) (ok.wd.ext hE)).mono ?_
 intro e w26 hc
 rw [← hr4] at hc
 obtain ⟨m1, L1, rfl, hm1, l1, H⟩ := hc.r.row H hE.size
 refine onRet_is (IcmV.of m1 ⟨_, rfl, NewVC.sep H fun g11 w27 H => ?_⟩)
 refine Stores.sep H.front 0 rfl (cs' := m1.cells) (IcmV.one m1) (Nat.le_refl _) (splice_all rfl) fun w28 H => ?_
 refine TrbV.of C.t ⟨H.at 8 rfl, Ip4V.of C.h ⟨H.at 9 rfl, ?_⟩⟩
 have hE := H.restOf 4 rfl
 refine (Complain4_spec (t := C.t) (hA4.ext hE) (ok.tb.ext hE) (ok.tab.ext hE) (ok.wd.ext hE)).mono ?_
 intro e w29 hc
 rw [← hr4] at hc
 obtain ⟨m2, L2, rfl, hm2, l2, H⟩ := hc.r.row H hE.size
 refine onRet_is (IcmV.of m2 ⟨_, rfl, NewVC.sep H fun g12 w30 H => ?_⟩)
 refine Stores.sep H.front 0 rfl (cs' := m2.cells) (IcmV.one m2) (Nat.le_refl _) (splice_all rfl) fun w31 H => ?_
 refine TrbV.of C.t ⟨H.at 10 rfl, Ip6V.of C.g ⟨H.at 12 rfl, ?_⟩⟩
 have hE := H.restOf 6 rfl
 refine (Complain6_spec (t := C.t) (hA6.ext hE) (ok.tb.ext hE) (ok.tab.ext hE) (ok.kn.ext hE)).mono ?_
 intro e w32 hc
 rw [← hr6] at hc
 obtain ⟨m3, L3, rfl, hm3, l3, H⟩ := hc.r.row H hE.size
 refine onRet_is (IcmV.of m3 ⟨_, rfl, NewVC.sep H fun g13 w33 H => ?_⟩)
 refine Stores.sep H.front 0 rfl (cs' := m3.cells) (IcmV.one m3) (Nat.le_refl _) (splice_all rfl) fun w34 H => ?_
 refine ⟨_, _, _, _, _, _, _, _, _, _, _, _, _, _, _, _, _, _, _, _, _, _, _, _, _, _, _, _, H.at 15 rfl, ?_⟩
 have hE := H.restOf 8 rfl
 refine (Nd.PutND_spec ok.np ok.nm ok.nk (ok.tab.ext hE)).mono ?_
 rintro _ w35 ⟨hE35, A4, k4, rfl, ho⟩
 obtain ⟨m4, hv4, hm4, H⟩ := nd_row H hE35 ho hE.size
 rw [hv4]
 refine onRet_is (IcmV.of m4 ⟨_, rfl, NewVC.sep H fun g14 w36 H => ?_⟩)
 refine Stores.sep H.front 0 rfl (cs' := m4.cells) (IcmV.one m4) (Nat.le_refl _) (splice_all rfl) fun w37 H => ?_
 refine ⟨_, _, _, _, _, _, _, _, _, _, _, _, _, _, _, _, _, _, _, _, _, _, _, _, _, _, _, _, H.at 17 rfl, ?_⟩
 have hE := H.restOf 10 rfl
 refine (Nd.PutND_spec ok.np ok.nm ok.nk (ok.tab.ext hE)).mono ?_
 rintro _ w38 ⟨hE38, A5, k5, rfl, ho⟩
 obtain ⟨m5, hv5, hm5, H⟩ := nd_row H hE38 ho hE.size
 rw [hv5]
 refine onRet_is (IcmV.of m5 ⟨_, rfl, NewVC.sep H fun g15 w39 H => ?_⟩)
 refine Stores.sep H.front 0 rfl (cs' := m5.cells) (IcmV.one m5) (Nat.le_refl _) (splice_all rfl) fun w40 H => ?_
 refine gone4_spec.mono ?_
 rintro _ w41 ⟨hE41, rfl⟩
 have H := H.ext hE41
 refine onRet_is (Ip4V.of goneV4 ⟨rfl, ?_⟩)
 have hE := H.restOf 12 rfl
 refine (Complain4_spec (t := ⟨5, 0⟩) (gone4_at w41) (ok.tb.ext hE) (ok.tab.ext hE) (ok.wd.ext hE)).mono ?_
 intro e w42 hc
 have hgone : (comp4S ⟨5, 0⟩ (goneV4.d [] [])).isSome = true := by
  have := told4
  cases h : comp4S ⟨5, 0⟩ (goneV4.d [] []) with
  | none => rw [h] at this; cases this
  | some r => rfl
 obtain ⟨m6, L6, rfl, hm6, l6, H⟩ := hc.r.row H hE.size
 have hlen5 := comp4_len hm6
 rw [hgone]
 refine onRet_is (IcmV.of m6 ⟨_, rfl, NewVC.sep H fun g16 w43 H => ?_⟩)
 refine Stores.sep H.front 0 rfl (cs' := m6.cells) (IcmV.one m6) (Nat.le_refl _) (splice_all rfl) fun w44 H => ?_
 refine Nd.whom_spec.mono ?_
 rintro _ w45 ⟨hE45, rfl⟩
 have H := H.ext hE45
 refine ⟨_, _, _, _, _, _, _, _, _, _, _, _, _, _, _, _, _, _, _, _, _, _, _, _, _, _, _, _, rfl, ?_⟩
 have hE := H.restOf 14 rfl
 refine (Nd.PutND_spec (n := whomV) (by unfold Bts; decide) (by unfold Bts; decide) (by decide) (ok.tab.ext hE)).mono ?_
 rintro _ w46 ⟨hE46, A7, k7, rfl, ho⟩
 obtain ⟨m7, hv7, hm7, H⟩ := nd_row H hE46 ho hE.size
 have hwhom : putE whomV = 0 := by decide
 rw [hv7, hwhom]
 refine onRet_is (IcmV.of m7 ⟨_, rfl, NewVC.sep H fun g17 w47 H => ?_⟩)
 refine Stores.sep H.front 0 rfl (cs' := m7.cells) (IcmV.one m7) (Nat.le_refl _) (splice_all rfl) fun w48 H => ?_
 refine Br.no (fun x => x e11.symm) ?_
 refine (Go.Proofs.YtjngdcilnipjcaaGreatDoor.same_spec (xs := C.sL) (ys := C.sL) (H.rowCells 14 rfl) (H.rowCells 25 rfl) rfl ok.sS.symm (by omega)).mono ?_
 rintro _ w49 ⟨hE49, rfl⟩
 have H := H.ext hE49
 refine ⟨_, rfl, Br.f (by rw [decide_eq_true rfl]; rfl) (Br.f (by rw [hx12]; cases r4.isSome <;> rfl) (IcmV.of m1 ⟨H.at 12 rfl, IcmV.of C.a ⟨H.at 27 rfl, ?_⟩⟩))⟩
 refine (sameM_spec hm1 hma (H.rowCells 13 rfl) (H.rowCells 26 rfl) l1 ok.alen (hlen4 (by rw [← hr4]; exact hm1))).mono ?_
 rintro _ w50 ⟨hE50, rfl⟩
 have H := H.ext hE50
 refine ⟨_, rfl, Br.f rfl (Br.f (by rw [hx13]; cases r6.isSome <;> rfl) (IcmV.of m3 ⟨H.at 8 rfl, IcmV.of C.b ⟨H.at 29 rfl, ?_⟩⟩))⟩
 refine (sameM_spec hm3 hmb (H.rowCells 9 rfl) (H.rowCells 28 rfl) l3 ok.blen (hlen6 (by rw [← hr6]; exact hm3))).mono ?_
 rintro _ w51 ⟨hE51, rfl⟩
 have H := H.ext hE51
 refine ⟨_, rfl, Br.f rfl (Br.no (fun x => x e110.symm) (IcmV.of m4 ⟨H.at 6 rfl, IcmV.of C.c ⟨H.at 31 rfl, ?_⟩⟩))⟩
 refine (sameI_spec (hm4.same ok.nd) (H.rowCells 7 rfl) (H.rowCells 30 rfl) hm4.2.symm ok.nd.2.symm (by omega)).mono ?_
 rintro _ w52 ⟨hE52, rfl⟩
 have H := H.ext hE52
 refine ⟨_, rfl, Br.f rfl (Br.f rfl (Br.f rfl (IcmV.of m2 ⟨H.at 10 rfl, IcmV.of C.a ⟨H.at 27 rfl, ?_⟩⟩)))⟩
 refine (sameM_spec hm2 hma (H.rowCells 11 rfl) (H.rowCells 26 rfl) l2 ok.alen (hlen4 (by rw [← hr4]; exact hm2))).mono ?_
 rintro _ w53 ⟨hE53, rfl⟩
 have H := H.ext hE53
 refine ⟨_, rfl, Br.f rfl (IcmV.of m5 ⟨H.at 4 rfl, IcmV.of C.c ⟨H.at 31 rfl, ?_⟩⟩)⟩
 refine (sameI_spec (hm5.same ok.nd) (H.rowCells 5 rfl) (H.rowCells 30 rfl) hm5.2.symm ok.nd.2.symm (by omega)).mono ?_
 rintro _ w54 ⟨hE54, rfl⟩
 have H := H.ext hE54
 refine ⟨_, rfl, Br.f rfl ⟨_, _, _, H.cell 12 rfl 4 rfl, _, _, _, H.cell 10 rfl 4 rfl, _, _, _, H.cell 8 rfl 4 rfl, _, _, _, H.cell 6 rfl 4 rfl, _, _, _, H.cell 4 rfl 4 rfl, _, _, _, H.cell 2 rfl 4 rfl, _, _, _, H.cell 0 rfl 4 rfl, ?_⟩⟩
 refine NewVC.sep H fun g18 w55 H => ?_
 have H := H.front
 have hz := (H.restOf 17 rfl).size
 refine AppVC.sep (m := 8) H 16 Tryz.underlying51 tS rfl (by decide) rfl (Cells.blk0 (H.blk 0 rfl)) rfl (fun v hv => by simp at hv; rcases hv with rfl | rfl | rfl | rfl | rfl | rfl | rfl | rfl <;> rfl) (by omega) (by decide) hz fun A2 c2 w56 H _ => ?_
 rw [e1]
 refine hK A2 c2 [grOf ⟨W, C.sL.length, wc⟩ C.sL, grOf m1.data L1, grOf m2.data L2, grOf m3.data L3, grOf m4.data (putD C.n), grOf m5.data (putD C.n), grOf m6.data L6, grOf m7.data (putD whomV)] w56 rfl (fun r hr => ?_) ?_
 ·have b1 := hlen4 (by rw [← hr4]; exact hm1)
  have b2 := hlen4 (by rw [← hr4]; exact hm2)
  have b3 := hlen6 (by rw [← hr6]; exact hm3)
  have b4 := hm4.2
  have b5 := hm5.2
  have b7 := hm7.2
  have b8 := putD_len whomV
  simp only [List.mem_cons, List.not_mem_nil, or_false] at hr
  rcases hr with rfl | rfl | rfl | rfl | rfl | rfl | rfl | rfl
  ·show C.sL.length ≤ 100000; omega
  ·show m1.data.n ≤ 100000; omega
  ·show m2.data.n ≤ 100000; omega
  ·show m3.data.n ≤ 100000; omega
  ·show m4.data.n ≤ 100000; omega
  ·show m5.data.n ≤ 100000; omega
  ·show m6.data.n ≤ 100000; omega
  ·show m7.data.n ≤ 100000; omega
 ·unfold LentAt
  obtain ⟨X, hX⟩ : ∃ X : List Fct, X = [rowL w0.heap.size m7.data (putD whomV), rowL w0.heap.size m6.data L6, rowL w0.heap.size m5.data (putD C.n), rowL w0.heap.size m4.data (putD C.n), rowL w0.heap.size m3.data L3, rowL w0.heap.size m2.data L2, rowL w0.heap.size m1.data L1, rowL w0.heap.size ⟨W, C.sL.length, wc⟩ C.sL] := ⟨_, rfl⟩
  obtain ⟨Z, hZ⟩ : ∃ Z : List Fct, Z = Fct.own w0.heap.size 25 1 (.slice A2 (ln + 8) c2) (ln + 8) (gs.map GR.val ++ [.slice W C.sL.length wc, m1.data.val, m2.data.val, m3.data.val, m4.data.val, m5.data.val, m6.data.val, m7.data.val]) :: Fct.rest w0 None :: (C.fs w0.heap.size ++ gs.map (rawR w0.heap.size 5 1)) := ⟨_, rfl⟩
  have H : Sep (X ++ Z) w56 := by
   rw [hX, hZ]
   exact H.sub (.cons _ (.cons _ (.cons_cons _ (.cons _ (.cons_cons _ (.cons _ (.cons_cons _ (.cons _ (.cons_cons _ (.cons _ (.cons_cons _ (.cons _ (.cons_cons _ (.cons _ (.cons_cons _ (.cons_cons _ (List.Sublist.refl _)))))))))))))))))
  have H := H.perm perm_rev
  rw [hX, hZ] at H
  rw [List.map_append, List.map_append, ← List.append_assoc]
  exact H
set_option maxHeartbeats 8000000 in
theorem lent_tail {C : LentC} {x11 x110 : Int} {x12 x13 : Bool} {lA : Option Addr} {ln lc : Nat} {gs : List GR} {K : (Option Addr × Nat × Nat) × Int → World → Prop} (ok : LentOk w0 C) (e11 : x11 = (serS ⟨C.m.v, C.m.t, C.m.c, C.m.r, C.m.data.A, C.m.data.n, C.m.data.k⟩ C.src C.dst C.dL).2)
  (hx12 : x12 = (comp4S C.t (C.h.d C.os C.l4)).isSome) (hx13 : x13 = (comp6S C.t (C.g.d C.es C.l6)).isSome)
  (hln : gs.length = ln) (hsm16 : ln ≤ 100) (hgs : ∀ r ∈ gs, r.n ≤ 100000) (H : LentAt w0 C lA ln lc gs w) :
  weirlaw8_IcmpLent_L4090 (fun e w' => e = .returned (.bool true) ∧ Ext w0 w') C.g1 C.g2 C.g3 C.g4 C.g5 C.g6 C.g7 C.sS.A C.sS.n C.sS.k x11 x12 C.g8 x13 C.g9 x110 C.g10 lA ln lc 2 w K := by
 unfold weirlaw8_IcmpLent_L4090
 unfold LentAt at H
 have hA4 := ok.four
 have hma := ok.fm
 have hA6 := ok.six
 have hmb := ok.sm
 have hlen4 := fun {m L} (h : IsMsg 4 (comp4S C.t (C.h.d C.os C.l4)) m L) => comp4_len h
 have hlen6 := fun {m L} (h : IsMsg 6 (comp6S C.t (C.g.d C.es C.l6)) m L) => comp6_len h
 obtain ⟨r4, hr4⟩ : ∃ r4, r4 = comp4S C.t (C.h.d C.os C.l4) := ⟨_, rfl⟩
 obtain ⟨r6, hr6⟩ : ∃ r6, r6 = comp6S C.t (C.g.d C.es C.l6) := ⟨_, rfl⟩
 rw [← hr4] at hma hx12
 rw [← hr6] at hmb hx13
 have hsm := ok.small
 have hslen := ok.slen
 refine Br.no (show ¬ (2 : Int) < 2 by decide) ?_
 have H : Sep ((Fct.rest w0 None :: Fct.own w0.heap.size 25 1 (.slice lA ln lc) ln (gs.map GR.val) :: C.fs w0.heap.size) ++ gs.map (rawR w0.heap.size 5 1)) w := H.perm (.swap _ _ _)
 refine (apart_spec H rfl (Nat.le_refl _) (fun w' hf => own_cells (hf _ (List.mem_cons_of_mem _ List.mem_cons_self))) hln hsm16 hgs).mono ?_
 rintro _ w57 ⟨rfl, Δ, H⟩
 refine ⟨_, rfl, Br.f rfl (IPV.of C.src ⟨H.at 2 rfl, IPV.of C.dst ⟨H.at 3 rfl, IcmV.of C.m ⟨H.at 4 rfl, ?_⟩⟩⟩)⟩
 refine (Go.Proofs.YtjngdcilnipjcaaGreatDoor.serialise_spec (m := ⟨C.m.v, C.m.t, C.m.c, C.m.r, C.m.data.A, C.m.data.n, C.m.data.k⟩) (src := C.src) (dst := C.dst) (data := C.dL) (H.rowCells 9 rfl) ok.len ok.bts (by show C.m.data.n ≤ _; omega) ok.src ok.dst).mono ?_
 rintro _ w58 ⟨hE58, W, wc, rfl, ho⟩
 rw [← ok.ser] at ho ⊢
 have H := own_push H hE58 ho (H.restOf 0 rfl).size
 refine ⟨_, _, _, _, rfl, TrbV.of C.t ⟨H.at 6 rfl, Ip4V.of C.h ⟨H.at 7 rfl, ?_⟩⟩⟩
 have hE := H.restOf 1 rfl
 refine (Complain4_spec (t := C.t) (hA4.ext hE) (ok.tb.ext hE) (ok.tab.ext hE) (ok.wd.ext hE)).mono ?_
 intro e w59 hc
 rw [← hr4] at hc
 obtain ⟨m1, L1, rfl, hm1, l1, H⟩ := hc.r.row H hE.size
 refine onRet_is (IcmV.of m1 ⟨_, rfl, NewVC.sep H fun g19 w60 H => ?_⟩)
 refine Stores.sep H.front 0 rfl (cs' := m1.cells) (IcmV.one m1) (Nat.le_refl _) (splice_all rfl) fun w61 H => ?_
 refine TrbV.of C.t ⟨H.at 8 rfl, Ip6V.of C.g ⟨H.at 10 rfl, ?_⟩⟩
 have hE := H.restOf 3 rfl
 refine (Complain6_spec (t := C.t) (hA6.ext hE) (ok.tb.ext hE) (ok.tab.ext hE) (ok.kn.ext hE)).mono ?_
 intro e w62 hc
 rw [← hr6] at hc
 obtain ⟨m3, L3, rfl, hm3, l3, H⟩ := hc.r.row H hE.size
 refine onRet_is (IcmV.of m3 ⟨_, rfl, NewVC.sep H fun g20 w63 H => ?_⟩)
 refine Stores.sep H.front 0 rfl (cs' := m3.cells) (IcmV.one m3) (Nat.le_refl _) (splice_all rfl) fun w64 H => ?_
 refine Br.yes e11.symm ?_
 refine (Go.Proofs.YtjngdcilnipjcaaGreatDoor.same_spec (xs := C.sL) (ys := C.sL) (H.rowCells 4 rfl) (H.rowCells 15 rfl) rfl ok.sS.symm (by omega)).mono ?_
 rintro _ w65 ⟨hE65, rfl⟩
 have H := H.ext hE65
 refine ⟨_, rfl, Br.t (decide_eq_true rfl) (Br.t (by rw [hx12]; cases r4.isSome <;> rfl) (IcmV.of m1 ⟨H.at 2 rfl, IcmV.of C.a ⟨H.at 17 rfl, ?_⟩⟩))⟩
 refine (sameM_spec hm1 hma (H.rowCells 3 rfl) (H.rowCells 16 rfl) l1 ok.alen (hlen4 (by rw [← hr4]; exact hm1))).mono ?_
 rintro _ w66 ⟨hE66, rfl⟩
 have H := H.ext hE66
 refine ⟨_, rfl, Br.t rfl (Br.t (by rw [hx13]; cases r6.isSome <;> rfl) (IcmV.of m3 ⟨H.at 0 rfl, IcmV.of C.b ⟨H.at 19 rfl, ?_⟩⟩))⟩
 refine (sameM_spec hm3 hmb (H.rowCells 1 rfl) (H.rowCells 18 rfl) l3 ok.blen (hlen6 (by rw [← hr6]; exact hm3))).mono ?_
 rintro _ w67 ⟨hE67, rfl⟩
 have H := H.ext hE67
 refine ⟨_, rfl, Br.t rfl ?_⟩
 refine (Go.Proofs.YtjngdcilnipjcaaGreatDoor.awake_spec).mono ?_
 rintro _ w68 ⟨hE68, rfl⟩
 have H := H.ext hE68
 have hE := H.restOf 5 rfl
 refine ⟨_, rfl, Br.t rfl ?_⟩
 refine (told_spec (ok.tb.ext hE) (ok.tab.ext hE) (ok.wd.ext hE) (ok.kn.ext hE)).mono ?_
 rintro _ w69 ⟨hE69, rfl⟩
 have hE := hE.trans hE69
 refine ⟨_, rfl, Br.t rfl ?_⟩
 refine (Nd.neighbours_spec (ok.tab.ext hE)).mono ?_
 rintro _ w70 ⟨hE70, rfl⟩
 exact ⟨_, rfl, rfl, hE.trans hE70⟩
end
end N6
end Go.Proofs.YtjngdcilnipjcaaGreatDoor
/- IcmpLent: from its beginning. -/
namespace Go.Proofs.YtjngdcilnipjcaaGreatDoor
namespace N6
open Go.Eng Go.RowKit
section
variable {w : World}
theorem serS_len {m : MsgV} {src dst : IPV} {bs : List Int} (h : bs.length ≤ 66000) : (serS m src dst bs).1.length ≤ 70000 := by
 unfold serS
 split
 ·exact Nat.zero_le _
 ·split
  ·exact Nat.zero_le _
  ·simp only [List.length_append, headS_len]; omega
set_option maxHeartbeats 8000000 in
theorem lent_law {src dst : IPV} {m : MsgV} {data : List Int} {t : TrbV} {h : Ip4V} {os : List OptR} {data4 : List Int} {g : Ip6V} {es : List ExtR} {data6 : List Int} {n : NDV}
  (hs : Bts src.bytes) (hd : Bts dst.bytes) (hm : Cells w m.A (data.map (.int .u8))) (hl : data.length = m.n) (hB : Bts data) (hc : m.n ≤ m.k) (_hn : m.n ≤ 1048576)
  (hA4 : Ip4At w h os data4) (hA6 : Ip6At w g es data6) (np : Bts n.p.bytes) (nm : Bts n.mac) (nk : -9223372036854775808 ≤ n.kind ∧ n.kind ≤ 9223372036854775807)
  (hT : Tb w) (hN : Nd.Tab w) (hW : Wd w) (hK : Kn w) :
  Calls Tryz.prog 3 #[src.val, dst.val, m.val, t.val, h.val, g.val, n.val] w fun e w' => e = .returned (.bool true) ∧ Ext w w' := by
 refine weirlaw8_IcmpLent_of src dst ⟨m.v, m.t, m.c, m.r, ⟨m.A, m.n, m.k⟩⟩ t h g n.kind n.p.v n.p.a0 n.p.a1 n.p.a2 n.p.a3 n.p.a4 n.p.a5 n.p.a6 n.p.a7 n.p.a8 n.p.a9 n.p.a10 n.p.a11 n.p.a12 n.p.a13 n.p.a14 n.p.a15 n.r n.s n.o n.h n.m0 n.m1 n.m2 n.m3 n.m4 n.m5 w _ ?_
 unfold weirlaw8_IcmpLent_VC
 refine NewVC.sep (Sep.start0 w) fun g1 w1 H => NewVC.sep H fun g2 w2 H => NewVC.sep H fun g3 w3 H => NewVC.sep H fun g4 w4 H => NewVC.sep H fun g5 w5 H => NewVC.sep H fun g6 w6 H => NewVC.sep H fun g7 w7 H => ?_
 have H : Sep [Fct.rest w None, Fct.blk g1 24 src.cells, Fct.blk g2 24 dst.cells, Fct.blk g3 27 (⟨m.v, m.t, m.c, m.r, ⟨m.A, m.n, m.k⟩⟩ : IcmV).cells, Fct.blk g4 29 t.cells, Fct.blk g5 32 h.cells, Fct.blk g6 37 g.cells, Fct.blk g7 41 n.cells] w7 := H
 refine (Go.Proofs.YtjngdcilnipjcaaGreatDoor.awake_spec).mono ?_
 rintro _ w8 ⟨hE8, rfl⟩
 have H := H.ext hE8
 have hE := H.restOf 0 rfl
 refine ⟨_, rfl, Br.f rfl ?_⟩
 refine (told_spec (hT.ext hE) (hN.ext hE) (hW.ext hE) (hK.ext hE)).mono ?_
 rintro _ w9 ⟨hE9, rfl⟩
 have H := H.ext hE9
 have hE := H.restOf 0 rfl
 refine ⟨_, rfl, Br.f rfl ?_⟩
 refine (Nd.neighbours_spec (hN.ext hE)).mono ?_
 rintro _ w10 ⟨hE10, rfl⟩
 have H := H.ext hE10
 have hE := H.restOf 0 rfl
 refine ⟨_, rfl, Br.f rfl ⟨_, _, _, H.cell 3 rfl 4 rfl, ?_⟩⟩
 refine (shorter_spec (hm.ext hE) hl hc).mono ?_
 rintro _ w11 ⟨hw, n', rfl, hl', hcells⟩
 subst w11
 refine ⟨_, _, _, rfl, ?_⟩
 have hn' : n' ≤ 66000 := by rw [← hl', List.length_take]; exact Nat.min_le_left _ _
 refine (Go.Proofs.YtjngdcilnipjcaaGreatDoor.copied_spec hcells hl' (by omega)).mono ?_
 rintro _ w12 ⟨hE12, W, wc, rfl, ho⟩
 have H := own_push H hE12 ho hE.size
 obtain ⟨dL, hdL⟩ : ∃ dL, dL = data.take 66000 := ⟨_, rfl⟩
 rw [← hdL] at H hl'
 have hdB : Bts dL := by rw [hdL]; exact hB.take _
 refine ⟨_, _, _, rfl, SetVC.sep H 4 rfl (show 4 < 5 by decide) fun w13 H => ?_⟩
 obtain ⟨mI, hmI⟩ : ∃ mI : IcmV, mI = ⟨m.v, m.t, m.c, m.r, ⟨W, n', wc⟩⟩ := ⟨_, rfl⟩
 have H : Sep (rowL w.heap.size mI.data dL :: Fct.rest w None :: Fct.blk g1 24 src.cells :: Fct.blk g2 24 dst.cells :: Fct.blk g3 27 mI.cells :: Fct.blk g4 29 t.cells :: Fct.blk g5 32 h.cells :: Fct.blk g6 37 g.cells :: Fct.blk g7 41 n.cells :: []) w13 := by rw [hmI]; exact H
 have hlI : dL.length = mI.data.n := by rw [hmI]; exact hl'
 have hsI : mI.data.n ≤ 66000 := by rw [hmI]; exact hn'
 refine IPV.of src ⟨H.at 2 rfl, IPV.of dst ⟨H.at 3 rfl, IcmV.of mI ⟨H.at 4 rfl, ?_⟩⟩⟩
 refine (Go.Proofs.YtjngdcilnipjcaaGreatDoor.refSerialise_spec (m := ⟨mI.v, mI.t, mI.c, mI.r, mI.data.A, mI.data.n, mI.data.k⟩) (src := src) (dst := dst) (data := dL) (H.rowCells 0 rfl) hlI hdB hs hd).mono ?_
 rintro _ w14 ⟨hE14, SA, sk, rfl, ho⟩
 obtain ⟨sL, hsL⟩ : ∃ sL, sL = (serS ⟨mI.v, mI.t, mI.c, mI.r, mI.data.A, mI.data.n, mI.data.k⟩ src dst dL).1 := ⟨_, rfl⟩
 rw [← hsL] at ho ⊢
 have H := own_push H hE14 ho (H.restOf 1 rfl).size
 refine ⟨_, _, _, _, rfl, TrbV.of t ⟨H.at 6 rfl, Ip4V.of h ⟨H.at 7 rfl, ?_⟩⟩⟩
 have hE := H.restOf 2 rfl
 refine (refComplain4_spec (t := t) (hA4.ext hE)).mono ?_
 intro e w15 hc
 obtain ⟨ma, La, rfl, hma, la, H⟩ := hc.row H hE.size
 refine onRet_is (IcmV.of ma ⟨_, rfl, NewVC.sep H fun g8 w16 H => ?_⟩)
 refine Stores.sep H.front 0 rfl (cs' := ma.cells) (IcmV.one ma) (Nat.le_refl _) (splice_all rfl) fun w17 H => ?_
 refine TrbV.of t ⟨H.at 8 rfl, Ip6V.of g ⟨H.at 10 rfl, ?_⟩⟩
 have hE := H.restOf 4 rfl
 refine (refComplain6_spec (t := t) (hA6.ext hE)).mono ?_
 intro e w18 hc
 obtain ⟨mb, Lb, rfl, hmb, lb, H⟩ := hc.row H hE.size
 refine onRet_is (IcmV.of mb ⟨_, rfl, NewVC.sep H fun g9 w19 H => ?_⟩)
 refine Stores.sep H.front 0 rfl (cs' := mb.cells) (IcmV.one mb) (Nat.le_refl _) (splice_all rfl) fun w20 H => ?_
 refine ⟨_, _, _, _, _, _, _, _, _, _, _, _, _, _, _, _, _, _, _, _, _, _, _, _, _, _, _, _, H.at 13 rfl, ?_⟩
 have hE := H.restOf 6 rfl
 refine (Nd.refPutND_spec np nk).mono ?_
 rintro _ w21 ⟨hE21, CA, ck, rfl, ho⟩
 obtain ⟨mc, hvc, hmc, H⟩ := nd_row H hE21 ho hE.size
 rw [hvc]
 refine onRet_is (IcmV.of mc ⟨_, rfl, NewVC.sep H fun g10 w22 H => ?_⟩)
 refine Stores.sep H.front 0 rfl (cs' := mc.cells) (IcmV.one mc) (Nat.le_refl _) (splice_all rfl) fun w23 H => ?_
 obtain ⟨C, hC⟩ : ∃ C : LentC, C = ⟨g1, g2, g3, g4, g5, g6, g7, g8, g9, g10, src, dst, mI, t, h, g, n, dL, ⟨SA, sL.length, sk⟩, sL, ma, La, mb, Lb, mc, os, data4, es, data6⟩ := ⟨_, rfl⟩
 have ok : LentOk w C := by
  rw [hC]
  exact ⟨hs, hd, hdB, hlI, hsI, rfl, hsL, by show sL.length ≤ 70000; rw [hsL]; exact serS_len (by omega), hA4, hma, hA6, hmb, la, lb, hmc, np, nm, nk, hT, hN, hW, hK⟩
 have hL : LentAt w C none 0 0 [] w23 := by
  unfold LentAt
  have H := H.perm (List.perm_append_comm (l₁ := [Fct.rest w None, Fct.blk g1 24 src.cells, Fct.blk g2 24 dst.cells, Fct.blk g3 27 mI.cells, Fct.blk g4 29 t.cells, Fct.blk g5 32 h.cells, Fct.blk g6 37 g.cells, Fct.blk g7 41 n.cells])
   (l₂ := [Fct.blk g10 27 mc.cells, rowL w.heap.size mc.data (putD n), Fct.blk g9 27 mb.cells, rowL w.heap.size mb.data Lb, Fct.blk g8 27 ma.cells, rowL w.heap.size ma.data La, rowL w.heap.size ⟨SA, sL.length, sk⟩ sL, rowL w.heap.size mI.data dL]))
  have H := H.perm ((List.reverse_perm [Fct.blk g10 27 mc.cells, rowL w.heap.size mc.data (putD n), Fct.blk g9 27 mb.cells, rowL w.heap.size mb.data Lb, Fct.blk g8 27 ma.cells, rowL w.heap.size ma.data La, rowL w.heap.size ⟨SA, sL.length, sk⟩ sL, rowL w.heap.size mI.data dL]).append_left [Fct.rest w None, Fct.blk g1 24 src.cells, Fct.blk g2 24 dst.cells, Fct.blk g3 27 mI.cells, Fct.blk g4 29 t.cells, Fct.blk g5 32 h.cells, Fct.blk g6 37 g.cells, Fct.blk g7 41 n.cells])
  have H := (H.nil w.heap.size 25 1).front
  rw [hC]
  simp only [List.map_nil, List.append_nil]
  exact H
 have e1 : (serS ⟨mI.v, mI.t, mI.c, mI.r, mI.data.A, mI.data.n, mI.data.k⟩ src dst dL).2 = (serS ⟨C.m.v, C.m.t, C.m.c, C.m.r, C.m.data.A, C.m.data.n, C.m.data.k⟩ C.src C.dst C.dL).2 := by rw [hC]
 have e2 : (comp4S t (h.d os data4)).isSome = (comp4S C.t (C.h.d C.os C.l4)).isSome := by rw [hC]
 have e3 : (comp6S t (g.d es data6)).isSome = (comp6S C.t (C.g.d C.es C.l6)).isSome := by rw [hC]
 have e4 : putE n = putE C.n := by rw [hC]
 rw [e1, e2, e3, e4]
 have body : ∀ {K : (Option Addr × Nat × Nat) × Int → World → Prop} {lA : Option Addr} {ln lc : Nat} {k : Int} {w' : World}, weirlaw8_IcmpLent_L4090 (fun e w' => e = .returned (.bool true) ∧ Ext w w') C.g1 C.g2 C.g3 C.g4 C.g5 C.g6 C.g7 C.sS.A C.sS.n C.sS.k (serS ⟨C.m.v, C.m.t, C.m.c, C.m.r, C.m.data.A, C.m.data.n, C.m.data.k⟩ C.src C.dst C.dL).2 (comp4S C.t (C.h.d C.os C.l4)).isSome C.g8 (comp6S C.t (C.g.d C.es C.l6)).isSome C.g9 (putE C.n) C.g10 lA ln lc k w' K →
   weirlaw8_IcmpLent_L4090 (fun e w' => e = .returned (.bool true) ∧ Ext w w') g1 g2 g3 g4 g5 g6 g7 SA sL.length sk (serS ⟨C.m.v, C.m.t, C.m.c, C.m.r, C.m.data.A, C.m.data.n, C.m.data.k⟩ C.src C.dst C.dL).2 (comp4S C.t (C.h.d C.os C.l4)).isSome g8 (comp6S C.t (C.g.d C.es C.l6)).isSome g9 (putE C.n) g10 lA ln lc k w' K := by
  intro K lA ln lc k w' h
  rw [hC] at h ⊢
  exact h
 refine LoopVC.of (fun st w' => ∃ (i : Nat) (gs : List GR), st.2 = (i : Int) ∧ i ≤ 2 ∧ st.1.2.1 = 8 * i ∧ gs.length = 8 * i ∧ (∀ r ∈ gs, r.n ≤ 100000) ∧ LentAt w C st.1.1 st.1.2.1 st.1.2.2 gs w') (fun st _ => (2 - st.2).toNat)
  ⟨0, [], rfl, by decide, rfl, rfl, (fun r hr => by cases hr), hL⟩ ?_
 rintro ⟨⟨lA, ln, lc⟩, _⟩ w24 ⟨i, gs, rfl, hi, hln, hgl, hgs, hL⟩
 simp only at hln hL
 refine body ?_
 rcases Nat.lt_or_ge i 2 with h2 | h2
 ·refine lent_body ok rfl rfl rfl rfl h2 hln hL fun A2 c2 gs' w' hgl' hgs' hL' => ⟨⟨i + 1, gs ++ gs', rfl, by omega, by show ln + 8 = _; omega, by rw [List.length_append]; omega, fun r hr => ?_, hL'⟩, by simp only; omega⟩
  rcases List.mem_append.1 hr with hr | hr
  ·exact hgs r hr
  ·exact hgs' r hr
 ·have : i = 2 := by omega
  subst this
  exact lent_tail ok rfl rfl rfl (show gs.length = ln by omega) (show ln ≤ 100 by omega) hgs hL
end
end N6
end Go.Proofs.YtjngdcilnipjcaaGreatDoor
