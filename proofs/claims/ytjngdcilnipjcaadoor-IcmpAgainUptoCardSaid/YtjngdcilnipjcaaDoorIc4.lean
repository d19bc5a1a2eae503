/- What is read of a message: both programs' Parse; Part, Same; lists that are marked, and whether they stand. -/
import Derived.Test.YtjngdcilnipjcaaDoorIc3
namespace Go.Eng
open Go Go.RowKit
structure ParsedV where
  v : Int
  t : Int
  c : Int
  r : Int
  data : List Int
  err : Int
def noneP (err : Int) : ParsedV := ⟨0, 0, 0, 0, [], err⟩
def ParsedV.msg (q : ParsedV) (A : Option Addr) (k : Nat) : MsgV := ⟨q.v, q.t, q.c, q.r, A, q.data.length, k⟩
def restS (bs : List Int) : Int := ((bs.getD 4 0 * 256 + bs.getD 5 0) * 256 + bs.getD 6 0) * 256 + bs.getD 7 0
def parseS (v : Int) (src dst : IPV) (bs : List Int) : ParsedV :=
  if 65515 < bs.length then noneP 2 else if v ≠ 4 ∧ v ≠ 6 then noneP 1 else if v ≠ 4 ∧ ¬ (src.v = 6 ∧ dst.v = 6) then noneP 20
  else if bs.length < 8 then noneP 80 else if sumS (overS v src dst bs) ≠ 65535 then noneP 81 else ⟨v, bs.getD 0 0, bs.getD 1 0, restS bs, bs.drop 8, 0⟩
theorem parseS_ok {v : Int} {src dst : IPV} {bs : List Int} (h1 : ¬ 65515 < bs.length) (h2 : ¬ (v ≠ 4 ∧ v ≠ 6)) (h3 : ¬ (v ≠ 4 ∧ ¬ (src.v = 6 ∧ dst.v = 6))) (h4 : ¬ bs.length < 8) (h5 : sumS (overS v src dst bs) = 65535) :
    parseS v src dst bs = ⟨v, bs.getD 0 0, bs.getD 1 0, restS bs, bs.drop 8, 0⟩ := by unfold parseS; rw [if_neg h1, if_neg h2, if_neg h3, if_neg h4, if_neg (by simpa using h5)]
/-- Lists that all hold one mark. -/
structure StandAt (w : World) (PA : Option Addr) (ps : List PartV) (mk : Int) : Prop where
  top : Cells w PA (ps.map PartV.val)
  each : ∀ p ∈ ps, Cells w p.A ((List.replicate p.n mk).map (.int .u8)) ∧ p.n ≤ 1000000
theorem StandAt.ext {w w' : World} {PA : Option Addr} {ps : List PartV} {mk : Int} (h : StandAt w PA ps mk) (hE : Ext w w') : StandAt w' PA ps mk := ⟨h.top.ext hE, fun p hp => ⟨(h.each p hp).1.ext hE, (h.each p hp).2⟩⟩
theorem cells_rep {w : World} {A : Option Addr} {n m : Nat} {v : Int} (h : Cells w A ((List.replicate m v).map (.int .u8))) (hn : n ≤ m) : Cells w A ((List.replicate n v).map (.int .u8)) := by
  have := h.take n
  rwa [← List.map_take, List.take_replicate, Nat.min_eq_left hn] at this
end Go.Eng
namespace Go.Proofs.YtjngdcilnipjcaaDoor
open Go.Eng Go.RowKit

section
variable {w : World} {src dst : IPV} {R : Ending → World → Prop}
theorem part_spec {A : Option Addr} {n c : Nat} {bs : List Int} {lo : Nat} (hb : Cells w A (bs.map (.int .u8))) (hl : bs.length = n) (hlo : lo ≤ n) (hn : n ≤ 100000000) :
    Calls Tryd.prog 54 #[.slice A n c, .int .i64 (lo : Int), .int .i64 (n : Int)] w fun e w' => Ext w w' ∧ ∃ W wc, e = .returned (.slice W (n - lo) wc) ∧ w'.ownsRow w.heap.size 5 1 (.slice W (n - lo) wc) (n - lo) ((bs.drop lo).map (.int .u8)) := by
  refine weirref1_Part_of A n c lo n w _ ?_
  unfold weirref1_Part_VC
  refine LoopVC.of (fun s w' => ∃ (j : Nat) (W : Option Addr) (wc : Nat), s = ((W, j, wc), ((lo + j : Nat) : Int)) ∧ lo + j ≤ n ∧ Ext w w' ∧ w'.ownsRow w.heap.size 5 1 (.slice W j wc) j (((bs.drop lo).take j).map (.int .u8))) (fun s _ => ((n : Int) - s.2).toNat)
    ⟨0, none, 0, rfl, by omega, Mod.refl _ _, World.ownsRow_nil _ _ _ _⟩ ?_
  rintro _ w1 ⟨j, W, wc, rfl, hj, hE1, hown1⟩
  show weirref1_Part_L58 _ A n (n : Int) W j wc ((lo + j : Nat) : Int) w1 _
  unfold weirref1_Part_L58
  refine Br.dec (fun hlt => ?_) (fun hge => ?_)
  · refine IdxVC.int (hb.ext hE1) (by omega) hlt hl fun a ha => ⟨_, ha, ?_⟩
    rw [Int.toNat_natCast]
    refine AppVC.one Tryd.underlying22 tyByte rfl hown1 rfl (by omega) (by decide) hE1.size fun W2 wc2 w2 hown2 hm2 _ => ?_
    rw [w64 (n := ((lo + j : Nat) : Int) + 1) (by omega) (by omega)]
    refine ⟨⟨j + 1, W2, wc2, by simp only [Prod.mk.injEq, true_and]; omega, by omega, Ext.own hE1 hown1 hm2, ?_⟩, by simp only; omega⟩
    have hd : j < (bs.drop lo).length := by rw [List.length_drop]; omega
    have hg : (bs.drop lo).getD j 0 = bs.getD (lo + j) 0 := by simp [List.getD_eq_getElem?_getD, List.getElem?_drop]
    rw [take_snocD _ _ hd, hg, List.map_append]; exact hown2
  · have hjn : j = n - lo := by omega
    subst hjn
    rw [List.take_of_length_le (by rw [List.length_drop]; omega)] at hown1
    exact ⟨hE1, W, wc, rfl, hown1⟩
theorem same8_spec {a b : MsgV} {da db : List Int} (ha : Cells w a.A (da.map (.int .u8))) (hb : Cells w b.A (db.map (.int .u8))) (hla : da.length = a.n) (hlb : db.length = b.n) (hn : a.n ≤ 100000000) :
    Calls Tryd.prog 21 #[a.val, b.val] w fun e w' => Ext w w' ∧ e = .returned (.bool (decide (a.v = b.v ∧ a.t = b.t ∧ a.c = b.c ∧ a.r = b.r ∧ da = db))) := by
  refine weirref8_Same_of a.v a.t a.c a.r a.A a.n a.k b.v b.t b.c b.r b.A b.n b.k w _ ?_
  unfold weirref8_Same_VC
  refine NewVC.blk fun g1 w1 hg1 hz1 hE1 hb1 => NewVC.blk fun g2 w2 hg2 hz2 hE2 hb2 => ?_
  have hb1 := hb1.ext hE2
  have hE := hE1.ext hE2
  have no : ∀ {w' : World}, Ext w w' → ¬ (a.v = b.v ∧ a.t = b.t ∧ a.c = b.c ∧ a.r = b.r ∧ da = db) → Ext w w' ∧ Ending.returned (.bool false) = .returned (.bool (decide (a.v = b.v ∧ a.t = b.t ∧ a.c = b.c ∧ a.r = b.r ∧ da = db))) := fun hE' h => ⟨hE', by rw [decide_eq_false h]⟩
  refine ⟨_, hb1.cell 0, _, hb2.cell 0, Br.dec (fun h => no hE fun e => h e.1) (fun h0 => ?_)⟩
  refine ⟨_, hb1.cell 1, _, hb2.cell 1, Br.dec (fun h => no hE fun e => h e.2.1) (fun h1 => ?_)⟩
  refine ⟨_, hb1.cell 2, _, hb2.cell 2, Br.dec (fun h => no hE fun e => h e.2.2.1) (fun h2 => ?_)⟩
  refine ⟨_, hb1.cell 3, _, hb2.cell 3, Br.dec (fun h => no hE fun e => h e.2.2.2.1) (fun h3 => ?_)⟩
  refine ⟨_, _, _, hb1.cell 4, _, _, _, hb2.cell 4, Br.dec (fun h => no hE fun e => h (by rw [← hla, ← hlb, e.2.2.2.2])) (fun h4 => ?_)⟩
  refine LoopVC.of (fun s w' => Ext w2 w' ∧ ∃ i : Nat, s = (i : Int) ∧ i ≤ a.n ∧ da.take i = db.take i) (fun s _ => (a.n - s).toNat) ⟨Mod.refl _ _, 0, rfl, by omega, by simp⟩ ?_
  rintro _ w3 ⟨hE3, i, rfl, hi, ht⟩
  unfold weirref8_Same_L58
  refine ⟨_, _, _, (hb1.ext hE3).cell 4, Br.dec (fun hlt => ?_) (fun hge => ?_)⟩
  · refine DrawVC.of (fun w' => Ext w2 w') fun w4 hE4 _ => ⟨hE3.ext hE4, ?_⟩
    have hE24 := hE3.ext hE4
    refine ⟨_, _, _, fun w' hE' => (hb1.ext hE').cell 4, ?_⟩
    refine IdxVC.draw (S := fun w' => Ext w2 w') hE24 (fun w' hE' => ha.ext (hE.ext hE')) (by omega) hlt hla fun a' ha' => ⟨_, ha', ?_⟩
    refine ⟨_, _, _, fun w' hE' => (hb2.ext hE').cell 4, ?_⟩
    refine IdxVC.draw (S := fun w' => Ext w2 w') hE24 (fun w' hE' => hb.ext (hE.ext hE')) (by omega) (by omega) hlb fun a1 ha1 => ⟨_, ha1, ?_⟩
    rw [Int.toNat_natCast]
    refine Br.dec (fun hne => no (hE.ext hE24) fun e => hne (by rw [e.2.2.2.2])) (fun heq => ?_)
    rw [w64 (n := (i : Int) + 1) (by omega) (by omega)]
    refine ⟨⟨hE24, i + 1, by omega, by omega, ?_⟩, by omega⟩
    rw [take_snocD da i (by omega), take_snocD db i (by omega), ht, Decidable.not_not.1 heq]
  · have hin : i = a.n := by omega
    subst hin
    rw [List.take_of_length_le (by omega), List.take_of_length_le (by omega)] at ht
    exact ⟨hE.ext hE3, by rw [decide_eq_true ⟨Decidable.not_not.1 h0, Decidable.not_not.1 h1, Decidable.not_not.1 h2, Decidable.not_not.1 h3, ht⟩]⟩

set_option maxHeartbeats 1000000 in
theorem parse_spec {v : Int} {A : Option Addr} {n c : Nat} {bs : List Int} (hb : Cells w A (bs.map (.int .u8))) (hl : bs.length = n) (hB : Bts bs) (hc : n ≤ c) (hs : Bts src.bytes) (ht : Bts dst.bytes) :
    Calls Tryd.prog 29 #[.int .i64 v, src.val, dst.val, .slice A n c] w fun e w' => Ext w w' ∧ ∃ A', e = .returned (.tuple #[((parseS v src dst bs).msg A' (parseS v src dst bs).data.length).val, .int .i64 (parseS v src dst bs).err]) ∧
      Cells w' A' ((parseS v src dst bs).data.map (.int .u8)) ∧ (0 < (parseS v src dst bs).data.length → A' = A.map (·.add 8)) := by
  refine icmp_Parse_of v src.v src.a0 src.a1 src.a2 src.a3 src.a4 src.a5 src.a6 src.a7 src.a8 src.a9 src.a10 src.a11 src.a12 src.a13 src.a14 src.a15
    dst.v dst.a0 dst.a1 dst.a2 dst.a3 dst.a4 dst.a5 dst.a6 dst.a7 dst.a8 dst.a9 dst.a10 dst.a11 dst.a12 dst.a13 dst.a14 dst.a15 A n c w _ ?_
  unfold icmp_Parse_VC
  refine NewVC.blk fun g1 w1 hg1 hz1 hE1 hb1 => NewVC.blk fun g2 w2 hg2 hz2 hE2 hb2 => NewVC.blk fun g3 w3 hg3 hz3 hE3 hb3 => ?_
  have hE03 := (hE1.ext hE2).ext hE3
  have hb1 := (hb1.ext hE2).ext hE3
  have hb2 := hb2.ext hE3
  have s2 := hE2.size
  have hg3' : w.heap.size ≤ g3 := by omega
  have err : ∀ {w' w'' : World} {k : Int}, Ext w w' → w''.heap.size = w'.heap.size → Mod (fun i => i = g3) w' w'' → parseS v src dst bs = noneP k → Ext w w'' ∧ ∃ A', Ending.returned (.tuple #[.agg #[.int .i64 0, .int .i64 0, .int .i64 0, .int .i64 0, .slice none 0 0], .int .i64 k]) =
      .returned (.tuple #[((parseS v src dst bs).msg A' (parseS v src dst bs).data.length).val, .int .i64 (parseS v src dst bs).err]) ∧ Cells w'' A' ((parseS v src dst bs).data.map (.int .u8)) ∧ (0 < (parseS v src dst bs).data.length → A' = A.map (·.add 8)) :=
    fun hE' _ hm hp => ⟨hE'.set hm hg3', none, by rw [hp]; rfl, by rw [hp]; exact Cells.nil _ _, by rw [hp]; intro h; simp [noneP] at h⟩
  refine JoinVC.of (fun _ w' => w' = w3 ∧ ¬ 65515 < bs.length ∧ ¬ (v ≠ 4 ∧ v ≠ 6)) ?_ ?_
  · refine Br.dec (fun h => ?_) (fun h => ?_)
    · exact set5 hb3 fun w' hz hm hb' => ⟨_, _, _, _, _, _, _, CellsAt.blk hb', err hE03 hz hm (by unfold parseS; rw [if_pos (by omega)])⟩
    · refine Br.dec (fun h4 => Br.dec (fun h6 => ?_) (fun h6 => ⟨rfl, by omega, fun e => h6 e.2⟩)) (fun h4 => ⟨rfl, by omega, fun e => h4 e.1⟩)
      exact set5 hb3 fun w' hz hm hb' => ⟨_, _, _, _, _, _, _, CellsAt.blk hb', err hE03 hz hm (by unfold parseS; rw [if_neg (by omega), if_pos ⟨h4, h6⟩])⟩
  rintro _ w14 ⟨rfl, hlen, hv⟩
  unfold icmp_Parse_J3
  refine ⟨_, _, _, _, _, _, _, _, _, _, _, _, _, _, _, _, _, CellsAt.blk hb1, _, _, _, _, _, _, _, _, _, _, _, _, _, _, _, _, _, CellsAt.blk hb2, ?_⟩
  refine (pseudo_spec (v := v) (src := src) (dst := dst) (n := (n : Int)) (by omega) (by omega)).mono ?_
  have rest : ∀ {w15 : World} {PA : Option Addr} {x0n x0c : Nat} {L0 : List Int}, Ext w14 w15 → Cells w15 PA (L0.map (.int .u8)) → L0.length = x0n → Bts L0 → x0n ≤ 70000 → L0 ++ bs = overS v src dst bs → ¬ (v ≠ 4 ∧ ¬ (src.v = 6 ∧ dst.v = 6)) → ¬ bs.length < 8 →
      ∀ {g4 : Nat} {w26 : World}, Ext w15 w26 → Blk w26 g4 22 [.slice PA x0n x0c, .slice A n c] → Calls Tryd.prog 64 #[.slice (some ⟨g4, 0, none⟩) 2 2] w26 fun e w' => w26 = w' ∧ e = .returned (.bool (decide (sumS (overS v src dst bs) = 65535))) := by
    intro w15 PA x0n x0c L0 hE15 hp hpl hpB hpn hov hfam h8 g4 w26 hE26 hb4
    let ps : List PartV := [⟨PA, x0n, x0c, L0⟩, ⟨A, n, c, bs⟩]
    have hps : PartsAt w26 (some ⟨g4, 0, none⟩) ps := by
      refine ⟨by simpa [ps, PartV.val] using Cells.of_blk hb4 0, fun p hp' => ?_⟩
      simp only [ps, List.mem_cons, List.not_mem_nil, or_false] at hp'
      rcases hp' with rfl | rfl
      · exact ⟨hp.ext hE26, hpl, hpB, hpn⟩
      · exact ⟨hb.ext ((hE03.ext hE15).ext hE26), hl, hB, by show n ≤ 70000; omega⟩
    have hgr : groundS ps = overS v src dst bs := by rw [← hov]; simp [groundS, ps]
    have := sumGood_spec (m := 2) (mc := 2) hps rfl (by decide)
    rwa [hgr] at this
  rintro _ w15 ⟨hE15, hcase⟩
  have hE015 := hE03.ext hE15
  have hb315 := hb3.ext hE15
  rcases hcase with ⟨h4, rfl⟩ | ⟨h4, h6, rfl⟩ | ⟨h4, h6, W, wc, rfl, hown⟩
  case inr.inl =>
    refine ⟨_, _, _, _, rfl, Br.yes (by decide) ?_⟩
    exact set5 hb315 fun w' hz hm hb' => ⟨_, _, _, _, _, _, _, CellsAt.blk hb', err hE015 hz hm (by unfold parseS; rw [if_neg hlen, if_neg hv, if_pos ⟨h4, h6⟩])⟩
  all_goals
    refine ⟨_, _, _, _, rfl, Br.no (by decide) ?_⟩
    have hfam : ¬ (v ≠ 4 ∧ ¬ (src.v = 6 ∧ dst.v = 6)) := fun e => by first | exact e.1 h4 | exact e.2 h6
    refine Br.dec (fun h8 => ?_) (fun h8 => ?_)
    · exact set5 hb315 fun w' hz hm hb' => ⟨_, _, _, _, _, _, _, CellsAt.blk hb', err hE015 hz hm (by unfold parseS; rw [if_neg hlen, if_neg hv, if_neg hfam, if_pos (by omega)])⟩
    have h8' : ¬ bs.length < 8 := by omega
    refine NewVC.blk fun g4 w26 hg4 hz26 hE26 hb26 => ?_
    have hb326 := hb315.ext hE26
    have hE026 := hE015.ext hE26
    have hgood : Calls Tryd.prog 64 #[.slice (some ⟨g4, 0, none⟩) 2 2] w26 fun e w' => w26 = w' ∧ e = .returned (.bool (decide (sumS (overS v src dst bs) = 65535))) := by
      first
        | exact rest hE15 (Cells.nil w15 none) (L0 := []) rfl (fun _ h => by cases h) (by decide) (by unfold overS; rw [if_pos h4]; rfl) hfam h8' hE26 hb26
        | exact rest hE15 (own_cells hown) (pseudoL_len _ _ _) (pseudoL_bts hs ht (by omega) (by omega)) (by decide) (by unfold overS; rw [if_neg h4, hl]) hfam h8' hE26 hb26
    refine hgood.mono ?_
    rintro _ w27 ⟨rfl, rfl⟩
    refine ⟨_, rfl, ?_⟩
    by_cases hsum : sumS (overS v src dst bs) = 65535
    case neg =>
      refine Br.t (by simp [hsum]) ?_
      exact set5 hb326 fun w' hz hm hb' => ⟨_, _, _, _, _, _, _, CellsAt.blk hb', err hE026 hz hm (by unfold parseS; rw [if_neg hlen, if_neg hv, if_neg hfam, if_neg h8', if_pos hsum])⟩
    refine Br.f (by simp [hsum]) ?_
    refine widths_spec.mono ?_
    rintro _ w33 ⟨hE33, gw, hgw, rfl, hbw⟩
    refine ⟨_, _, _, rfl, ?_⟩
    have hE033 := hE026.ext hE33
    refine (fields_yes (p := 0) (ws := hws) (hb.ext hE033) hl hB hc (by omega) (Cells.of_blk hbw 0) rfl hws_ok (by decide) (by rw [hws_psum]; omega)).mono ?_
    rintro _ w34 ⟨hE34, FA, fc, rfl, hownF⟩
    have h8n : ((bs.drop 0).take 8).length = 8 := by simp; omega
    have hff := hws_fields ((hB.drop 0).take 8) h8n
    have hpsum : (psum hws / 8).toNat = 8 := by rw [hws_psum]; decide
    simp only [Int.toNat_zero, hpsum, hff] at hownF
    have hgd : ∀ i, i < 8 → ((bs.drop 0).take 8).getD i 0 = bs.getD i 0 := fun i hi => by simp [List.getD_eq_getElem?_getD, hi]
    rw [hgd 0 (by decide), hgd 1 (by decide), hgd 2 (by decide), hgd 3 (by decide), hgd 4 (by decide), hgd 5 (by decide), hgd 6 (by decide), hgd 7 (by decide)] at hownF
    have e8 : (0 : Int) + psum hws / 8 = 8 := by rw [hws_psum]; decide
    rw [e8]
    refine ⟨_, _, _, _, _, rfl, Br.no (by decide) ?_⟩
    refine DrawVC.of (fun w' => Ext w34 w' ∨ ∃ w'', Ext w34 w'' ∧ Mod (fun i => i = g3) w'' w') fun w40 hE40 _ => ⟨.inl hE40, ?_⟩
    have hF : ∀ w', (Ext w34 w' ∨ ∃ w'', Ext w34 w'' ∧ Mod (fun i => i = g3) w'' w') → Cells w' FA (([bs.getD 0 0, bs.getD 1 0, bs.getD 2 0 * 256 + bs.getD 3 0, restS bs] : List Int).map (.int .i64)) := by
      rintro w' (h | ⟨w'', h, hm⟩)
      · exact own_cells (own_ext hownF h)
      · exact own_cells (own_mod (own_ext hownF h) hm fun k hk e => by have := own_new hownF k hk; have := hb326.lt; have := hE33.size; omega)
    refine IdxVC.draw (S := fun w' => Ext w34 w' ∨ ∃ w'', Ext w34 w'' ∧ Mod (fun i => i = g3) w'' w') (.inl hE40) hF (by decide) (by decide) rfl fun a ha => ⟨_, ha, ?_⟩
    refine IdxVC.draw (S := fun w' => Ext w34 w' ∨ ∃ w'', Ext w34 w'' ∧ Mod (fun i => i = g3) w'' w') (.inl hE40) hF (by decide) (by decide) rfl fun a ha => ⟨_, ha, ?_⟩
    refine IdxVC.draw (S := fun w' => Ext w34 w' ∨ ∃ w'', Ext w34 w'' ∧ Mod (fun i => i = g3) w'' w') (.inl hE40) hF (by decide) (by decide) rfl fun a ha => ⟨_, ha, ?_⟩
    refine ⟨by decide, by omega, by omega, by omega, ?_⟩
    have hE034 := hE033.ext hE34
    have hE040 := hE034.ext hE40
    refine set5 (((hb326.ext hE33).ext hE34).ext hE40) fun w45 hz45 hm45 hb45 => ⟨.inr ⟨w40, hE40, hm45⟩, _, _, _, _, _, _, _, CellsAt.blk hb45, ?_⟩
    have hE045 := hE040.set hm45 hg3'
    have hp := parseS_ok hlen hv hfam h8' hsum
    refine ⟨hE045, (if n = 8 then A else A.map (·.add 8)), ?_, ?_, ?_⟩
    · rw [hp]
      have e1 : (bs.drop 8).length = n - 8 := by rw [List.length_drop, hl]
      simp only [ParsedV.msg, MsgV.val, e1, Int.toNat_natCast]
      rfl
    · rw [hp]
      have hbw := hb.ext hE045
      by_cases hn8 : n = 8
      · rw [if_pos hn8, List.drop_of_length_le (by omega)]; exact Cells.nil _ _
      · rw [if_neg hn8]
        have := hbw.drop 8 (c := 8 + 1 + bs.length) (by simp only [List.length_map]; omega) 1 (.inl rfl)
        rw [if_neg (by omega), Nat.mul_one] at this
        simp only [List.map_drop]
        exact this
    · rw [hp]
      intro h
      simp only [List.length_drop] at h
      rw [if_neg (by omega)]
end
end Go.Proofs.YtjngdcilnipjcaaDoor
