/- Contracts of package view's Fields where it refuses, and of Pack. -/
import Derived.Test.YthhgbpmihhljdaaGreatDoorBar
import Derived.Test.YthhgbpmihhljdaaGreatDoorBao
namespace Go.Eng
open Go Go.RowKit
theorem zeros_one (z : Value) : ∀ n, zeros [z] n = List.replicate n z
  | 0 => rfl
  | n + 1 => by simp [zeros, zeros_one z n, List.replicate_succ]
theorem MakeVC.blk {w : World} {e bytes : Nat} {z : Value} {l c : Int} {F : Nat → World → Prop} (h0 : 0 ≤ l) (h1 : l ≤ c) (h2 : bytes * c ≤ 281474976710656)
    (h : ∀ g w', g = w.heap.size → w'.heap.size = w.heap.size + 1 → Ext w w' → Blk w' g e (List.replicate c.toNat z) → F g w') : MakeVC w e bytes [z] l c F :=
  ⟨h0, h1, h2, NewVC.blk fun g w' hg hz hE hb => h g w' hg hz hE (by rw [zeros_one] at hb; simpa using hb)⟩
theorem IdxVC.blk {g n : Nat} {i : Int} {F : Addr → Prop} (h0 : 0 ≤ i) (h1 : i < n) (hF : F ⟨g, i.toNat, none⟩) : IdxVC (some ⟨g, 0, none⟩) n 1 i F :=
  ⟨_, rfl, h0, h1, by rw [addr_add]; simpa using hF⟩
theorem own_of_blk {w : World} {g base n c : Nat} {e : TypeId} {cs : List Value} (h : Blk w g e cs) (hb : base ≤ g) (hc : cs.length = c) (hn : n ≤ c) (hm : c ≤ maxLen) :
    w.ownsRow base e 1 (.slice (some ⟨g, 0, none⟩) n c) n (cs.take n) :=
  ⟨by simp [hc, hn], .inr ⟨g, c, cs.toArray, rfl, hb, h, hn, hm, by simp [hc], by simp⟩⟩
theorem and1_i64 {y : Int} (h0 : 0 ≤ y) (h1 : y < 9223372036854775808) : bitv .and .i64 y 1 = y % 2 := by
  obtain ⟨a, rfl⟩ := Int.eq_ofNat_of_zero_le h0
  unfold bitv
  simp only
  have e1 : (BitVec.ofInt IntKind.i64.bits (a : Int) &&& BitVec.ofInt IntKind.i64.bits 1).toNat = a % 2 := by
    rw [BitVec.toNat_and]
    have t1 : (BitVec.ofInt IntKind.i64.bits (a : Int)).toNat = a := by simp [IntKind.bits]; omega
    have t2 : (BitVec.ofInt IntKind.i64.bits 1).toNat = 1 := by decide
    rw [t1, t2, Nat.and_one_is_mod]
  rw [e1]
  have : ((a % 2 : Nat) : Int) = (a : Int) % 2 := by omega
  rw [this]
  exact w64 (by omega) (by omega)
theorem map_set {α β : Type} (f : α → β) (l : List α) (i : Nat) (a : α) : (l.map f).set i (f a) = (l.set i a).map f := by
  simp [List.map_set]
theorem bitAt_zeros (n q : Nat) : bitAt (List.replicate n 0) q = 0 := by
  unfold bitAt
  have : (List.replicate n (0 : Int)).getD (q / 8) 0 = 0 := by
    simp [List.getD_eq_getElem?_getD, List.getElem?_replicate]; split <;> rfl
  rw [this]; simp
theorem Bts.set {ds : List Int} (h : Bts ds) (i : Nat) {y : Int} (h0 : 0 ≤ y) (h1 : y < 256) : Bts (ds.set i y) := by
  intro x hx
  rcases List.mem_or_eq_of_mem_set hx with hx | rfl
  · exact h x hx
  · exact ⟨h0, h1⟩
end Go.Eng
namespace Go.Proofs.YthhgbpmihhljdaaGreatDoor
open Go.Eng Go.RowKit

/-- Pack's inner loop: one value's bits. -/
theorem pack_inner {ws vs : List Int} {B g1 : Nat} {L wide v t31 : Int} {w0 : World} {K : Int × Int → World → Prop} {ds : List Int} {w : World} {i : Nat}
    (hM : Mod (fun k => k = g1) w0 w) (hb : Blk w g1 5 (ds.map (.int .u8))) (hl : (ds.length : Int) = L) (hB : Bts ds) (hw0 : 1 ≤ wide) (hw1 : wide ≤ 32) (hfit : (B : Int) + wide ≤ 8 * L) (hL : L ≤ 4096)
    (hv0 : 0 ≤ v) (hv1 : v < 2 ^ wide.toNat) (hz : ∀ q, B ≤ q → bitAt ds q = 0) (hW : W32 (ws.take i)) (hpB : (psum (ws.take i)).toNat = B) (hf : fieldsV (bitAt ds) 0 (ws.take i) = vs.take i)
    (hend : ∀ w' ds', Mod (fun k => k = g1) w0 w' → Blk w' g1 5 (ds'.map (.int .u8)) → ds'.length = ds.length → Bts ds' → (∀ q, B + wide.toNat ≤ q → bitAt ds' q = 0) → fieldsV (bitAt ds') 0 (ws.take i) = vs.take i →
      fieldV (bitAt ds') B wide.toNat = v → K ((B : Int) + wide, IntKind.i64.wrap (t31 + 1)) w') :
    LoopVC (S := Int × Int) (fun s w4 K1042846 => view_Pack_L1042846 L g1 t31 K v s.1 s.2 w4 K1042846) ((B : Int), IntKind.i64.wrap (wide - 1)) w := by
  rw [w64 (n := wide - 1) (by omega) (by omega)]
  refine LoopVC.of (fun s w' => ∃ (j : Nat) (ds' : List Int), (j : Int) ≤ wide ∧ s = ((B : Int) + j, wide - 1 - j) ∧ Mod (fun k => k = g1) w0 w' ∧ Blk w' g1 5 (ds'.map (.int .u8)) ∧ ds'.length = ds.length ∧ Bts ds' ∧
    (∀ q, B + j ≤ q → bitAt ds' q = 0) ∧ fieldsV (bitAt ds') 0 (ws.take i) = vs.take i ∧ fieldV (bitAt ds') B j = v / 2 ^ (wide.toNat - j)) (fun s _ => (s.2 + 1).toNat) ?_ ?_
  · refine ⟨0, ds, by omega, by simp, hM, hb, rfl, hB, fun q hq => hz q (by omega), hf, ?_⟩
    simp only [fieldV, Nat.sub_zero]
    rw [Int.ediv_eq_zero_of_lt hv0 hv1]
  · rintro _ w4 ⟨j, ds', hj, rfl, hM, hb, hl', hB', hz', hf', hfv⟩
    show view_Pack_L1042846 L g1 t31 K v ((B : Int) + j) (wide - 1 - j) w4 _
    unfold view_Pack_L1042846
    refine Br.dec (fun hk => ?_) (fun hk => ?_)
    · have e1 : Int.tdiv ((B : Int) + j) 8 = (((B + j) / 8 : Nat) : Int) := by rw [Int.tdiv_eq_ediv_of_nonneg (by omega)]; omega
      have e2 : Int.tmod ((B : Int) + j) 8 = (((B + j) % 8 : Nat) : Int) := by rw [Int.tmod_eq_emod_of_nonneg (by omega)]; omega
      rw [e1, e2, w64 (n := (((B + j) / 8 : Nat) : Int)) (by omega) (by omega), wu64 (n := (((B + j) % 8 : Nat) : Int)) (by omega) (by omega),
        wu64 (n := 7 - (((B + j) % 8 : Nat) : Int)) (by omega) (by omega), wu64 (n := wide - 1 - (j : Int)) (by omega) (by omega)]
      have hlt : (B + j) / 8 < ds'.length := by omega
      refine IdxVC.blk (by omega) (by omega) ?_
      rw [Int.toNat_natCast]
      refine ⟨ds'[(B + j) / 8], by rw [hb.cell]; simp [hlt], by omega, by omega, ?_⟩
      refine IdxVC.blk (by omega) (by omega) ?_
      rw [Int.toNat_natCast]
      have ek : (min (wide - 1 - (j : Int)).toNat 64) = wide.toNat - (j + 1) := by omega
      have em : (min (7 - (((B + j) % 8 : Nat) : Int)).toNat 8) = 7 - (B + j) % 8 := by omega
      rw [ek, em]
      have hdv : Int.fdiv v (2 ^ (wide.toNat - (j + 1))) = v / 2 ^ (wide.toNat - (j + 1)) := Int.fdiv_eq_ediv_of_nonneg _ (Int.pow_nonneg (by decide))
      have hp := pow2_32 (n := wide.toNat) (by omega)
      have hdb : 0 ≤ v / 2 ^ (wide.toNat - (j + 1)) := Int.ediv_nonneg hv0 (Int.pow_nonneg (by decide))
      have hdb2 : v / 2 ^ (wide.toNat - (j + 1)) ≤ v := Int.ediv_le_self _ hv0
      rw [hdv, and1_i64 hdb (by omega)]
      generalize hbe : (v / 2 ^ (wide.toNat - (j + 1))) % 2 = b
      have hb0 : 0 ≤ b := by omega
      have hb1 : b < 2 := by omega
      have hx := hB'.at hlt
      have hzb : (ds'[(B + j) / 8] / 2 ^ (7 - (B + j) % 8)) % 2 = 0 := by
        have := hz' (B + j) (by omega)
        unfold bitAt at this
        simpa [hlt] using this
      obtain ⟨y0, y1, hy⟩ := or_bit (m := 7 - (B + j) % 8) hx.1 hx.2 (by omega) hb0 hb1 hzb
      rw [wu8 (n := b) hb0 (by omega)]
      generalize bitv .or .u8 ds'[(B + j) / 8] (IntKind.u8.wrap (b * 2 ^ (7 - (B + j) % 8))) = y at y0 y1 hy
      have hbs := bitAt_set hlt hy
      refine SetVC.blk hb (by simp [hlt]) fun w5 hz5 hm5 hb5 => ?_
      rw [map_set] at hb5
      rw [w64 (n := (B : Int) + j + 1) (by omega) (by omega), w64 (n := wide - 1 - (j : Int) - 1) (by omega) (by omega)]
      refine ⟨⟨j + 1, ds'.set ((B + j) / 8) y, by omega, ?_, hM.trans hm5, hb5, by simpa using hl', hB'.set _ y0 y1, ?_, ?_, ?_⟩, ?_⟩
      · rw [Prod.mk.injEq]; constructor <;> omega
      · intro q hq
        rw [hbs, if_neg (by omega)]
        exact hz' q (by omega)
      · rw [← hf']
        refine fieldsV_congr _ _ hW fun q hq => ?_
        rw [hbs, if_neg (by omega)]
      · simp only [fieldV]
        rw [hbs, if_pos rfl]
        have hc : fieldV (bitAt (ds'.set ((B + j) / 8) y)) B j = fieldV (bitAt ds') B j := fieldV_congr _ _ _ fun q hq => by
          rw [hbs, if_neg (by omega)]
        rw [hc, hfv, ← hbe]
        have := half_join v (wide.toNat - (j + 1)) hv0
        rwa [show wide.toNat - (j + 1) + 1 = wide.toNat - j by omega] at this
      · simp only; omega
    · have hjw : (j : Int) = wide := by omega
      have hj2 : j = wide.toNat := by omega
      have hfv2 : fieldV (bitAt ds') B wide.toNat = v := by rw [← hj2, hfv, ← hj2]; simp
      rw [hjw]
      exact hend w4 ds' hM hb hl' hB' (by rw [← hj2]; exact hz') hf' hfv2

theorem pack_ok {A W : Option Addr} {n c m d : Nat} {ws vs : List Int} {w : World} (hws : Cells w W (ws.map (.int .i64))) (hm : ws.length = m) (hvs : Cells w A (vs.map (.int .i64))) (hn : vs.length = n)
    (hok : widthsOk ws) (hnm : n = m) :
    Calls Tryz.prog 72 #[.slice W m d, .slice A n c] w fun e w' => Ext w w' ∧
      ((valuesOk ws vs ∧ ∃ A' ds, Packed ws vs ds ∧ e = .returned (.tuple #[.slice A' ds.length ds.length, .int .i64 0]) ∧ w'.ownsRow w.heap.size 5 1 (.slice A' ds.length ds.length) ds.length (ds.map (.int .u8))) ∨
       (¬ valuesOk ws vs ∧ e = .returned (.tuple #[.slice none 0 0, .int .i64 12]))) := by
  have hW := hok.2.1
  have hpb := psum_bound hW
  have h64 : ws.length ≤ 64 := hok.1
  have h8 := hok.2.2
  refine view_Pack_of W m d A n c w _ ?_
  unfold view_Pack_VC
  refine (bits_yes hws hm hok).mono ?_
  rintro _ w1 ⟨rfl, rfl⟩
  refine ⟨_, _, rfl, Br.no (by omega) (Br.no (by omega) ?_)⟩
  refine MakeVC.blk (by omega) (by omega) (by omega) fun g1 w2 hg1 hz2 hE2 hb => ?_
  refine LoopVC.of (fun s w' => ∃ (i : Nat) (ds : List Int), i ≤ m ∧ s = (psum (ws.take i), (i : Int)) ∧ Mod (fun k => k = g1) w2 w' ∧ Blk w' g1 5 (ds.map (.int .u8)) ∧ (ds.length : Int) = psum ws / 8 ∧ Bts ds ∧
    (∀ q, (psum (ws.take i)).toNat ≤ q → bitAt ds q = 0) ∧ fieldsV (bitAt ds) 0 (ws.take i) = vs.take i ∧ (∀ j, j < i → 0 ≤ vs.getD j 0 ∧ vs.getD j 0 < 2 ^ (ws.getD j 0).toNat)) (fun s _ => (m - s.2).toNat) ?_ ?_
  · refine ⟨0, List.replicate (psum ws / 8).toNat 0, by omega, by simp [psum], Mod.refl _ _, by simpa using hb, by simp; omega, ?_, fun q _ => bitAt_zeros _ _, by simp [fieldsV], fun j hj => by omega⟩
    intro x hx
    have := List.eq_of_mem_replicate hx
    omega
  · rintro _ w3 ⟨i, ds, him, rfl, hM, hb, hl, hB, hz, hf, hvok⟩
    have hE3 : Ext w w3 := hE2.trans' hM fun k hk e => by omega
    show view_Pack_L1018 _ W m A n (psum ws / 8) g1 (psum (ws.take i)) (i : Int) w3 _
    unfold view_Pack_L1018
    refine Br.dec (fun hlt => ?_) (fun hge => ?_)
    · have hil : i < ws.length := by omega
      have hiv : i < vs.length := by omega
      have hwi := hW ws[i] (List.getElem_mem hil)
      refine IdxVC.int (hws.ext hE3) (by omega) hlt hm fun a hc => ⟨_, hc, ?_⟩
      refine IdxVC.int (hvs.ext hE3) (by omega) (by omega) hn fun a1 hc1 => ⟨_, hc1, ?_⟩
      rw [getD_cast _ _ hil, getD_cast _ _ hiv]
      have gw : ws.getD i 0 = ws[i] := by simp [hil]
      have gv : vs.getD i 0 = vs[i] := by simp [hiv]
      refine Br.dec (fun hneg => ⟨hE3, .inr ⟨fun hv => ?_, rfl⟩⟩) (fun hneg => ⟨by rw [wu64 (by omega) (by omega)]; omega, ?_⟩)
      · have := hv.2 i hil; omega
      rw [wu64 (n := ws[i]) (by omega) (by omega)]
      have ek : min (ws[i]).toNat 64 = (ws[i]).toNat := by omega
      have hdv : Int.fdiv vs[i] (2 ^ (ws[i]).toNat) = vs[i] / 2 ^ (ws[i]).toNat := Int.fdiv_eq_ediv_of_nonneg _ (Int.pow_nonneg (by decide))
      have hpos : (0 : Int) < 2 ^ (ws[i]).toNat := Int.pow_pos (by decide)
      rw [ek, hdv]
      refine Br.dec (fun hbig => ⟨hE3, .inr ⟨fun hv => hbig ?_, rfl⟩⟩) (fun hsm => ?_)
      · have := hv.2 i hil
        rw [gv, gw] at this
        exact Int.ediv_eq_zero_of_lt this.1 this.2
      have hvlt : vs[i] < 2 ^ (ws[i]).toNat := by
        have h0 : vs[i] / 2 ^ (ws[i]).toNat = 0 := by simpa using hsm
        have h1 := Int.mul_ediv_add_emod vs[i] (2 ^ (ws[i]).toNat)
        have h2 := Int.emod_lt_of_pos vs[i] hpos
        rw [h0, Int.mul_zero, Int.zero_add] at h1
        omega
      have hp0 := psum_bound (hW.take i)
      have hsn : psum (ws.take (i + 1)) = psum (ws.take i) + ws[i] := by rw [List.take_succ_eq_append_getElem hil, psum_snoc]
      have hle := psum_take_le hW (i + 1)
      obtain ⟨B, hBe⟩ := Int.eq_ofNat_of_zero_le hp0.1
      rw [hBe]
      refine pack_inner (ws := ws) (vs := vs) (i := i) hM hb hl hB hwi.1 hwi.2 (by omega) (by omega) (by omega) hvlt (fun q hq => hz q (by omega)) (hW.take i) (by omega) hf ?_
      intro w' ds' hM' hb' hl' hB' hz' hf' hfv'
      refine ⟨⟨i + 1, ds', by omega, ?_, hM', hb', by omega, hB', ?_, ?_, ?_⟩, ?_⟩
      · rw [w64 (n := (i : Int) + 1) (by omega) (by omega), hsn, hBe]; simp
      · intro q hq; exact hz' q (by omega)
      · rw [List.take_succ_eq_append_getElem hil, fieldsV_snoc _ _ _ _ (hW.take i), hf', List.take_succ_eq_append_getElem hiv]
        have e2 : (0 + (psum (ws.take i)).toNat) = B := by omega
        rw [e2, hfv']
      · intro j hj
        rcases Nat.lt_succ_iff_lt_or_eq.1 hj with hj | rfl
        · exact hvok j hj
        · rw [gv, gw]; exact ⟨by omega, hvlt⟩
      · simp only
        rw [w64 (n := (i : Int) + 1) (by omega) (by omega)]; omega
    · have him' : i = ws.length := by omega
      subst him'
      rw [List.take_length] at hf hz
      have hvt : vs.take ws.length = vs := List.take_of_length_le (by omega)
      rw [hvt] at hf
      refine ⟨hE3, .inl ⟨⟨by omega, fun j hj => hvok j hj⟩, some ⟨g1, 0, none⟩, ds, ⟨hl, hB, hf⟩, ?_, ?_⟩⟩
      · have : (psum ws / 8).toNat = ds.length := by omega
        rw [this]
      · have := own_of_blk (n := ds.length) (base := w.heap.size) hb (by omega) (by simp) (Nat.le_refl _) (by simp only [maxLen]; omega)
        rwa [List.take_of_length_le (by simp)] at this
end Go.Proofs.YthhgbpmihhljdaaGreatDoor
/- Sums by ones' complement: the plain law of folding, and both programs' sums over parts. -/
namespace Go.Eng
open Go Go.RowKit

structure PartV where
  A : Option Addr
  n : Nat
  c : Nat
  bs : List Int
def PartV.val (p : PartV) : Value := .slice p.A p.n p.c
structure PartsAt (w : World) (PA : Option Addr) (ps : List PartV) : Prop where
  top : Cells w PA (ps.map PartV.val)
  each : ∀ p ∈ ps, Cells w p.A (p.bs.map (.int .u8)) ∧ p.bs.length = p.n ∧ Bts p.bs ∧ p.n ≤ 70000
theorem PartsAt.ext {w w' : World} {PA : Option Addr} {ps : List PartV} (h : PartsAt w PA ps) (hE : Ext w w') : PartsAt w' PA ps :=
  ⟨h.top.ext hE, fun p hp => ⟨(h.each p hp).1.ext hE, (h.each p hp).2⟩⟩
theorem PartsAt.read {w : World} {PA : Option Addr} {ps : List PartV} (h : PartsAt w PA ps) {i m : Nat} (hi : i < ps.length) (hm : ps.length = m) {F : Addr → Prop} (hF : ∀ a, w.cell? a = some (.slice ps[i].A ps[i].n ps[i].c) → F a) : IdxVC PA m 1 (i : Int) F :=
  IdxVC.of h.top (by omega) (by omega) (by simpa using hm) fun a _ ha => hF _ (by rw [ha]; simp [PartV.val])
end Go.Eng
namespace Go.Proofs.YthhgbpmihhljdaaGreatDoor
open Go.Eng Go.RowKit

section
variable {w : World} {PA : Option Addr} {m mc : Nat} {ps : List PartV}
end
end Go.Proofs.YthhgbpmihhljdaaGreatDoor
/- Chapter 6 by value: what options and a datagram of version 4 are written as. -/
namespace Go.Eng
open Go Go.RowKit
def opt4B (o : OptD) : Option (List Int) := if o.kind < 2 ∨ 255 < o.kind ∨ 38 < o.data.length then none else some (o.kind :: ((o.data.length + 2 : Nat) : Int) :: o.data)
def opt4F (l : List OptD) : Nat → Option (List Int)
  | 0 => some []
  | i + 1 => match opt4F l i, l[i]? with
    | some out, some o => match opt4B o with
      | some b => some (out ++ b)
      | none => none
    | _, _ => none
def pad4 (n : Nat) : Nat := (4 - n % 4) % 4
def putOpts4 (l : List OptD) : List Int × Int := match opt4F l l.length with
  | some out => if 40 < out.length then ([], 65) else (out ++ List.replicate (pad4 out.length) 0, 0)
  | none => ([], 65)
def four4 (p : IPV) : Prop := p.v = 4 ∧ p.a4 = 0 ∧ p.a5 = 0 ∧ p.a6 = 0 ∧ p.a7 = 0 ∧ p.a8 = 0 ∧ p.a9 = 0 ∧ p.a10 = 0 ∧ p.a11 = 0 ∧ p.a12 = 0 ∧ p.a13 = 0 ∧ p.a14 = 0 ∧ p.a15 = 0
instance (p : IPV) : Decidable (four4 p) := by unfold four4; infer_instance
def bad4 (d : Ip4D) : Prop := d.tos < 0 ∨ 255 < d.tos ∨ d.id < 0 ∨ 65535 < d.id ∨ d.off < 0 ∨ 65528 < d.off ∨ d.off % 8 ≠ 0 ∨ d.ttl < 0 ∨ 255 < d.ttl ∨ d.proto < 0 ∨ 255 < d.proto ∨ ¬ four4 d.src ∨ ¬ four4 d.dst
instance (d : Ip4D) : Decidable (bad4 d) := by unfold bad4; infer_instance
def frag4 (mf : Bool) (off : Int) (n : Nat) : Prop := (mf = true ∧ (n = 0 ∨ n % 8 ≠ 0)) ∨ 65515 < off + n
instance (mf : Bool) (off : Int) (n : Nat) : Decidable (frag4 mf off n) := by unfold frag4; infer_instance
def check4S (d : Ip4D) : Int :=
  if bad4 d then 68 else if (putOpts4 d.opts).2 ≠ 0 then (putOpts4 d.opts).2 else if 65535 < 20 + (putOpts4 d.opts).1.length + d.data.length then 63
  else if frag4 d.mf d.off d.data.length then 66 else 0
def tot4 (d : Ip4D) : Nat := 20 + (putOpts4 d.opts).1.length + d.data.length
theorem check4S_ok {d : Ip4D} (h : check4S d = 0) : ¬ bad4 d ∧ (putOpts4 d.opts).2 = 0 ∧ tot4 d ≤ 65535 ∧ ¬ frag4 d.mf d.off d.data.length := by
  unfold check4S at h
  split at h
  · cases h
  · rename_i h1
    split at h
    · rename_i h2; exact absurd h h2
    · rename_i h2
      split at h
      · cases h
      · rename_i h3
        split at h
        · cases h
        · rename_i h4; exact ⟨h1, by omega, by unfold tot4; omega, h4⟩
end Go.Eng
