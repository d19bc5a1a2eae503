/- Forty cursors and forty builders beside one another. -/
import Derived.Test.YtdchpilghgnnoaaBld4
namespace Go.Proofs.Ytdchpilghgnnoaa
open Go.Eng Go.RowKit

theorem tyPC : TypeIs Try.prog 25 (.pointer none) 1 8 := .of (by kernel_rfl)
theorem tyPB : TypeIs Try.prog 42 (.pointer none) 1 8 := .of (by kernel_rfl)
structure It where
  gc : Nat
  gb : Nat
  B : Option Addr
  d : Nat
def IF (it : It) (k : Nat) : Prop := k = it.gc ∨ BF it.gb it.B it.d 1 k
def atOf (j n : Nat) : Int := if j ≤ n then (j : Int) else 0
structure ItOk (w : World) (base : Nat) (A : Option Addr) (n c : Nat) (it : It) (j : Nat) : Prop where
  cur : Blk w it.gc 94 [.slice A n c, .int .i64 (atOf j n)]
  bld : Bd w base it.gb it.B it.d 1 [(j : Int)] 3
  ne : ¬ BF it.gb it.B it.d 1 it.gc
  lo : base ≤ it.gb
section
variable {w w' : World} {base n c j : Nat} {A : Option Addr} {it : It}
theorem ItOk.mod {M : Nat → Prop} (h : ItOk w base A n c it j) (hm : Mod M w w') (hn : ∀ k, IF it k → ¬ M k) : ItOk w' base A n c it j :=
  ⟨h.cur.mod hm (hn _ (.inl rfl)), h.bld.mod hm fun k hk => hn k (.inr hk), h.ne, h.lo⟩
theorem ItOk.lt (h : ItOk w base A n c it j) : ∀ k, IF it k → k < w.heap.size := by
  rintro k (rfl | hk)
  · exact h.cur.lt
  · exact h.bld.lt k hk
end
theorem beBytes_one {v : Int} (h0 : 0 ≤ v) (h1 : v < 256) : beBytes v 1 = [v] := by
  unfold beBytes patched
  simp [List.range_succ]
  omega
theorem putErr_one {v : Int} {n : Nat} (h0 : 0 ≤ v) (h1 : v < 256) (hn : n ≤ 2) : putErr 1 v n 3 = 0 := by
  have : numErr 1 v = 0 := by unfold numErr; rw [if_neg (by omega), if_neg (by rw [show (256 : Int) ^ (1 : Int).toNat = 256 by decide]; omega)]
  unfold putErr
  rw [this, if_neg (by decide), if_pos (by omega)]
theorem Bd.base' {w : World} {base base' gb c n : Nat} {A : Option Addr} {xs : List Int} {max : Int} (h : Bd w base gb A c n xs max) (hb : base' ≤ base) : Bd w base' gb A c n xs max :=
  { h with own := own_base h.own hb, base := Nat.le_trans hb h.base }

/-- What stands behind the first loop. -/
structure Rows40 (w : World) (base : Nat) (A : Option Addr) (n c i : Nat) (CA : Option Addr) (cc : Nat) (DA : Option Addr) (dc : Nat) (its : List It) : Prop where
  len : its.length = i
  cs : w.ownsRow base 25 1 (.slice CA i cc) i (its.map fun it => .pointer (some ⟨it.gc, 0, none⟩))
  ds : w.ownsRow base 42 1 (.slice DA i dc) i (its.map fun it => .pointer (some ⟨it.gb, 0, none⟩))
  ok : ∀ j (h : j < its.length), ItOk w base A n c its[j] j
  dis : ∀ j j' (h : j < its.length) (h' : j' < its.length), j < j' → ∀ k, IF its[j] k → ¬ IF its[j'] k
  hcs : ∀ j (h : j < its.length), ∀ k, IF its[j] k → some k ≠ (Value.slice CA i cc).ownBlock ∧ some k ≠ (Value.slice DA i dc).ownBlock
  hcd : ∀ k, some k = (Value.slice CA i cc).ownBlock → some k ≠ (Value.slice DA i dc).ownBlock

/-- Behind the second put: what each holds. -/
structure Done40 (w : World) (base : Nat) (A : Option Addr) (n c : Nat) (CA : Option Addr) (cc : Nat) (DA : Option Addr) (dc : Nat) (q : Nat) (its : List It) : Prop where
  len : its.length = 40
  cs : w.ownsRow base 25 1 (.slice CA 40 cc) 40 (its.map fun it => .pointer (some ⟨it.gc, 0, none⟩))
  ds : w.ownsRow base 42 1 (.slice DA 40 dc) 40 (its.map fun it => .pointer (some ⟨it.gb, 0, none⟩))
  cur : ∀ j (h : j < its.length), Blk w its[j].gc 94 [.slice A n c, .int .i64 (atOf j n)]
  bld : ∀ j (h : j < its.length), ∃ B d, Bd w base its[j].gb B d (if j = q then 2 else 1) (if j = q then [(j : Int), 255] else [(j : Int)]) 3

theorem many_end {w0 w : World} {A CA DA : Option Addr} {n c cc dc q : Nat} {its : List It} (hn : n ≤ 1048576) (hE : Ext w0 w) (h : Done40 w w0.heap.size A n c CA cc DA dc q its) (_ : q < 40) :
    LoopVC (S := Int) (fun s w16 K4090 => weirlaw1_ViewMany_L4090 (fun e w' => e = .returned (.bool true) ∧ Ext w0 w') n CA 40 DA 40 (q : Int) s w16 K4090) 0 w := by
  refine LoopVC.of (fun i w' => Ext w w' ∧ ∃ j : Nat, i = (j : Int) ∧ j ≤ 40) (fun i _ => (40 - i).toNat) ⟨Mod.refl _ _, 0, rfl, by omega⟩ ?_
  rintro _ w1 ⟨hE1, j, rfl, hj⟩
  show weirlaw1_ViewMany_L4090 _ n CA 40 DA 40 (q : Int) (j : Int) w1 _
  unfold weirlaw1_ViewMany_L4090
  have hil := h.len
  refine Br.dec (fun hlt => ?_) (fun hge => ?_)
  · refine NewVC.blk fun g3 w17 hg3 hz17 hE17 hb3 => ?_
    rw [wu8 (by omega) (by omega)] at hb3 ⊢
    have hjl : j < its.length := by omega
    refine JoinVC.of (fun s w' => Ext w w' ∧ s.2.1 = (if j = q then 2 else 1) ∧ Cells w' s.1 (((if j = q then [(j : Int), 255] else [(j : Int)]) : List Int).map (.int .u8))) ?_ ?_
    · refine Br.dec (fun e => ?_) (fun e => ?_)
      · have e : j = q := by omega
        refine NewVC.blk fun g4 w18 hg4 hz18 hE18 hb4 => ?_
        refine ⟨(hE1.ext hE17).ext hE18, by rw [if_pos e], ?_⟩
        rw [if_pos e]; simpa using Cells.of_blk hb4 0
      · have e : j ≠ q := by omega
        refine ⟨hE1.ext hE17, by rw [if_neg e], ?_⟩
        rw [if_neg e]; simpa using Cells.of_blk hb3 0
    rintro ⟨WA, wn, wc⟩ w19 ⟨hE19, hwn, hwc⟩
    simp only at hwn hwc
    show weirlaw1_ViewMany_J130889 _ n CA 40 DA 40 (j : Int) _ WA wn wc w19
    unfold weirlaw1_ViewMany_J130889
    refine JoinVC.of (fun s w' => w19 = w' ∧ s = atOf j n) (Br.dec (fun e => ⟨rfl, by unfold atOf; rw [if_neg (by omega)]⟩) (fun e => ⟨rfl, by unfold atOf; rw [if_pos (by omega)]⟩)) ?_
    rintro at_ w20 ⟨rfl, rfl⟩
    unfold weirlaw1_ViewMany_J523559
    have hat : 0 ≤ atOf j n ∧ atOf j n ≤ n := by unfold atOf; split <;> omega
    obtain ⟨B, d, hb⟩ := h.bld j hjl
    have hc := h.cur j hjl
    have hds := own_cells h.ds
    have hcs := own_cells h.cs
    refine IdxVC.of (hds.ext hE19) (by omega) hlt (by simpa using hil) fun a _ ha => ⟨some ⟨its[j].gb, 0, none⟩, by rw [ha]; simp, ?_⟩
    refine (bdDone_spec (hb.ext hE19)).mono ?_
    rintro _ w21 ⟨hE21, g, hg, rfl, hbg⟩
    have hE021 := hE19.ext hE21
    have hBt := hb.bts
    have hlen := hb.len
    refine ⟨_, _, _, rfl, ?_⟩
    have hdc : Cells w21 (some ⟨g, 0, none⟩) (((if j = q then [(j : Int), 255] else [(j : Int)]) : List Int).map (.int .u8)) := by simpa using Cells.of_blk hbg 0
    refine (same_spec hdc (hwc.ext hE21) hlen (by rw [hwn]; exact hlen) hBt hBt).mono ?_
    rintro _ w22 ⟨rfl, rfl⟩
    refine ⟨_, rfl, Br.f (by simp) ?_⟩
    refine IdxVC.of (hds.ext hE021) (by omega) hlt (by simpa using hil) fun a _ ha => ⟨some ⟨its[j].gb, 0, none⟩, by rw [ha]; simp, ?_⟩
    refine (bdLen_spec (hb.ext hE021)).mono ?_
    rintro _ w23 ⟨rfl, rfl⟩
    refine ⟨_, rfl, Br.no (by rw [hwn]; simp) ?_⟩
    refine IdxVC.of (hcs.ext hE021) (by omega) hlt (by simpa using hil) fun a _ ha => ⟨some ⟨its[j].gc, 0, none⟩, by rw [ha]; simp, ?_⟩
    refine (curPlace_spec (hc.ext hE021)).mono ?_
    rintro _ w24 ⟨rfl, rfl⟩
    refine ⟨_, rfl, Br.no (by simp) ?_⟩
    refine IdxVC.of (hcs.ext hE021) (by omega) hlt (by simpa using hil) fun a _ ha => ⟨some ⟨its[j].gc, 0, none⟩, by rw [ha]; simp, ?_⟩
    refine (curLeft_spec (hc.ext hE021) hat.1 hat.2 (by omega)).mono ?_
    rintro _ w25 ⟨hE25, rfl⟩
    refine ⟨_, rfl, Br.no (by rw [w64 (by omega) (by omega)]; omega) ?_⟩
    rw [w64 (n := (j : Int) + 1) (by omega) (by omega)]
    exact ⟨⟨hE021.ext hE25, j + 1, by omega, by omega⟩, by omega⟩
  · refine (started_spec w1).mono ?_
    rintro _ w26 ⟨hE26, rfl⟩
    exact ⟨_, rfl, rfl, (hE.ext hE1).ext hE26⟩

theorem Near.lt {w : World} {A A' : Option Addr} {c n c' n' : Nat} (h : Near w A c n A' c' n') {k : Nat} (hk : some k = (Value.slice A' n' c').ownBlock) (hlt : k < w.heap.size) : some k = (Value.slice A n c).ownBlock := by
  rcases h k hk with e | e
  · exact e
  · omega

/-- One more cursor, one more builder. -/
theorem many_step {w0 w1 : World} {A CA DA : Option Addr} {n c cc dc i : Nat} {bs : List Int} {its : List It} {K : (Option Addr × Nat × Nat) × (Option Addr × Nat × Nat) × Int → World → Prop} {R : Ending → World → Prop} {m : Int}
    (hb : Cells w0 A (bs.map (.int .u8))) (hl : bs.length = n) (hc : n ≤ c) (hn : n ≤ 1048576) (hE : Ext w0 w1) (hi : i < 40) (h : Rows40 w1 w0.heap.size A n c i CA cc DA dc its)
    (hK : ∀ w' CA' cc' DA' dc' its', Ext w0 w' → Rows40 w' w0.heap.size A n c (i + 1) CA' cc' DA' dc' its' → K ((CA', i + 1, cc'), (DA', i + 1, dc'), ((i + 1 : Nat) : Int)) w') :
    weirlaw1_ViewMany_L250 R A n c m CA i cc DA i dc (i : Int) w1 K := by
  unfold weirlaw1_ViewMany_L250
  have hsz1 := hE.size
  have hil := h.len
  refine Br.yes (by omega) ?_
  refine (At_spec (w := w1)).mono ?_
  rintro _ w2 ⟨hE2, rfl, hbc⟩
  have s2 := hbc.lt
  refine ⟨_, rfl, ?_⟩
  refine (newBuilder_spec (w := w2) (max := 3)).mono ?_
  rintro _ w3 ⟨hE3, ⟨hbad, rfl⟩ | ⟨_, rfl, hbd⟩⟩
  · omega
  refine ⟨_, _, rfl, Br.f rfl (Br.f rfl ?_)⟩
  have s3 := hbd.cur.lt
  refine (num_spec _ w3).mono ?_
  rintro _ w4 ⟨rfl, rfl⟩
  refine ⟨_, rfl, Br.no (by decide) ?_⟩
  rw [wu64 (n := (i : Int)) (by omega) (by omega)]
  refine (bdPut_spec (k := 1) (v := (i : Int)) hbd ⟨by omega, by omega⟩).mono ?_
  rintro _ w5 ⟨rfl, hm5, B, d, hnear, hbd⟩
  have hpe : putErr 1 (i : Int) 0 3 = 0 := putErr_one (by omega) (by omega) (by omega)
  have hpn : putN 1 (i : Int) 0 3 = 1 := by unfold putN; rw [if_pos hpe]; rfl
  have hpl : putL 1 (i : Int) [] 0 3 = [(i : Int)] := by
    unfold putL
    rw [if_pos hpe, List.nil_append]
    exact beBytes_one (by omega) (by omega)
  rw [hpn] at hnear hbd
  rw [hpl] at hbd
  rw [hpe]
  refine ⟨_, rfl, ?_⟩
  refine (num_spec _ w5).mono ?_
  rintro _ w6 ⟨rfl, rfl⟩
  refine ⟨_, rfl, Br.no (by decide) ?_⟩
  have hB : ∀ k, BF w2.heap.size B d 1 k → w2.heap.size ≤ k := by
    rintro k (rfl | hk)
    · exact Nat.le_refl _
    · rcases hnear k hk with e | e
      · simp [Value.ownBlock] at e
      · omega
  have hB0 : ∀ k, BF w2.heap.size none 0 0 k → k = w2.heap.size := by
    rintro k (rfl | hk)
    · rfl
    · simp [Value.ownBlock] at hk
  have hE15 : Ext w1 w5 := (hE2.ext hE3).trans' hm5 fun k hk e => by have := hB0 k e; omega
  have hbc5 : Blk w5 w1.heap.size 94 [.slice A n c, .int .i64 0] := (hbc.ext hE3).mod hm5 fun e => by have := hB0 _ e; omega
  refine (curSkip_spec (k := (i : Int)) hbc5 (hb.ext (hE.ext hE15)) hl (by omega) hc).mono ?_
  rintro _ w7 ⟨hm7, rfl, hbc⟩
  have hE17 : Ext w1 w7 := hE15.trans' hm7 fun k hk e => by omega
  have hnb : ¬ BF w2.heap.size B d 1 w1.heap.size := fun e => by have := hB _ e; omega
  have hbd7 : Bd w7 w2.heap.size w2.heap.size B d 1 [(i : Int)] 3 := hbd.mod hm7 fun k hk e => by have := hB k hk; omega
  have hwin : (winS bs 0 (i : Int)).2 = if i ≤ n then 0 else 10 := by
    unfold winS
    by_cases hin : i ≤ n
    · rw [if_pos (by omega), if_pos hin]
    · rw [if_neg (by omega), if_neg hin]
      simp only
      rw [if_neg (by omega)]
  have hnx : nextAt (winS bs 0 (i : Int)).2 0 (i : Int) = atOf i n := by
    rw [hwin]
    unfold nextAt atOf
    by_cases hin : i ≤ n
    · rw [if_pos hin, if_pos hin, if_pos rfl]; omega
    · rw [if_neg hin, if_neg hin, if_neg (by decide)]
  rw [hnx] at hbc
  refine ⟨_, rfl, ?_⟩
  refine (num_spec _ w7).mono ?_
  rintro _ w8 ⟨rfl, rfl⟩
  refine ⟨_, rfl, Br.f ?_ ?_⟩
  · rw [hwin]
    by_cases hin : i ≤ n
    · rw [if_pos hin, decide_eq_true (show (i : Int) ≤ n by omega)]; decide
    · rw [if_neg hin, decide_eq_false (show ¬ (i : Int) ≤ n by omega)]; decide
  have hltC : ∀ k, some k = (Value.slice CA i cc).ownBlock → k < w1.heap.size := fun k hk => (h.cs.lt k hk.symm).2
  have hltD : ∀ k, some k = (Value.slice DA i dc).ownBlock → k < w1.heap.size := fun k hk => (h.ds.lt k hk.symm).2
  have s7 := hE17.size
  let it : It := ⟨w1.heap.size, w2.heap.size, B, d⟩
  have hit : ∀ k, IF it k → w1.heap.size ≤ k := by
    rintro k (rfl | hk)
    · exact Nat.le_refl _
    · have := hB k hk; omega
  have hok7 : ItOk w7 w0.heap.size A n c it i := ⟨hbc, hbd7.base' (by omega), hnb, by show w0.heap.size ≤ w2.heap.size; omega⟩
  have hitlt := hok7.lt
  refine NewVC.blk fun g1 w9 hg1 hz9 hE9 hb1 => ?_
  have hE19 := hE17.ext hE9
  refine AppVC.at Try.underlying90 tyPC rfl (own_ext h.cs hE19) (by simpa using Cells.of_blk hb1 0) rfl (by simp [Value.oneCell']) (by omega) (by decide) (by have := hE19.size; omega) fun CA' cc' w10 hcs10 hm10 hc10 hn10 => ?_
  have hds10 := own_mod (own_ext h.ds hE19) hm10 fun k hk e => h.hcd k e hk.symm
  have s9 := hE19.size
  have s10 := hm10.size
  refine NewVC.blk fun g2 w11 hg2 hz11 hE11 hb2 => ?_
  refine AppVC.at Try.underlying91 tyPB rfl (own_ext hds10 hE11) (by simpa using Cells.of_blk hb2 0) rfl (by simp [Value.oneCell']) (by omega) (by decide) (by omega) fun DA' dc' w12 hds12 hm12 hc12 hn12 => ?_
  have hcsD : ∀ k, some k = (Value.slice CA' (i + 1) cc').ownBlock → some k ≠ (Value.slice DA i dc).ownBlock := fun k hk e => by
    rcases hn10 k hk with e' | e'
    · exact h.hcd k e' e
    · have := hltD k e; omega
  have hcs12 := own_mod (own_ext hcs10 hE11) hm12 fun k hk e => hcsD k hk.symm e
  rw [w64 (n := (i : Int) + 1) (by omega) (by omega)]
  have hmall : ∀ {M : Nat → Prop} (it' : It) (j : Nat), ItOk w9 w0.heap.size A n c it' j → (∀ k, IF it' k → some k ≠ (Value.slice CA i cc).ownBlock ∧ some k ≠ (Value.slice DA i dc).ownBlock) → ItOk w12 w0.heap.size A n c it' j := fun it' j ho hd =>
    ((ho.mod hm10 fun k hk e => (hd k hk).1 e).mod hE11 fun _ _ => id).mod hm12 fun k hk e => (hd k hk).2 e
  have hE0 : Ext w0 w12 := ((((hE.ext hE19).trans' hm10 fun k hk e => by have := own_new h.cs k e.symm; omega).ext hE11)).trans' hm12 fun k hk e => by have := own_new h.ds k e.symm; omega
  have hnear10 : ∀ k, k < w9.heap.size → some k = (Value.slice CA' (i + 1) cc').ownBlock → some k = (Value.slice CA i cc).ownBlock := fun k hk e => by
    rcases hn10 k e with e' | e'
    · exact e'
    · omega
  have hnear12 : ∀ k, k < w11.heap.size → some k = (Value.slice DA' (i + 1) dc').ownBlock → some k = (Value.slice DA i dc).ownBlock := fun k hk e => by
    rcases hn12 k e with e' | e'
    · exact e'
    · omega
  have := hK w12 CA' cc' DA' dc' (its ++ [it]) hE0 ⟨by simp [hil], by simpa using hcs12, by simpa using hds12, ?_, ?_, ?_, ?_⟩
  · have e : ((i + 1 : Nat) : Int) = (i : Int) + 1 := by omega
    rwa [e] at this
  · intro j hj
    by_cases hji : j < its.length
    · rw [List.getElem_append_left hji]
      exact hmall (M := None) _ _ (((h.ok j hji).mod hE19 fun _ _ => id)) (h.hcs j hji)
    · have hje : j = its.length := by simp at hj; omega
      subst hje
      rw [List.getElem_append_right (Nat.le_refl _)]
      simp only [Nat.sub_self, List.getElem_cons_zero]
      rw [hil]
      exact hmall (M := None) it i (hok7.mod hE9 fun _ _ => id) fun k hk => ⟨fun e => by have := hit k hk; have := hltC k e; omega, fun e => by have := hit k hk; have := hltD k e; omega⟩
  · intro j j' hj hj' hjj k hk hk'
    have hji : j < its.length := by simp at hj'; omega
    rw [List.getElem_append_left hji] at hk
    by_cases hji' : j' < its.length
    · rw [List.getElem_append_left hji'] at hk'
      exact h.dis j j' hji hji' hjj k hk hk'
    · have hje : j' = its.length := by simp at hj'; omega
      subst hje
      rw [List.getElem_append_right (Nat.le_refl _)] at hk'
      simp only [Nat.sub_self, List.getElem_cons_zero] at hk'
      have h1 := (h.ok j hji).lt k hk
      have h2 := hit k hk'
      omega
  · intro j hj k hk
    by_cases hji : j < its.length
    · rw [List.getElem_append_left hji] at hk
      have h1 := (h.ok j hji).lt k hk
      have h2 := h.hcs j hji k hk
      exact ⟨fun e => h2.1 (hnear10 k (by omega) e), fun e => h2.2 (hnear12 k (by omega) e)⟩
    · have hje : j = its.length := by simp at hj; omega
      subst hje
      rw [List.getElem_append_right (Nat.le_refl _)] at hk
      simp only [Nat.sub_self, List.getElem_cons_zero] at hk
      have h1 := hitlt k hk
      have h2 := hit k hk
      exact ⟨fun e => by have := hltC k (hnear10 k (by omega) e); omega, fun e => by have := hltD k (hnear12 k (by omega) e); omega⟩
  · intro k hk e
    have hklt := (hcs12.lt k hk.symm).2
    have hklt2 : k < w11.heap.size := by have := (hcs10.lt k hk.symm).2; omega
    exact hcsD k hk (hnear12 k hklt2 e)

theorem many_law {A : Option Addr} {n c : Nat} {bs : List Int} {m : Int} {w : World} (hb : Cells w A (bs.map (.int .u8))) (hl : bs.length = n) (hc : n ≤ c) (hn : n ≤ 1048576) :
    Calls Try.prog 15 #[.slice A n c, .int .i64 m] w fun e w' => e = .returned (.bool true) ∧ Ext w w' := by
  refine weirlaw1_ViewMany_of A n c m w _ ?_
  unfold weirlaw1_ViewMany_VC
  refine LoopVC.of (fun s w' => ∃ (i : Nat) (CA : Option Addr) (cc : Nat) (DA : Option Addr) (dc : Nat) (its : List It), i ≤ 40 ∧ s = ((CA, i, cc), (DA, i, dc), (i : Int)) ∧ Ext w w' ∧ Rows40 w' w.heap.size A n c i CA cc DA dc its) (fun s _ => (40 - s.2.2).toNat)
    ⟨0, none, 0, none, 0, [], by omega, rfl, Mod.refl _ _, rfl, World.ownsRow_nil _ _ _ _, World.ownsRow_nil _ _ _ _, fun j h => by simp at h, fun j j' h => by simp at h, fun j h => by simp at h, fun k hk => by simp [Value.ownBlock] at hk⟩ ?_
  rintro _ w1 ⟨i, CA, cc, DA, dc, its, hi, rfl, hE, h⟩
  by_cases hlt : i < 40
  · refine many_step hb hl hc hn hE hlt h fun w' CA' cc' DA' dc' its' hE' h' => ⟨⟨i + 1, CA', cc', DA', dc', its', by omega, rfl, hE', h'⟩, ?_⟩
    simp only; omega
  have hi40 : i = 40 := by omega
  subst hi40
  show weirlaw1_ViewMany_L250 _ A n c m CA 40 cc DA 40 dc ((40 : Nat) : Int) w1 _
  unfold weirlaw1_ViewMany_L250
  refine Br.no (by omega) ?_
  refine JoinVC.of (fun s w' => w1 = w' ∧ 0 ≤ s ∧ s < 40) (Br.dec (fun _ => ⟨rfl, by omega, by omega⟩) (fun _ => Br.dec (fun _ => ⟨rfl, by omega, by omega⟩) (fun _ => ⟨rfl, by omega, by omega⟩))) ?_
  rintro q' w13 ⟨rfl, hq0, hq1⟩
  obtain ⟨q, rfl⟩ := Int.eq_ofNat_of_zero_le hq0
  unfold weirlaw1_ViewMany_J63
  have hil := h.len
  have hql : q < its.length := by omega
  refine IdxVC.of (own_cells h.ds) (by omega) hq1 (by simpa using hil) fun a _ ha => ⟨some ⟨its[q].gb, 0, none⟩, by rw [ha]; simp, ?_⟩
  have hoq := h.ok q hql
  refine (bdPut_spec (k := 1) (v := 255) hoq.bld ⟨by decide, by decide⟩).mono ?_
  rintro _ w14 ⟨rfl, hm14, B, d, hnear, hbd⟩
  have hpe : putErr 1 255 1 3 = 0 := putErr_one (by decide) (by decide) (by decide)
  have hpn : putN 1 255 1 3 = 2 := by unfold putN; rw [if_pos hpe]; rfl
  have hpl : putL 1 255 [(q : Int)] 1 3 = [(q : Int), 255] := by
    unfold putL
    rw [if_pos hpe, show (1 : Int).toNat = 1 by rfl, beBytes_one (by decide) (by decide)]; rfl
  rw [hpn, hpl] at hbd
  rw [hpe]
  refine ⟨_, rfl, ?_⟩
  refine (num_spec _ w14).mono ?_
  rintro _ w15 ⟨rfl, rfl⟩
  refine ⟨_, rfl, Br.no (by decide) ?_⟩
  have hE14 : Ext w w14 := hE.trans' hm14 fun k hk e => by
    rcases e with rfl | e
    · have := hoq.lo; omega
    · have := own_new hoq.bld.own k e.symm; omega
  refine many_end hn hE14 (A := A) (cc := cc) (dc := dc) (c := c) (its := its) ⟨hil, ?_, ?_, ?_, ?_⟩ (by omega)
  · exact own_mod h.cs hm14 fun k hk e => (h.hcs q hql k (.inr e)).1 hk.symm
  · exact own_mod h.ds hm14 fun k hk e => (h.hcs q hql k (.inr e)).2 hk.symm
  · intro j hj
    have ho := h.ok j hj
    by_cases e : j = q
    · subst e
      exact ho.cur.mod hm14 ho.ne
    · refine ho.cur.mod hm14 fun hk => ?_
      rcases Nat.lt_or_gt_of_ne e with hlt | hgt
      · exact h.dis j q hj hql hlt _ (.inl rfl) (.inr hk)
      · exact h.dis q j hql hj hgt _ (.inr hk) (.inl rfl)
  · intro j hj
    have ho := h.ok j hj
    by_cases e : j = q
    · subst e
      rw [if_pos rfl, if_pos rfl]
      exact ⟨B, d, hbd⟩
    · rw [if_neg e, if_neg e]
      refine ⟨_, _, ho.bld.mod hm14 fun k hk hk' => ?_⟩
      rcases Nat.lt_or_gt_of_ne e with hlt | hgt
      · exact h.dis j q hj hql hlt k (.inr hk) (.inr hk')
      · exact h.dis q j hql hj hgt k (.inr hk') (.inr hk)
end Go.Proofs.Ytdchpilghgnnoaa
